/- FnTextValid answers true: the walk. -/
import Derived.Test.YtdkneilgaoaajaaDr2
namespace Go.Proofs.Ytdkneilgaoaajaa.fnTextValid
open Go.RowKit

theorem letS_push {s : ByteArray} : ¬ letS (s ++ ⟨#[100]⟩) := by
  intro h
  have := h s.size (by rw [ByteArray.size_append]; exact Nat.lt_succ_self _)
  rw [ByteArray.getElem_append_right (Nat.le_refl _)] at this
  simp only [Nat.sub_self] at this
  revert this
  show ¬ letB 100
  unfold letB
  decide
theorem letS_sub {s : ByteArray} (k : Nat) (h : letS s) : letS (s.extract k s.size) := by
  intro j hj
  rw [ByteArray.getElem_extract]
  exact h _ _

set_option maxHeartbeats 400000 in
theorem walk (w : World) (v : Value) (bs : List UInt8) (h : Bytes (fun _ => True) w v bs) :
    Calls Try.prog 4 #[v] w (Yes w) := by
  obtain ⟨a, cap, rfl, hn⟩ := h.shape
  have H := Lib.hid h; clear h
  by_cases hl : 1048576 < bs.length
  · go_enter Try.func4, Try.ntmps4
    go_wp2
    go_ret
    exact ⟨rfl, Below.refl _ _⟩
  · go_enter Try.func4, Try.ntmps4
    go_wp2_with fail
    refine (DrawTextValid_c _ _ _ H.out).mono ?_
    rintro e w1 ⟨s, rfl, hb1, hs'⟩
    have hs : s.size ≤ 85 := hs'.out
    have hs2 : s.size ≤ maxLen := by unfold maxLen; omega
    clear hs'
    go_wp2_with fail
    refine (TextValid_c _ _ hs2).mono ?_
    rintro e w' ⟨b, rfl, rfl, hb⟩
    go_wp2_with fail
    refine (sTextValid_c _ _ hs2).mono ?_
    rintro e w' ⟨c, rfl, rfl, hc⟩
    obtain rfl : b = c := boolEq hb hc
    clear hc
    have hbb := bneSelf b
    go_wp2_with fail
    refine (WordValid_c _ _ hs2).mono ?_
    rintro e w' ⟨d, rfl, rfl, hd⟩
    have hsd : (s ++ ⟨#[100]⟩ : ByteArray).size ≤ maxLen := by rw [ByteArray.size_append]; show s.size + 1 ≤ maxLen; unfold maxLen; omega
    have hse : (s.extract (s.size / 2) s.size : ByteArray).size ≤ maxLen := by rw [ByteArray.size_extract]; unfold maxLen; omega
    cases b
    · have hb' := Lib.hid (hbF hb)
      cases d
      · clear hb hd
        go_wp2_with fail
        refine (TextValid_c _ _ hsd).mono ?_
        rintro e w' ⟨c, rfl, rfl, hc⟩
        cases c
        · clear hc
          go_wp2_with fail
          refine (alive_c _).mono ?_
          rintro e w' ⟨c, rfl, rfl, hc⟩
          cases c
          · exact (hbF hc trivial).elim
          go_wp2
          go_ret
          exact ⟨rfl, hb1⟩
        · exact (letS_push (hbT hc).1).elim
      · exact (hb'.out ⟨(hbT hd).1, Nat.le_trans (hbT hd).2 (by decide)⟩).elim
    · have hb' := Lib.hid (hbT hb)
      cases d
      all_goals
        clear hb hd
        go_wp2_with fail
        refine (TextValid_c _ _ hse).mono ?_
        rintro e w' ⟨c, rfl, rfl, hc⟩
        cases c
        · exact (hbF hc ⟨letS_sub _ hb'.out.1, by have := hb'.out.2; rw [ByteArray.size_extract]; omega⟩).elim
        clear hc
        go_wp2_with fail
        refine (TextValid_c _ _ hsd).mono ?_
        rintro e w' ⟨c, rfl, rfl, hc⟩
        cases c
        · clear hc
          go_wp2_with fail
          refine (alive_c _).mono ?_
          rintro e w' ⟨c, rfl, rfl, hc⟩
          cases c
          · exact (hbF hc trivial).elim
          go_wp2
          go_ret
          exact ⟨rfl, hb1⟩
        · exact (letS_push (hbT hc).1).elim
end Go.Proofs.Ytdkneilgaoaajaa.fnTextValid

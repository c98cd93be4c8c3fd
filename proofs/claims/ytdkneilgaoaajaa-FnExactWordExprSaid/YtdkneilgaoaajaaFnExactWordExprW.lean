/- FnExactWordExpr answers true: the walk. -/
import Derived.Test.YtdkneilgaoaajaaWex
import Derived.Test.YtdkneilgaoaajaaFam
import Derived.Test.YtdkneilgaoaajaaFa2
namespace Go.Proofs.Ytdkneilgaoaajaa.fnExactWordExpr
open Go.RowKit
set_option maxRecDepth 100000

theorem both (s : ByteArray) (hs : s.size ≤ maxLen) : ∃ xs : List (Int × Int), xs.length ≤ 1000 ∧ (∀ w, Calls Try.prog 20 #[.string s] w (RVn w fun v w' => OwnP w' w.heap.size v xs)) ∧
    (∀ w, Calls Try.prog 21 #[.string s] w (RVn w fun v w' => OwnP w' w.heap.size v xs)) := by
  by_cases hv : letS s ∧ s.size ≤ 8
  · refine ⟨weX s.data.toList, ?_, fun w => sWordExpr_c s w hs hv, fun w => WordExpr_c s w hv⟩
    have := weP_len s.data.toList
    have h8 : s.data.toList.length = s.size := by simp
    unfold weX; split
    · simp
    · omega
  · exact ⟨[], by simp, fun w => sWordExpr_no s w hs hv, fun w => WordExpr_no s w hs hv⟩

set_option maxHeartbeats 800000 in
theorem walk (w : World) (a0 : ByteArray) (w0 : a0.size ≤ maxLen) :
    Calls Try.prog 5 #[.string a0] w (Yes w) := by
  obtain ⟨xs, hxl, hS, hI⟩ := both a0 w0
  have HS := Lib.hid hS; clear hS
  have HI := Lib.hid hI; clear hI
  unfold maxLen at w0
  by_cases h20 : a0.size ≤ 1048576
  · go_enter Try.func5, Try.ntmps5
    go_wp2_with fail
    refine (HS.out _).mono ?_
    rintro e w1 ⟨v1, rfl, hb1, ho1⟩
    go_wp2_with fail
    refine (HI.out _).mono ?_
    rintro e w2 ⟨v2, rfl, hb2, ho2⟩
    have hw0 : Hid (Pairs (· < w1.heap.size) w2 v1 xs) := ((ho1.out.rd.inHeap).mono (fun b h => h.2)).stay (kpB hb2)
    have hg0 : Hid (FlW (w1.heap.size ≤ ·) w2 v2 xs.length (cells2 xs)) := ownFl ho2.out
    go_wp2_with fail
    refine (eqPartS_c v2 v1 xs _ (FlW.fl hg0.out) hw0.out).mono ?_
    rintro e w3 ⟨b, rfl, hb3, hp⟩
    cases b
    · exact (hbF hp trivial).elim
    clear hp
    have hg1 := Lib.hid (hg0.out.stay (ksB hb3))
    have hw1 := Lib.hid (hw0.out.stay (kpB hb3))
    go_wp2_with fail
    refine (markPartS_c v2 xs.length _ 1 _ hg1.out (by rw [length_cells2]) (by omega) (by omega)).mono ?_
    rintro e w4 ⟨rfl, hgr, hg2⟩
    go_wp2_with fail
    refine (heldPartS_c v2 xs.length 1 _ (FlW.fl hg2.out) (by omega) (by omega)).mono ?_
    rintro e w' ⟨rfl, rfl⟩
    have hk2 : ∀ k, v2.ownBlock = some k → w1.heap.size ≤ k := fun k hk => (World.ownsRow.lt ho2.out k hk).1
    have hsz : w1.heap.size ≤ w3.heap.size := Nat.le_trans hb2.size hb3.size
    have hb4 := grownLow hgr hk2 hsz
    have hw4 := Lib.hid (hw1.out.stay (kpL hb4))
    clear hk2 hgr hw1 hg1 hw0 hg0 ho1 ho2
    have hne := bneS (1 + 2 * (xs.length : Int))
    go_wp2_with fail
    refine (HI.out _).mono ?_
    rintro e w5 ⟨v3, rfl, hb5, ho3⟩
    have hw5 := Lib.hid (hw4.out.stay (kpB hb5))
    have hg5 := Lib.hid (hg2.out.stay (ksB hb5))
    go_wp2_with fail
    refine (eqPartS_c v3 v1 xs _ (ho3.out.rd) hw5.out).mono ?_
    rintro e w6 ⟨b, rfl, hb6, hp⟩
    cases b
    · exact (hbF hp trivial).elim
    clear hp
    have hg6 := Lib.hid (hg5.out.stay (ksB hb6))
    have hB : Below w.heap.size w w6 := hb1.trans (((hb2.mono hb1.size).trans (hb3.mono (by have := hb1.size; have := hb2.size; omega))).trans (((hb4.mono hb1.size).trans (hb5.mono (by have := hb1.size; have := hb4.size; omega))).trans (hb6.mono (by have := hb1.size; have := hb4.size; have := hb5.size; omega))))
    clear hb1 hb2 hb3 hb4 hb5 hb6 hw5 hw4 hg5 hg2 ho3 hsz
    go_wp2_with fail
    refine (heldPartS_c v2 xs.length 1 _ (FlW.fl hg6.out) (by omega) (by omega)).mono ?_
    rintro e w' ⟨rfl, rfl⟩
    go_wp2
    go_ret
    exact ⟨rfl, hB⟩
  · go_enter Try.func5, Try.ntmps5
    go_wp2
    go_ret
    exact ⟨rfl, Below.refl _ _⟩
end Go.Proofs.Ytdkneilgaoaajaa.fnExactWordExpr

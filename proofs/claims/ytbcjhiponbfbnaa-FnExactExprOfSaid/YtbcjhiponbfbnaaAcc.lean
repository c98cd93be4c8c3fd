/- accepts and ExprAccepts of the program. -/
import Derived.Test.YtbcjhiponbfbnaaSps
import Derived.Test.YtbcjhiponbfbnaaIpl
set_option linter.unusedSimpArgs false
set_option linter.unusedVariables false
set_option linter.unusedSectionVars false
namespace Go.Proofs.Ytbcjhiponbfbnaa
open Go.RowKit
set_option maxRecDepth 100000
variable {S T : Nat → Prop}
theorem idx9a (f : Tb) (w : World) : (Instr.index 107 (.agg (tab9 f)) (.int .i64 0)).run Try.prog w = .ok (.agg ((tab9 f).extract 0 9)) w := by
  have h9 : (Try.prog.info? 105).map (·.size) = some 9 := by kernel_rfl
  obtain ⟨i, hi, hs⟩ := Option.map_eq_some_iff.1 h9
  simp [Instr.index, run_underlying Try.underlying107, asIntOf, sizeOf, typeInfo, Go.part, isAgg, run_underlying Try.underlying105, hi, hs]
theorem idx9b (f : Tb) {n : Nat} (hn : n < 9) (w : World) : (Instr.index 105 (.agg ((tab9 f).extract 0 9)) (.int .i64 n)).run Try.prog w = .ok (.bool (f 0 n)) w := by
  have h9 : (Try.prog.info? 4).map (·.size) = some 1 := by kernel_rfl
  obtain ⟨i, hi, hs⟩ := Option.map_eq_some_iff.1 h9
  have hu : Try.prog.underlying 4 = some .bool := by kernel_rfl
  have hg : ((tab9 f).extract 0 9)[n]? = some (.bool (f 0 n)) := by
    have h := tab9_at f (i := 0) (j := n) (by omega) hn
    rw [Nat.zero_mul, Nat.zero_add] at h
    rw [Array.getElem?_extract, if_pos (by rw [tab9_size]; omega), Nat.zero_add]; exact h
  have hnI : (n : Int) < 9 := by omega
  simp [Instr.index, run_underlying Try.underlying105, asIntOf, sizeOf, typeInfo, Go.part, isAgg, hu, run_underlying hu, hi, hs, hg, hnI]
  omega
set_option maxHeartbeats 400000 in
theorem accepts_c (t : Re) (ht : t.wf) (hl : t.flat.length ≤ 60) (s : ByteArray) (hs8 : s.size ≤ 8) (hls : letS s) (v : Value) (w : World) (h : Pairs S w v t.flat) : Calls Try.prog 49 #[v, .string s] w (RO w (.bool (spT (ltrs s) t 0 s.size))) := by
  obtain ⟨a, cap, rfl, _⟩ := h.shape
  have H := Lib.hid h; clear h
  have hlen : (s.size : Int) < 9 := by omega
  go_enter Try.func49, Try.ntmps49
  go_wp2_with fail
  refine (spansOf_c t ht hl s hs8 hls _ w H.out).mono ?_
  rintro e w1 ⟨rfl, hb⟩
  obtain ⟨f, hf⟩ : ∃ f, f = spT (ltrs s) t := ⟨_, rfl⟩
  rw [← hf]
  have hi1 := idx9a f
  have hi2 := idx9b f (show s.size < 9 by omega)
  have HF := Lib.hid hf; clear hf
  go_wp2
  go_ret
  exact ⟨by rw [← HF.out]; rfl, hb⟩
/-- The word is in the language of the expression. -/
def Acc (e : List (Int × Int)) (s : ByteArray) : Prop := (ExprOk e ∧ letS s ∧ s.size ≤ 8) ∧ ∃ t : Re, t.wf ∧ t.flat = e ∧ t.lang (ltrs s)
theorem acc_iff {t : Re} (ht : t.wf) {s : ByteArray} (h : ExprOk t.flat ∧ letS s ∧ s.size ≤ 8) : Acc t.flat s ↔ t.lang (ltrs s) :=
  ⟨fun ⟨_, u, hu, he, hL⟩ => by rw [← flat_inj hu ht he]; exact hL, fun hL => ⟨h, t, ht, rfl, hL⟩⟩
set_option maxHeartbeats 400000 in
theorem ExprAccepts_c (v : Value) (e : List (Int × Int)) (s : ByteArray) (hs : s.size ≤ maxLen) (w : World) (h : Pairs S w v e) : Calls Try.prog 14 #[v, .string s] w (RBn w (Acc e s)) := by
  obtain ⟨a, cap, rfl, _⟩ := h.shape
  have H := Lib.hid h; clear h
  go_enter Try.func14, Try.ntmps14
  go_wp2_with fail
  refine (ExprValid_c _ e w H.out).mono ?_
  rintro x w1 ⟨b1, rfl, hb, hv⟩
  cases b1
  · have hno := Lib.hid (hbF hv); clear hv
    go_wp2
    go_ret
    exact RBn.mk hb ⟨nofun, fun h => absurd h.1.1 hno.out⟩
  have hok := Lib.hid (hbT hv); clear hv
  go_wp2_with fail
  refine (WordValid_c s w1 hs).mono ?_
  rintro x w2 ⟨b2, rfl, rfl, hv⟩
  cases b2
  · have hno := Lib.hid (hbF hv); clear hv
    go_wp2
    go_ret
    exact RBn.mk hb ⟨nofun, fun h => absurd h.1.2 hno.out⟩
  have hwd := Lib.hid (hbT hv); clear hv
  obtain ⟨⟨t, hp⟩, hl⟩ := (exprOk_parse e).1 hok.out
  have ht : t.wf := parse_wf hp t (List.mem_singleton.2 rfl)
  have he : t.flat = e := by have h := parse_flats hp; simpa [flats] using h
  subst he
  have H1 := Lib.hid (H.out.stay (kpB hb))
  have HT := Lib.hid ht
  clear hp hl ht
  go_wp2_with fail
  refine (accepts_c t HT.out (by have := hok.out.2; exact this) s hwd.out.2 hwd.out.1 _ w1 H1.out).mono ?_
  rintro x w3 ⟨rfl, hb3⟩
  have hiff : spT (ltrs s) t 0 s.size = true ↔ Acc t.flat s := by
    rw [acc_iff HT.out ⟨hok.out, hwd.out⟩, spT_lang (ltrs s) t (Nat.zero_le _) (by rw [ltrs_len]; exact Nat.le_refl _)]
    unfold spL
    rw [← ltrs_len s, spn_all]
  have HB := Lib.hid (hb.trans (hb3.mono hb.size))
  have HI := Lib.hid hiff; clear hiff hb hb3
  generalize spT (ltrs s) t 0 s.size = q at *
  cases q
  · have HNo := Lib.hid (hbF HI); clear HI
    go_wp2
    go_ret
    exact RBn.mk HB.out ⟨nofun, fun h => absurd h HNo.out⟩
  · have HYes := Lib.hid (hbT HI); clear HI
    go_wp2
    go_ret
    exact RBn.mk HB.out ⟨fun _ => HYes.out, fun _ => rfl⟩
end Go.Proofs.Ytbcjhiponbfbnaa

/- Whether an expression is plain: the program's answer. -/
import Derived.Test.YtnjddneelkdmoaaFtq
import Derived.Test.YtnjddneelkdmoaaLpl
set_option linter.unusedSimpArgs false
set_option linter.unusedVariables false
set_option linter.unusedSectionVars false
namespace Go.Proofs.Ytnjddneelkdmoaa
open Go.RowKit
set_option maxRecDepth 100000
variable {S T : Nat → Prop}
theorem idxFuncPart_c (v : Value) (xs : List (Int × Int)) (w : World) (h : Pairs S w v xs) (f : FuncId) (cs : Array Value) (p : Int × Int → Prop) (hcf : HasBody f)
    (hf : ∀ x ∈ xs, ∀ w', Below w.heap.size w w' → Calls Try.prog f (#[.agg #[.int .i64 x.1, .int .i64 x.2]] ++ cs) w' (RBn w' (p x))) :
    Calls Try.prog 199 #[v, .func (.func f) #[] cs] w (RIn w fun n => (n = -1 ∧ ∀ x ∈ xs, ¬ p x) ∨ (0 ≤ n ∧ ∃ x ∈ xs, p x)) := by
  obtain ⟨a, cap, rfl, hn⟩ := h.shape
  have H := Lib.hid h; clear h
  have HF := Lib.hid hf; clear hf
  have HC := Lib.hid hcf; clear hcf
  go_enter Try.func199, Try.ntmps199
  go_wp2
  go_loopw [8] (fun i wr => ∃ k : Nat, k ≤ xs.length ∧ i = .int .i64 k ∧ Below w.heap.size w wr ∧ Hid (∀ j (hj : j < xs.length), j < k → ¬ p xs[j])) (fun i _ => xs.length - (intOf i).toNat)
  case atStart => exact ⟨0, by omega, rfl, Below.refl _ _, fun j _ hj => absurd hj (Nat.not_lt_zero _)⟩
  case round =>
    obtain ⟨k, hk, rfl, hb, hr⟩ := hrel
    by_cases hlt : k < xs.length
    · obtain ⟨b, off, rfl, h0, h1⟩ := (Pairs.stay H.out (kpB hb)).at hlt
      have Hf := Lib.hid (HF.out _ (List.getElem_mem hlt) wr hb)
      obtain ⟨x, hx⟩ : ∃ x, x = xs[k] := ⟨_, rfl⟩
      rw [← hx] at h0 h1 Hf
      have Hx := Lib.hid hx; clear hx
      go_wp2_with fail
      rw [HC.out, Oper.upon_enter]
      refine Hf.out.mono ?_
      rintro e w' ⟨b, rfl, hb2, hbp⟩
      have hB := hb.trans (hb2.mono hb.size)
      clear h0 h1 hb hb2
      cases b
      · have hp := Lib.hid (hbF hbp); clear hbp
        go_wp2
        go_roundw
        case rel => exact ⟨k + 1, by omega, by go_num, hB, fun j hj hjk => by
          rcases Nat.lt_succ_iff_lt_or_eq.1 hjk with h | rfl
          · exact hr.out j hj h
          · rw [← Hx.out]; exact hp.out⟩
        case measure => simp [intOf]; omega
      · have hp := Lib.hid (hbT hbp); clear hbp
        go_wp2
        go_ret
        exact RIn.mk hB (.inr ⟨by omega, x, by rw [Hx.out]; exact List.getElem_mem hlt, hp.out⟩)
    · go_wp2
      go_ret
      exact RIn.mk hb (.inl ⟨rfl, fun x hx => by
        obtain ⟨j, hj, rfl⟩ := List.getElem_of_mem hx
        exact hr.out j hj (by omega)⟩)
theorem contFuncPart_c (v : Value) (xs : List (Int × Int)) (w : World) (h : Pairs S w v xs) (f : FuncId) (cs : Array Value) (p : Int × Int → Prop) (hcf : HasBody f)
    (hf : ∀ x ∈ xs, ∀ w', Below w.heap.size w w' → Calls Try.prog f (#[.agg #[.int .i64 x.1, .int .i64 x.2]] ++ cs) w' (RBn w' (p x))) :
    Calls Try.prog 157 #[v, .func (.func f) #[] cs] w (RBn w (∃ x ∈ xs, p x)) := by
  have H := Lib.hid (idxFuncPart_c v xs w h f cs p hcf hf)
  clear h hf hcf
  go_enter Try.func157, Try.ntmps157
  go_wp2_with fail
  refine H.out.mono ?_
  rintro e w' ⟨n, rfl, hb, hn⟩
  rcases hn.out with ⟨rfl, h⟩ | ⟨h0, h⟩
  · have h' := Lib.hid h
    clear hn h
    go_wp2
    go_ret
    exact RBn.mk hb ⟨nofun, fun ⟨x, hx, hp⟩ => (h'.out x hx hp).elim⟩
  · have h' := Lib.hid h
    clear hn h
    go_wp2
    go_ret
    exact RBn.mk hb ⟨fun _ => h'.out, fun _ => rfl⟩
set_option maxHeartbeats 1000000 in
theorem isPlain1_c (m : Int × Int) (w : World) : Calls Try.prog 158 (#[.agg #[.int .i64 m.1, .int .i64 m.2]] ++ #[]) w (RBn w (m.1 = 6 ∨ m.1 = 7)) := by
  obtain ⟨x, y⟩ := m
  dsimp only
  have hb0 : Below w.heap.size w (w.alloc (.cells #[.int .i64 x, .int .i64 y] 52)) := (Below.refl _ _).alloc (Nat.le_refl _) _
  have Hb0 := Lib.hid hb0
  clear hb0
  by_cases h6 : x = 6
  · subst h6
    go_enter Try.func158, Try.ntmps158
    go_wp2
    go_ret
    exact RBn.mk Hb0.out ⟨fun _ => .inl (by decide), fun _ => rfl⟩
  · have e6 : (x == 6) = false := by simpa using h6
    by_cases h7 : x = 7
    · subst h7
      clear h6 e6
      go_enter Try.func158, Try.ntmps158
      go_wp2
      go_ret
      exact RBn.mk Hb0.out ⟨fun _ => .inr (by decide), fun _ => rfl⟩
    · have e7 : (x == 7) = false := by simpa using h7
      have HN : Hid (¬ (x = 6 ∨ x = 7)) := fun h => h.elim h6 h7
      clear h6 h7
      go_enter Try.func158, Try.ntmps158
      go_wp2
      go_ret
      exact RBn.mk Hb0.out ⟨nofun, fun h => absurd h HN.out⟩
theorem body_isPlain1 : HasBody 158 := by
  intro args w
  kernel_rfl
set_option maxHeartbeats 800000 in
theorem isPlain_c (v : Value) (e : List (Int × Int)) (w : World) (h : Pairs S w v e) : Calls Try.prog 89 #[v] w (RBn w (ExprOk e ∧ plainE e)) := by
  obtain ⟨a, cap, rfl, hn⟩ := h.shape
  have H := Lib.hid h; clear h
  go_enter Try.func89, Try.ntmps89
  go_wp2_with fail
  refine (ExprValid_c _ e w H.out).mono ?_
  rintro x w1 ⟨b1, rfl, hb, hv⟩
  cases b1
  · have hno := Lib.hid (hbF hv); clear hv
    go_wp2
    go_ret
    exact RBn.mk hb ⟨nofun, fun h => absurd h.1 hno.out⟩
  have Hok := Lib.hid (hbT hv); clear hv
  go_wp2_with fail
  refine (contFuncPart_c _ e w1 (H.out.stay (kpB hb)) 158 #[] (fun m => m.1 = 6 ∨ m.1 = 7) body_isPlain1 (fun m _ w' _ => isPlain1_c m w')).mono ?_
  rintro x w2 ⟨b2, rfl, hb2, h2⟩
  have hB := Lib.hid (hb.trans (hb2.mono hb.size))
  clear hb hb2
  cases b2
  · have hp := Lib.hid (hbF h2); clear h2
    go_wp2
    go_ret
    exact RBn.mk hB.out ⟨fun _ => ⟨Hok.out, fun p hp1 => ⟨fun h => hp.out ⟨p, hp1, .inl h⟩, fun h => hp.out ⟨p, hp1, .inr h⟩⟩⟩, fun _ => rfl⟩
  · have hp := Lib.hid (hbT h2); clear h2
    go_wp2
    go_ret
    exact RBn.mk hB.out ⟨nofun, fun h => by obtain ⟨p, hp1, hp2⟩ := hp.out; exact absurd hp2 (fun k => k.elim (h.2 p hp1).1 (h.2 p hp1).2)⟩
end Go.Proofs.Ytnjddneelkdmoaa

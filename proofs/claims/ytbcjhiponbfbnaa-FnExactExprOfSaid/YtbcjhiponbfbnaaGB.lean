/- Automata are valid: the program's and the reference's answer; searching a list of ints by a function.
Rows: blocks that a call made, known whole: ints, bools, strings; made, read, written. Lengths of at most 10^9.
Maps that a call made: keys to their numbers, in the order in which they came.
Building an automaton: row by row, mark by mark.
append of a list, as a step of a region that draws.
Pairs of numbers as keys.
Exploring: what memory holds on the way. -/
import Derived.Maps.OwnOps
import Derived.Maps.AppendAt
import Derived.Deep.AppendLies
import Derived.Deep.RegionLaw
import Derived.DeepKeys5
import Derived.Test.YtbcjhiponbfbnaaGA
set_option linter.unusedSimpArgs false
set_option linter.unusedVariables false
set_option linter.unusedSectionVars false
namespace Go.Proofs.Ytbcjhiponbfbnaa
open Go.RowKit
set_option maxRecDepth 100000
/-- Function f has a body of its own. -/
def HasBody (f : FuncId) : Prop := ∀ (args : Array Value) (w : World), (callFunc f args).run Try.prog w = .ok (.enter f args) w
theorem idxFuncInt_c {S : Nat → Prop} (v : Value) (xs : List Int) (w : World) (h : Ints S w v xs) (f : FuncId) (cs : Array Value) (p : Int → Prop) (hcf : HasBody f)
    (hf : ∀ x ∈ xs, Calls Try.prog f (#[.int .i64 x] ++ cs) w (RB w (p x))) :
    Calls Try.prog 143 #[v, .func (.func f) #[] cs] w (RI w fun n => (n = -1 ∧ ∀ x ∈ xs, ¬ p x) ∨ (0 ≤ n ∧ ∃ x ∈ xs, p x)) := by
  obtain ⟨a, cap, rfl, hn⟩ := h.shape
  have H := Lib.hid h; clear h
  have HF := Lib.hid hf; clear hf
  have HC := Lib.hid hcf; clear hcf
  go_enter Try.func143, Try.ntmps143
  go_wp2
  go_loop [8] (fun i => ∃ k : Nat, k ≤ xs.length ∧ i = .int .i64 k ∧ Hid (∀ j (hj : j < xs.length), j < k → ¬ p xs[j])) (fun i => xs.length - (intOf i).toNat)
  case atStart => exact ⟨0, by omega, rfl, fun j _ hj => absurd hj (Nat.not_lt_zero _)⟩
  case round =>
    obtain ⟨k, hk, rfl, hr⟩ := hrel
    by_cases hlt : k < xs.length
    · obtain ⟨b, off, rfl, hc⟩ := H.out.at hlt
      have Hf := Lib.hid (HF.out _ (List.getElem_mem hlt))
      have hx' : ∃ x, x = xs[k] := ⟨_, rfl⟩
      obtain ⟨x, hx⟩ := hx'
      rw [← hx] at hc Hf
      have Hx := Lib.hid hx; clear hx
      go_wp2_with fail
      rw [HC.out, Oper.upon_enter]
      refine Hf.out.mono ?_
      rintro e w' ⟨b, rfl, rfl, hb⟩
      cases b
      · have hp := Lib.hid (hbF hb); clear hb
        go_wp2
        go_round
        case rel => exact ⟨k + 1, by omega, by go_num, fun j hj hjk => by
          rcases Nat.lt_succ_iff_lt_or_eq.1 hjk with h | rfl
          · exact hr.out j hj h
          · rw [← Hx.out]; exact hp.out⟩
        case measure => simp [intOf]; omega
      · have hp := Lib.hid (hbT hb); clear hb
        go_wp2
        go_ret
        exact RI.mk (.inr ⟨by omega, x, by rw [Hx.out]; exact List.getElem_mem hlt, hp.out⟩)
    · go_wp2
      go_ret
      exact RI.mk (.inl ⟨rfl, fun x hx => by
        obtain ⟨j, hj, rfl⟩ := List.getElem_of_mem hx
        exact hr.out j hj (by omega)⟩)
theorem contFuncInt_c {S : Nat → Prop} (v : Value) (xs : List Int) (w : World) (h : Ints S w v xs) (f : FuncId) (cs : Array Value) (p : Int → Prop) (hcf : HasBody f)
    (hf : ∀ x ∈ xs, Calls Try.prog f (#[.int .i64 x] ++ cs) w (RB w (p x))) :
    Calls Try.prog 107 #[v, .func (.func f) #[] cs] w (RB w (∃ x ∈ xs, p x)) := by
  have H := Lib.hid (idxFuncInt_c v xs w h f cs p hcf hf)
  clear h hf hcf
  go_enter Try.func107, Try.ntmps107
  go_wp2_with fail
  refine H.out.mono ?_
  rintro e w' ⟨n, rfl, rfl, hn⟩
  rcases hn.out with ⟨rfl, h⟩ | ⟨h0, h⟩
  · have h' := Lib.hid h
    clear hn h
    go_wp2
    go_ret
    exact RB.mk ⟨nofun, fun ⟨x, hx, hp⟩ => (h'.out x hx hp).elim⟩
  · have h' := Lib.hid h
    clear hn h
    go_wp2
    go_ret
    exact RB.mk ⟨fun _ => h'.out, fun _ => rfl⟩
theorem inRow_c (x n : Int) (b : Nat) (w : World) (h : w.cell? ⟨b, 0, none⟩ = some (.int .i64 n)) (hn : 0 ≤ n ∧ n ≤ 9223372036854775807) :
    Calls Try.prog 108 (#[.int .i64 x] ++ #[.pointer (some ⟨b, 0, none⟩)]) w (RB w (¬ (0 ≤ x ∧ x ≤ n - 1))) := by
  obtain ⟨hn0, hn1⟩ := hn
  go_enter Try.func108, Try.ntmps108
  go_wp2_with fail
  refine (within_c _ _ _ _).mono ?_
  rintro e w' ⟨b, rfl, rfl, hb⟩
  cases b
  · have hp := Lib.hid (hbF hb); clear hb
    go_wp2
    go_ret
    exact RB.mk ⟨fun _ => hp.out, fun _ => rfl⟩
  · have hp := Lib.hid (hbT hb); clear hb
    go_wp2
    go_ret
    exact RB.mk ⟨nofun, fun h => (h hp.out).elim⟩
theorem body_inRow : HasBody 108 := by
  intro args w
  kernel_rfl
theorem DfaR.shapes {S : Nat → Prop} {w : World} {vn ve : Value} {D : DfaD} (h : DfaR S w vn ve D) : ∃ a c b d, vn = .slice a D.1.length c ∧ ve = .slice b D.2.length d ∧ D.1.length ≤ 9223372036854775807 ∧ D.2.length ≤ 9223372036854775807 := by
  obtain ⟨a, c, e1, h1⟩ := IntSS.shape h.1
  obtain ⟨b, d, e2, h2⟩ := Bools.shape h.2
  exact ⟨a, c, b, d, e1, e2, h1, h2⟩
def rowOk (n : Nat) (r : List Int) : Prop := r.length = 3 ∧ ∀ x ∈ r, 0 ≤ x ∧ x ≤ (n : Int) - 1
set_option maxHeartbeats 400000 in
theorem DfaValid_c {S : Nat → Prop} (vn ve : Value) (D : DfaD) (w : World) (h : DfaR S w vn ve D) :
    Calls Try.prog 68 #[.agg #[vn, ve]] w (RBn w (okD D)) := by
  obtain ⟨a, c, b, d, rfl, rfl, hn, hm⟩ := h.shapes
  have hb0 : Below w.heap.size w ((w.alloc (.cells #[.slice a D.1.length c, .slice b D.2.length d] 52)).alloc (.cells #[.int .i64 D.1.length] 3)) :=
    ((Below.refl _ _).alloc (Nat.le_refl _) _).alloc (by simp) _
  have H := Lib.hid (h.1.stay (kpB hb0)); clear h
  have Hb0 := Lib.hid hb0; clear hb0
  go_enter Try.func68, Try.ntmps68
  go_wp2
  go_loop [12] (fun i => ∃ k : Nat, k ≤ D.1.length ∧ i = .int .i64 k ∧ Hid (∀ j (hj : j < D.1.length), j < k → rowOk D.1.length D.1[j])) (fun i => D.1.length - (intOf i).toNat)
  case atStart => exact ⟨0, by omega, rfl, fun j _ hj => absurd hj (Nat.not_lt_zero _)⟩
  case round =>
    obtain ⟨k, hk, rfl, hr⟩ := hrel
    by_cases hlt : k < D.1.length
    · obtain ⟨bb, off, v, rfl, hc, hv⟩ := H.out.at hlt
      obtain ⟨ar, cr, rfl, hl⟩ := hv.shape
      obtain ⟨r, hr0⟩ : ∃ r, r = D.1[k] := ⟨_, rfl⟩
      rw [← hr0] at hv hc hl
      have Hr0 := Lib.hid hr0; clear hr0
      have HV := Lib.hid hv; clear hv
      have hno : ∀ (hj : k < D.1.length), ¬ rowOk D.1.length r → ¬ okD D := fun hj hn hD => hn (by rw [Hr0.out]; exact hD.2.2 _ (List.getElem_mem hj))
      have Hno := Lib.hid (hno hlt); clear hno
      by_cases h3 : r.length = 3
      · have e3 : ((r.length : Int) != 3) = false := by rw [h3]; rfl
        have H3 := Lib.hid h3; clear h3
        have CF := Lib.hid (contFuncInt_c (.slice ar r.length cr) r _ HV.out 108 #[.pointer (some ⟨w.heap.size + 1, 0, none⟩)] _ body_inRow (fun x _ => inRow_c x D.1.length (w.heap.size + 1) _ (by simp) ⟨by omega, by omega⟩))
        go_wp2_with fail
        refine CF.out.mono ?_
        rintro e w' ⟨b, rfl, rfl, hb⟩
        cases b
        · have hp := Lib.hid (hbF hb); clear hb CF
          go_wp2
          go_round
          case rel => exact ⟨k + 1, by omega, by go_num, fun j hj hjk => by
            rcases Nat.lt_succ_iff_lt_or_eq.1 hjk with h | rfl
            · exact hr.out j hj h
            · rw [← Hr0.out]
              exact ⟨H3.out, fun x hx => Classical.byContradiction fun hn => hp.out ⟨x, hx, hn⟩⟩⟩
          case measure => simp [intOf]; omega
        · have hp := Lib.hid (hbT hb); clear hb CF
          go_wp2
          go_ret
          exact RBn.mk Hb0.out ⟨nofun, fun hD => (Hno.out (fun hk => by obtain ⟨x, hx, hn⟩ := hp.out; exact hn (hk.2 x hx)) hD).elim⟩
      · have e3 : ((r.length : Int) != 3) = true := by simp; omega
        have H3 := Lib.hid h3; clear h3
        go_wp2
        go_ret
        exact RBn.mk Hb0.out ⟨nofun, fun hD => (Hno.out (fun hk => H3.out hk.1) hD).elim⟩
    · obtain rfl : k = D.1.length := by omega
      go_wp2_with fail
      refine (within_c _ _ _ _).mono ?_
      rintro e w' ⟨b, rfl, rfl, hb⟩
      cases b
      · have hp := Lib.hid (hbF hb); clear hb
        go_wp2
        go_ret
        exact RBn.mk Hb0.out ⟨nofun, fun hD => (hp.out ⟨by have := hD.1.1; omega, by have := hD.1.2; omega⟩).elim⟩
      · have hp := Lib.hid (hbT hb); clear hb
        go_wp2
        go_ret
        refine RBn.mk Hb0.out ⟨fun he => ⟨⟨by have := hp.out.1; omega, by have := hp.out.2; omega⟩, by simp at he; omega, fun r hr' => ?_⟩, fun hD => by have := hD.2.1; simp; omega⟩
        obtain ⟨j, hj, rfl⟩ := List.getElem_of_mem hr'
        exact hr.out j hj hj
/-- The cells that a step of a valid automaton reads. -/
theorem DfaR.row {S : Nat → Prop} {w : World} {a : Option Addr} {n c : Nat} {ve : Value} {D : DfaD} (h : DfaR S w (.slice a n c) ve D) (hD : okD D) {x : Nat} (hx : x < D.1.length) :
    ∃ b o br or_ cr, a = some ⟨b, o, none⟩ ∧ w.cell? ⟨b, o + x, none⟩ = some (.slice (some ⟨br, or_, none⟩) 3 cr) ∧ Ints S w (.slice (some ⟨br, or_, none⟩) 3 cr) D.1[x] ∧
      ∀ l, l < 3 → w.cell? ⟨br, or_ + l, none⟩ = some (.int .i64 (dn D x l)) := by
  obtain ⟨b, o, v, e, hc, hv⟩ := IntSS.at h.1 hx
  obtain ⟨ar, cr, rfl, _⟩ := hv.shape
  have h3 := (dn_cell hD hx (c := 0) (by omega)).1
  rw [h3] at hc hv
  obtain ⟨br, or_, rfl, _⟩ := Ints.at hv (k := 0) (by omega)
  refine ⟨b, o, br, or_, cr, e, hc, hv, fun l hl => ?_⟩
  obtain ⟨br', or', e', h2⟩ := Ints.at hv (k := l) (by omega)
  cases e'
  rw [h2, (dn_cell hD hx hl).2.1]
theorem DfaR.step {S : Nat → Prop} {w : World} {a : Option Addr} {n c : Nat} {ve : Value} {D : DfaD} (h : DfaR S w (.slice a n c) ve D) (hD : okD D) {x l : Nat} (hx : x < D.1.length) (hl : l < 3) :
    ∃ b o br or_ cr, a = some ⟨b, o, none⟩ ∧ w.cell? ⟨b, o + x, none⟩ = some (.slice (some ⟨br, or_, none⟩) 3 cr) ∧ w.cell? ⟨br, or_ + l, none⟩ = some (.int .i64 (dn D x l)) ∧ dn D x l < D.1.length := by
  obtain ⟨b, o, br, or_, cr, e, h1, _, h2⟩ := h.row hD hx
  exact ⟨b, o, br, or_, cr, e, h1, h2 l hl, dn_lt hD hx hl⟩
/-- The cell of a mark. -/
theorem DfaR.mark {S : Nat → Prop} {w : World} {a : Option Addr} {n c : Nat} {vn : Value} {D : DfaD} (h : DfaR S w vn (.slice a n c) D) (hD : okD D) {x : Nat} (hx : x < D.1.length) :
    ∃ b o, a = some ⟨b, o, none⟩ ∧ w.cell? ⟨b, o + x, none⟩ = some (.bool (de D x)) := by
  obtain ⟨b, o, e, hc⟩ := Bools.at h.2 (k := x) (by rw [hD.2.1]; exact hx)
  exact ⟨b, o, e, by rw [hc, de_cell hD hx]⟩
theorem qAdd {P : Program} {f : FuncId} {args : Array Value} {w : World} {a n : Nat} {v : Value}
    (h : Calls P f args (w.drewN (a + n)) fun e w' => e = .returned v ∧ w' = w.drewN (a + n)) :
    Calls P f args (w.drewN (a + n)) fun e w'' => e = .returned v ∧ ∃ m, w'' = w.drewN (a + m) :=
  h.mono fun _ _ ⟨he, hm⟩ => ⟨he, n, hm⟩
open Classical in
/-- The answer that says p. -/
noncomputable def pb (p : Prop) : Bool := decide p
theorem pb_true {p : Prop} (h : p) : pb p = true := by unfold pb; simp [h]
theorem pb_false {p : Prop} (h : ¬ p) : pb p = false := by unfold pb; simp [h]
theorem RB.q {P : Program} {f : FuncId} {args : Array Value} {w : World} {p : Prop} (h : Calls P f args w (RB w p)) : Calls P f args w (fun e w' => e = .returned (.bool (pb p)) ∧ w' = w) :=
  h.mono fun e w' ⟨b, he, hw, hb⟩ => by
    refine ⟨?_, hw.symm⟩
    rw [he]
    cases b
    · rw [pb_false (hbF hb)]
    · rw [pb_true (hbT hb)]
set_option maxHeartbeats 400000 in
theorem sDfaValid_c {S : Nat → Prop} (vn ve : Value) (D : DfaD) (w : World) (h : DfaR S w vn ve D) :
    Calls Try.prog 63 #[.agg #[vn, ve]] w (RBn w (okD D)) := by
  obtain ⟨a, c, b, d, rfl, rfl, hn, hm⟩ := h.shapes
  have hb0 : Below w.heap.size w (w.alloc (.cells #[.slice a D.1.length c, .slice b D.2.length d] 52)) := (Below.refl _ _).alloc (Nat.le_refl _) _
  have H := Lib.hid (h.1.stay (kpB hb0)); clear h
  go_enter Try.func63, Try.ntmps63
  go_wp2
  have c0 : (w.alloc (.cells #[.slice a D.1.length c, .slice b D.2.length d] 52)).cell? ⟨w.heap.size, 0, none⟩ = some (.slice a D.1.length c) := by rw [World.cell?_alloc_mark]; rfl
  have c1 : (w.alloc (.cells #[.slice a D.1.length c, .slice b D.2.length d] 52)).cell? ⟨w.heap.size, 1, none⟩ = some (.slice b D.2.length d) := by rw [World.cell?_alloc_mark]; rfl
  generalize w.alloc (.cells #[.slice a D.1.length c, .slice b D.2.length d] 52) = W at *
  have Hb0 := Lib.hid hb0; clear hb0
  go_loopw [3] (fun i wr => ∃ k : Nat, k ≤ D.1.length ∧ i = .int .i64 k ∧ (∃ q, wr = W.drewN q) ∧ Hid (∀ j (hj : j < D.1.length), j < k → rowOk D.1.length D.1[j])) (fun i _ => D.1.length - (intOf i).toNat)
  case atStart => exact ⟨0, by omega, rfl, ⟨0, rfl⟩, fun j _ hj => absurd hj (Nat.not_lt_zero _)⟩
  case round =>
    obtain ⟨k, hk, rfl, ⟨q, rfl⟩, hr⟩ := hrel
    by_cases hlt : k < D.1.length
    · obtain ⟨bb, off, v, rfl, hc, hv⟩ := H.out.at hlt
      obtain ⟨ar, cr, rfl, hl⟩ := hv.shape
      obtain ⟨r, hr0⟩ : ∃ r, r = D.1[k] := ⟨_, rfl⟩
      rw [← hr0] at hv hc hl
      have Hr0 := Lib.hid hr0; clear hr0
      have HV := Lib.hid hv; clear hv
      have hno : ∀ (hj : k < D.1.length), ¬ rowOk D.1.length r → ¬ okD D := fun hj hn hD => hn (by rw [Hr0.out]; exact hD.2.2 _ (List.getElem_mem hj))
      have Hno := Lib.hid (hno hlt); clear hno
      by_cases h3 : r.length = 3
      · have e3 : ((r.length : Int) != 3) = false := by rw [h3]; rfl
        have H3 := Lib.hid h3; clear h3
        go_wp2_with fail
        go_loopw [4] (fun i wr => ∃ j : Nat, j ≤ 3 ∧ i = .int .i64 j ∧ (∃ q, wr = W.drewN q) ∧ Hid (∀ t (ht : t < r.length), t < j → 0 ≤ r[t] ∧ r[t] ≤ (D.1.length : Int) - 1)) (fun i _ => 3 - (intOf i).toNat)
        case atStart => exact ⟨0, by omega, rfl, ⟨q, rfl⟩, fun j _ hj => absurd hj (Nat.not_lt_zero _)⟩
        case round =>
          obtain ⟨j, hj, rfl, ⟨q2, rfl⟩, hr2⟩ := hrel
          by_cases hlt2 : j < 3
          · obtain ⟨br, or_, rfl, hcx⟩ := HV.out.at (k := j) (by rw [H3.out]; omega)
            obtain ⟨x, hx⟩ : ∃ x, x = r[j]'(by rw [H3.out]; omega) := ⟨_, rfl⟩
            rw [← hx] at hcx
            have Hx := Lib.hid hx; clear hx
            by_cases hin : 0 ≤ x ∧ x ≤ (D.1.length : Int) - 1
            · have hpb := pb_true hin
              have Hin := Lib.hid hin; clear hin
              have hjr : (j : Int) < (r.length : Int) := by rw [H3.out]; omega
              have hw1 : IntKind.i64.wrap ((D.1.length : Int) - 1) = (D.1.length : Int) - 1 := IntWalk.i64_in _ (by omega)
              go_wp2_with fail
              go_quiet ((go_at_call 55; exact qAdd (RB.q (l1In_c _ _ _ _))))
              go_wp2
              go_roundw
              case rel => exact ⟨j + 1, by omega, by go_num, ⟨_, rfl⟩, fun t ht htj => by
                rcases Nat.lt_succ_iff_lt_or_eq.1 htj with h | rfl
                · exact hr2.out t ht h
                · rw [← Hx.out]; exact Hin.out⟩
              case measure => simp [intOf]; omega
            · have hpb := pb_false hin
              have Hin := Lib.hid hin; clear hin
              have hjr : (j : Int) < (r.length : Int) := by rw [H3.out]; omega
              have hw1 : IntKind.i64.wrap ((D.1.length : Int) - 1) = (D.1.length : Int) - 1 := IntWalk.i64_in _ (by omega)
              go_wp2_with fail
              go_quiet ((go_at_call 55; exact qAdd (RB.q (l1In_c _ _ _ _))))
              go_wp2
              go_ret
              exact RBn.mk (belDrewN (belDrewN Hb0.out _) _) ⟨nofun, fun hD => (Hno.out (fun hk => Hin.out (by rw [Hx.out]; exact hk.2 _ (List.getElem_mem _))) hD).elim⟩
          · obtain rfl : j = 3 := by omega
            go_wp2
            go_roundw
            case rel => exact ⟨k + 1, by omega, by go_num, ⟨_, rfl⟩, fun j hj hjk => by
              rcases Nat.lt_succ_iff_lt_or_eq.1 hjk with h | rfl
              · exact hr.out j hj h
              · rw [← Hr0.out]
                exact ⟨H3.out, fun x hx => by
                  obtain ⟨t, ht, rfl⟩ := List.getElem_of_mem hx
                  exact hr2.out t ht (by rw [← H3.out]; exact ht)⟩⟩
            case measure => simp [intOf]; omega
      · have e3 : ((r.length : Int) != 3) = true := by simp; omega
        have H3 := Lib.hid h3; clear h3
        go_wp2
        go_ret
        exact RBn.mk (belDrewN Hb0.out _) ⟨nofun, fun hD => (Hno.out (fun hk => H3.out hk.1) hD).elim⟩
    · obtain rfl : k = D.1.length := by omega
      go_wp2_with fail
      refine (l1In_c _ _ _ _).mono ?_
      rintro e w' ⟨b, rfl, rfl, hb⟩
      cases b
      · have hp := Lib.hid (hbF hb); clear hb
        go_wp2
        go_ret
        exact RBn.mk (belDrewN Hb0.out _) ⟨nofun, fun hD => (hp.out ⟨by have := hD.1.1; omega, by have := hD.1.2; omega⟩).elim⟩
      · have hp := Lib.hid (hbT hb); clear hb
        go_wp2
        go_ret
        refine RBn.mk (belDrewN Hb0.out _) ⟨fun he => ⟨⟨by have := hp.out.1; omega, by have := hp.out.2; omega⟩, by simp at he; omega, fun r hr' => ?_⟩, fun hD => by have := hD.2.1; simp; omega⟩
        obtain ⟨j, hj, rfl⟩ := List.getElem_of_mem hr'
        exact hr.out j hj hj
end Go.Proofs.Ytbcjhiponbfbnaa
namespace Go.Proofs.Ytbcjhiponbfbnaa
open Go.RowKit
set_option maxRecDepth 100000

/-- Block b is just the xs, a cell each, of type e, and may be written. -/
def Row {α : Type} (f : α → Value) (e : TypeId) (w : World) (b : Nat) (xs : List α) : Prop := w.heap[b]? = some (.cells (xs.map f).toArray e (0, 0))
section
variable {α : Type} {f : α → Value} {e : TypeId} {w w' : World} {b : Nat} {xs : List α}
theorem Row.lt (h : Row f e w b xs) : b < w.heap.size := (Array.getElem?_eq_some_iff.1 h).1
theorem Row.cell (h : Row f e w b xs) {i : Nat} (hi : i < xs.length) : w.cell? ⟨b, i, none⟩ = some (f xs[i]) := by
  rw [cell_of_row w b i _ e (0, 0) h]
  simp [hi]
theorem Row.fz (h : Row f e w b xs) (o : Nat) : w.frozen? ⟨b, o, none⟩ = false := by
  unfold Row at h
  simp [World.frozen?, h]
theorem Row.set (h : Row f e w b xs) (i : Nat) (x : α) : Row f e (w.setCell ⟨b, i, none⟩ (f x)) b (xs.set i x) := by
  unfold Row at h ⊢
  rw [heap_set h]
  simp [List.map_set]
theorem Row.far (h : Row f e w b xs) {c o : Nat} (hne : b ≠ c) (u : Value) : Row f e (w.setCell ⟨c, o, none⟩ u) b xs := blkSet h hne
theorem Row.stay (h : Row f e w b xs) (hb : Below w.heap.size w w') : Row f e w' b xs := blkBel hb h
theorem Row.grow (h : Row f e w b xs) {row : Option Nat} (hg : w.grownBy w' row) (hne : some b ≠ row) : Row f e w' b xs := blkGrow hg h hne
theorem Row.drew (h : Row f e w b xs) : Row f e w.drew b xs := h
theorem Row.fl (h : Row f e w b xs) {n cap : Nat} (hn : n = xs.length) (hc : n ≤ cap) (hm : n ≤ maxLen) : Fl (· = b) w (.slice (some ⟨b, 0, none⟩) n cap) xs.length (xs.map f) := by
  subst hn
  refine ⟨_, cap, rfl, ⟨hm, hc, by simp⟩, fun i hi => ⟨b, 0, rfl, rfl, ?_⟩⟩
  rw [Nat.zero_add, Row.cell h (by simpa using hi)]
  simp
theorem Row.flW (h : Row f e w b xs) {n cap : Nat} (hn : n = xs.length) (hc : n ≤ cap) (hm : n ≤ maxLen) : FlW (· = b) w (.slice (some ⟨b, 0, none⟩) n cap) xs.length (xs.map f) := by
  subst hn
  refine ⟨_, cap, rfl, ⟨hm, hc, by simp⟩, fun i hi => ⟨b, 0, rfl, rfl, ?_, fun o => h.fz o⟩⟩
  rw [Nat.zero_add, Row.cell h (by simpa using hi)]
  simp
theorem Row.ne {β : Type} {g : β → Value} {e' : TypeId} {c : Nat} {ys : List β} (h : Row f e w b xs) (h' : Row g e' w c ys) (hne : e ≠ e') : b ≠ c := by
  rintro rfl
  unfold Row at h h'
  rw [h] at h'
  injection h' with h'
  injection h' with _ ht
  exact hne ht
end
/-- Slice type t has elements e of one cell, whose zero is z. -/
structure ElemZ (t e : TypeId) (z : Value) (bytes : Nat) : Prop where
  ul : Try.prog.underlying t = some (.slice e)
  inf : (Try.prog.info? e).map (fun i => (i.zero, i.size, i.bytes)) = some (some z, 1, bytes)
  one : z.cells = #[z]
theorem makeRow {α : Type} {f : α → Value} {t e : TypeId} {x : α} {bytes : Nat} (E : ElemZ t e (f x) bytes) (hby : bytes ≤ 100) {ops : Array Oper} {rest : List Oper} {o : Oper} {a : Act} {Q : Exit → Act → World → Prop} (hgd : o.guard = none) (l c : Operand)
    (ho : o.op = .makeSlice t l c) (n : Nat) (w : World) (hl : a.eval l = .int .i64 n) (hc : a.eval c = .int .i64 n) (hn : n ≤ 1000000000)
    (h : ∀ w', Hid (Row f e w' w.heap.size (List.replicate n x)) → Below w.heap.size w w' → Hid (w'.heap.size = w.heap.size + 1) → wpList Try.prog ops Q rest (a.put o.dst (.slice (some ⟨w.heap.size, 0, none⟩) n n)) w') :
    wpList Try.prog ops Q (o :: rest) a w := by
  have hi := E.inf
  cases hi' : Try.prog.info? e with
  | none => rw [hi'] at hi; simp at hi
  | some i =>
    rw [hi'] at hi
    simp at hi
    obtain ⟨h1, h2, h3⟩ := hi
    have hr := run_make (P := Try.prog) w t e i (f x) E.ul hi' h1 .i64 .i64 n n (by omega) (by omega) (by
      have : i.bytes * n ≤ 100 * 1000000000 := Nat.mul_le_mul (by omega) hn
      have h' : ((i.bytes * n : Nat) : Int) ≤ 281474976710656 := by omega
      rwa [Int.natCast_mul] at h') (by omega)
    simp only [Int.toNat_natCast] at hr
    refine wpList_plain hgd fun K hK' => ?_
    unfold Oper.wp
    simp [execOp, ho, hl, hc, hr, Result.andThen]
    refine hK' _ _ (h _ ?_ ((Below.refl _ _).alloc (Nat.le_refl _) _) (by simp [Hid]))
    show Row f e _ w.heap.size _
    unfold Row
    rw [heap_alloc_new]
    congr 2
    apply Array.ext'
    have := toList_madeCells_one (f x) n
    rw [E.one, h2, Nat.mul_one]
    rw [this]
    simp
/-- The first k are turned to F. -/
def part {α : Type} (n k : Nat) (F : Nat → α) (z : α) : List α := (List.range n).map fun s => if s < k then F s else z
theorem part_len {α : Type} (n k : Nat) (F : Nat → α) (z : α) : (part n k F z).length = n := by simp [part]
theorem part_zero {α : Type} (n : Nat) (F : Nat → α) (z : α) : part n 0 F z = List.replicate n z := by
  unfold part
  apply List.ext_getElem <;> simp
theorem part_all {α : Type} (n : Nat) (F : Nat → α) (z : α) : part n n F z = (List.range n).map F := by
  unfold part
  apply List.map_congr_left
  intro s hs
  rw [if_pos (List.mem_range.1 hs)]
theorem part_get {α : Type} {n k : Nat} {F : Nat → α} {z : α} {i : Nat} (h : i < n) : (part n k F z)[i]'(by rw [part_len]; exact h) = if i < k then F i else z := by simp [part]
theorem part_set {α : Type} {n k : Nat} (F : Nat → α) (z : α) (h : k < n) : (part n k F z).set k (F k) = part n (k + 1) F z := by
  apply List.ext_getElem
  · simp [part]
  · intro i h1 h2
    simp only [part_len, List.length_set] at h1
    rw [List.getElem_set]
    simp only [part, List.getElem_map, List.getElem_range]
    by_cases e : k = i
    · subst e; simp
    · rw [if_neg e]
      by_cases h3 : i < k
      · rw [if_pos h3, if_pos (by omega)]
      · rw [if_neg h3, if_neg (by omega)]
theorem part_keep {α : Type} {n k : Nat} (F : Nat → α) (z : α) (h : F k = z) : part n (k + 1) F z = part n k F z := by
  unfold part
  apply List.map_congr_left
  intro s _
  by_cases e : s = k
  · subst e; simp [h]
  · by_cases h3 : s < k
    · rw [if_pos h3, if_pos (by omega)]
    · rw [if_neg h3, if_neg (by omega)]
theorem ezInt : ElemZ 34 3 (.int .i64 0) 8 := ⟨Try.underlying34, by kernel_rfl, rfl⟩
/-- A row of ints. -/
abbrev RowI (w : World) (b : Nat) (xs : List Int) : Prop := Row (.int .i64 ·) 3 w b xs
theorem ezBool : ElemZ 47 4 (.bool false) 1 := ⟨Try.underlying47, by kernel_rfl, rfl⟩
/-- A row of bools. -/
abbrev RowB (w : World) (b : Nat) (xs : List Bool) : Prop := Row .bool 4 w b xs
theorem ezStr : ElemZ 112 9 (.string ByteArray.empty) 16 := ⟨Try.underlying112, by kernel_rfl, rfl⟩
/-- A row of strings. -/
abbrev RowS (w : World) (b : Nat) (xs : List ByteArray) : Prop := Row .string 9 w b xs
end Go.Proofs.Ytbcjhiponbfbnaa
namespace Go.Proofs.Ytbcjhiponbfbnaa
open Go.RowKit Go.ChangeMaps
set_option maxRecDepth 100000
variable {α : Type} {kv : α → Value}
/-- The entries. -/
def ents (kv : α → Value) (xs : List α) : Array MapEntry := (xs.zipIdx.map fun p => (⟨kv p.1, .int .i64 p.2, p.2⟩ : MapEntry)).toArray
theorem ents_size (xs : List α) : (ents kv xs).size = xs.length := by simp [ents]
theorem ents_get (xs : List α) (i : Nat) : (ents kv xs).toList[i]? = (xs[i]?).map fun x => ⟨kv x, .int .i64 i, i⟩ := by simp [ents]; rfl
theorem ents_push (xs : List α) (x : α) : (ents kv xs).push ⟨kv x, .int .i64 xs.length, xs.length⟩ = ents kv (xs ++ [x]) := by
  simp [ents, List.zipIdx_append]
/-- Block b is the map of the xs. -/
def MRow (kv : α → Value) (w : World) (b : Nat) (xs : List α) : Prop := w.heap[b]? = some (.map (ents kv xs) xs.length)
theorem MRow.lt {w : World} {b : Nat} {xs : List α} (h : MRow kv w b xs) : b < w.heap.size := (Array.getElem?_eq_some_iff.1 h).1
theorem MRow.stay {w w' : World} {b : Nat} {xs : List α} (h : MRow kv w b xs) (hb : Below w.heap.size w w') : MRow kv w' b xs := blkBel hb h
theorem MRow.grow {w w' : World} {row : Option Nat} {b : Nat} {xs : List α} (h : MRow kv w b xs) (hg : w.grownBy w' row) (hne : some b ≠ row) : MRow kv w' b xs := blkGrow hg h hne
theorem MRow.far {w : World} {b c o : Nat} {xs : List α} (h : MRow kv w b xs) (hne : b ≠ c) (u : Value) : MRow kv (w.setCell ⟨c, o, none⟩ u) b xs := blkSet h hne
theorem MRow.made (w : World) : MRow kv (w.alloc (.map #[] 0)) w.heap.size [] := (MapKept.heap_alloc w _).1
/-- Map type t: keys k, numbers. The keys of which p holds can be looked up. -/
structure KeyA (t k e : TypeId) (kv : α → Value) (p : α → Prop) : Prop where
  ul : Try.prog.underlying t = some (.map k e)
  law : Maps.Keyed Try.prog k
  lit : ∀ x, p x → ∃ l, keyOf Try.prog k (kv x) = some l
  inj : ∀ x y, kv x = kv y → x = y
  zero : ∀ w, (zeroValue e).run Try.prog w = .ok (.int .i64 0) w
theorem put_row {w : World} {b : Nat} {xs : List α} {x : α} (h : MRow kv w b xs) : MRow kv (setBlock w b (.map (ents kv (xs ++ [x])) (xs.length + 1))) b (xs ++ [x]) := by
  unfold MRow
  rw [heap_setBlock_same h]
  simp
theorem put_grown {w : World} {b : Nat} {xs : List α} (h : MRow kv w b xs) (ob : Obj) : w.grownBy (setBlock w b ob) (some b) :=
  ⟨rfl, rfl, rfl, by simp [setBlock], fun i _ hi => heap_setBlock_other h _ (fun e => hi (by rw [e]))⟩
variable [DecidableEq α] {t k e : TypeId} {p : α → Prop} {w : World} {b : Nat} {xs : List α} {x : α}
theorem KeyA.find (E : KeyA t k e kv p) (hp : ∀ y ∈ xs, p y) (hx : p x) (hn : xs.Nodup) :
    (x ∉ xs ∧ (Instr.findKey k (kv x) (ents kv xs).toList).run Try.prog w = .ok none w) ∨
    (x ∈ xs ∧ (Instr.findKey k (kv x) (ents kv xs).toList).run Try.prog w = .ok (some (xs.idxOf x, .int .i64 (xs.idxOf x))) w) := by
  obtain ⟨l, hl⟩ := E.lit x hx
  have mem : ∀ e0 ∈ (ents kv xs).toList, ∃ i, ∃ h : i < xs.length, e0 = ⟨kv xs[i], .int .i64 i, i⟩ := by
    intro e0 he
    obtain ⟨i, hi⟩ := List.mem_iff_getElem?.1 he
    rw [ents_get] at hi
    rcases Nat.lt_or_ge i xs.length with h | h
    · rw [List.getElem?_eq_getElem h] at hi
      simp only [Option.map_some, Option.some.injEq] at hi
      exact ⟨i, h, hi.symm⟩
    · rw [List.getElem?_eq_none h] at hi
      simp at hi
  rcases E.law.find w hl (ents kv xs).toList (fun e0 he => by
    obtain ⟨i, h, rfl⟩ := mem e0 he
    exact E.lit _ (hp _ (List.getElem_mem h))) with ⟨h1, h2⟩ | ⟨j, e0, h1, h2, h3⟩
  · refine .inl ⟨fun hm => ?_, h1⟩
    obtain ⟨i, hi, rfl⟩ := List.getElem_of_mem hm
    have := ents_get (kv := kv) xs i
    rw [List.getElem?_eq_getElem hi] at this
    exact h2 _ (List.mem_of_getElem? this) rfl
  · rw [ents_get] at h2
    rcases Nat.lt_or_ge j xs.length with h | h
    · rw [List.getElem?_eq_getElem h] at h2
      simp only [Option.map_some, Option.some.injEq] at h2
      subst h2
      have hxj : xs[j] = x := E.inj _ _ h3
      have hj : xs.idxOf x = j := by rw [← hxj]; exact hn.idxOf_getElem j h
      refine .inr ⟨by rw [← hxj]; exact List.getElem_mem h, ?_⟩
      rw [h1, hj]
    · rw [List.getElem?_eq_none h] at h2
      simp at h2
theorem run_look (E : KeyA t k e kv p) (h : MRow kv w b xs) (hp : ∀ y ∈ xs, p y) (hx : p x) (hn : xs.Nodup) (c : Bool) :
    (x ∉ xs ∧ (Instr.lookup t (.map (some b)) (kv x) c).run Try.prog w = .ok (if c then .tuple #[.int .i64 0, .bool false] else .int .i64 0) w) ∨
    (x ∈ xs ∧ (Instr.lookup t (.map (some b)) (kv x) c).run Try.prog w = .ok (if c then .tuple #[.int .i64 (xs.idxOf x), .bool true] else .int .i64 (xs.idxOf x)) w) := by
  obtain ⟨l, hl⟩ := E.lit x hx
  rcases E.find (w := w) hp hx hn with ⟨h1, h2⟩ | ⟨h1, h2⟩
  · refine .inl ⟨h1, ?_⟩
    simp [Instr.lookup, run_underlying E.ul, MapKept.run_getObj_map h, E.law.check w _ hl, h2, E.zero, Result.andThen]
  · refine .inr ⟨h1, ?_⟩
    simp [Instr.lookup, run_underlying E.ul, MapKept.run_getObj_map h, E.law.check w _ hl, h2, Result.andThen]
theorem run_put (E : KeyA t k e kv p) (h : MRow kv w b xs) (hp : ∀ y ∈ xs, p y) (hx : p x) (hn : xs.Nodup) (hm : x ∉ xs) :
    (Instr.mapUpdate t (.map (some b)) (kv x) (.int .i64 xs.length)).run Try.prog w = .ok () (setBlock w b (.map (ents kv (xs ++ [x])) (xs.length + 1))) := by
  obtain ⟨l, hl⟩ := E.lit x hx
  rcases E.find (w := w) hp hx hn with ⟨h1, h2⟩ | ⟨h1, h2⟩
  · simp [Instr.mapUpdate, run_underlying E.ul, MapKept.run_getObj_map h, E.law.check w false hl, h2, MapKept.run_setObj_map _ h, Result.andThen, setBlock, ents_push]
  · exact absurd h1 hm
section
variable {ops : Array Oper} {rest : List Oper} {o : Oper} {a : Act} {Q : Exit → Act → World → Prop}
theorem mapHas (E : KeyA t k e kv p) (hg : o.guard = none) (m i : Operand) (hop : o.op = Op.lookup t m i true) (hm : a.eval m = .map (some b)) (hi : a.eval i = kv x)
    (h : MRow kv w b xs) (hp : ∀ y ∈ xs, p y) (hx : p x) (hn : xs.Nodup)
    (hK : ∀ (c : Int) (v : Bool), Hid ((v = true ∧ x ∈ xs ∧ c = xs.idxOf x) ∨ (v = false ∧ x ∉ xs)) → wpList Try.prog ops Q rest (a.put o.dst (.tuple #[.int .i64 c, .bool v])) w) : wpList Try.prog ops Q (o :: rest) a w := by
  refine wpList_plain hg fun K' hK' => ?_
  rcases run_look E h hp hx hn true with ⟨h1, h2⟩ | ⟨h1, h2⟩
  · unfold Oper.wp
    simp [execOp, hop, hm, hi, h2, Result.andThen]
    exact hK' _ _ (hK 0 false (.inr ⟨rfl, h1⟩))
  · unfold Oper.wp
    simp [execOp, hop, hm, hi, h2, Result.andThen]
    exact hK' _ _ (hK _ true (.inl ⟨rfl, h1, rfl⟩))
theorem mapGet (E : KeyA t k e kv p) (hg : o.guard = none) (m i : Operand) (hop : o.op = Op.lookup t m i false) (hm : a.eval m = .map (some b)) (hi : a.eval i = kv x)
    (h : MRow kv w b xs) (hp : ∀ y ∈ xs, p y) (hx : p x) (hn : xs.Nodup) (hmem : x ∈ xs)
    (hK : wpList Try.prog ops Q rest (a.put o.dst (.int .i64 (xs.idxOf x))) w) : wpList Try.prog ops Q (o :: rest) a w := by
  refine wpList_plain hg fun K' hK' => ?_
  rcases run_look E h hp hx hn false with ⟨h1, h2⟩ | ⟨h1, h2⟩
  · exact absurd hmem h1
  · unfold Oper.wp
    simp [execOp, hop, hm, hi, h2, Result.andThen]
    exact hK' _ _ hK
theorem mapPut (E : KeyA t k e kv p) (hg : o.guard = none) (m i v : Operand) (hop : o.op = Op.mapUpdate t m i v ∨ o.op = Op.insert t m i v) (hm : a.eval m = .map (some b)) (hi : a.eval i = kv x) (hv : a.eval v = .int .i64 xs.length)
    (h : MRow kv w b xs) (hp : ∀ y ∈ xs, p y) (hx : p x) (hn : xs.Nodup) (hmem : x ∉ xs)
    (hK : ∀ w', Hid (MRow kv w' b (xs ++ [x])) → w.grownBy w' (some b) → wpList Try.prog ops Q rest (a.put o.dst undef) w') : wpList Try.prog ops Q (o :: rest) a w := by
  refine wpList_plain hg fun K' hK' => ?_
  have h2 := run_put E h hp hx hn hmem
  have h3 := hK _ (put_row (x := x) h) (put_grown h _)
  rcases hop with hop | hop
  · unfold Oper.wp
    simp [execOp, hop, hm, hi, hv, h2, Result.andThen]
    exact hK' _ _ h3
  · unfold Oper.wp
    simp [execOp, hop, hm, hi, hv, h2, Result.andThen]
    exact hK' _ _ h3
/-- append of one element, with the place. -/
theorem appAt {t e : TypeId} {sz bytes : Nat} (E : ElemT t e sz bytes) (hby : bytes ≤ 100) (hgd : o.guard = none) (s x : Operand)
    (ho : o.op = .call { callee := .builtin .append, args := #[s, x], argTypes := #[t, t] })
    (base : Nat) (v : Value) (n : Nat) (xs news : List Value) (w : World) {B : Nat} (hB : B = w.heap.size) (hs : a.eval s = v) (hx : a.eval x = .slice (some ⟨B, 0, none⟩) 1 1)
    (hown : w.ownsRow base e sz v n xs) (hl : news.length = sz) (h1 : ∀ u ∈ news, u.oneCell' = true) (hn : n ≤ 1000000000) (hbase : base ≤ w.heap.size)
    (h : ∀ v' w', Hid (w'.ownsRow base e sz v' (n + 1) (xs ++ news)) → w.grownBy w' v.ownBlock → Hid (v'.ownBlock = v.ownBlock ∨ v'.ownBlock = some (w.heap.size + 1)) → wpList Try.prog ops Q rest (a.put o.dst v') w') :
    wpList Try.prog ops Q (o :: rest) a (w.alloc (.cells news.toArray e)) := by
  subst hB
  obtain ⟨i, z, hi, hz, h2, h3, h4⟩ := E.inf
  refine wpList_append_own_at (P := Try.prog) _ hgd s x t ho base e i z sz bytes E.ul hi hz h2 h3 h4 E.pos v n xs hs (hown.alloc _) ⟨w.heap.size, 0, none⟩ 1 1 news hx (by omega) ?_ h1 ?_ ?_ ?_ ?_
  · intro j u hu
    rw [Addr.add_lit, Nat.zero_add]
    rw [World.cell?_alloc_mark]
    simpa using hu
  · unfold maxLen; omega
  · have : (n + 1) * bytes ≤ 1000000001 * 100 := Nat.mul_le_mul (by omega) hby
    omega
  · simp; omega
  · intro v' w' k1 k2 k3 k4
    exact h v' w' k1 (grownTrans (grownBel ((Below.refl _ _).alloc (Nat.le_refl _) _)) k2) (by rw [World.size_alloc] at k4; exact k4)
end
/-- append of one element, as a step of a region that draws. -/
theorem stepApp {t e : TypeId} {sz bytes : Nat} (E : ElemT t e sz bytes) (hby : bytes ≤ 100) {ops : Array Oper} {o : Oper} {a : Act} {K : Act → World → Prop} {Q : Exit → Act → World → Prop} {E' : Prop} (hgd : o.guard = none) (s x : Operand)
    (ho : o.op = .call { callee := .builtin .append, args := #[s, x], argTypes := #[t, t] })
    (base : Nat) (v : Value) (n : Nat) (xs news : List Value) (w : World) (B : Nat) (hs : a.eval s = v) (hx : a.eval x = .slice (some ⟨B, 0, none⟩) 1 1)
    (hown : w.ownsRow base e sz v n xs) (hnew : w.heap[B]? = some (.cells news.toArray e (0, 0))) (hl : news.length = sz) (h1 : ∀ u ∈ news, u.oneCell' = true) (hn : n ≤ 1000000000) (hbase : base ≤ w.heap.size)
    (h : ∀ g cap w', Hid (w'.ownsRow base e sz (.slice (some ⟨g, 0, none⟩) (n + 1) cap) (n + 1) (xs ++ news)) → w.grownBy w' v.ownBlock → K (a.put o.dst (.slice (some ⟨g, 0, none⟩) (n + 1) cap)) w') :
    if Region.wanted o (yielded ops a.tmps) = true then Oper.wp Try.prog o a w K Q else E' := by
  obtain ⟨i, z, hi, hz, h2, h3, h4⟩ := E.inf
  refine step_append_lies (P := Try.prog) w hgd s x t ho base e i z sz bytes E.ul hi hz h2 h3 h4 E.pos v n xs hs hown ⟨B, 0, none⟩ 1 1 news hx (by omega) ?_ h1 (by omega) ?_ ?_ hbase _ rfl ?_
  · intro j u hu
    rw [Addr.add_lit, Nat.zero_add, cell_of_row w B j _ _ _ hnew]
    simpa using hu
  · unfold maxLen; omega
  · have : (n + 1) * bytes ≤ 1000000001 * 100 := Nat.mul_le_mul (by omega) hby
    omega
  · intro g cap w' k1 k2 _ _
    exact h g cap w' k1 k2
theorem kaInt : KeyA 150 3 3 (fun s : Nat => .int .i64 s) (· ≤ 1000000000) where
  ul := Try.underlying150
  law := Maps.int_keyed Try.underlying3
  lit := fun x hx => ⟨_, Maps.keyOf_int_mk Try.underlying3 (by have h1 : IntKind.i64.min = -9223372036854775808 := rfl; have h2 : IntKind.i64.max = 9223372036854775807 := rfl; simp [Lit.wf]; omega)⟩
  inj := fun x y h => by injection h with _ h; omega
  zero := fun w => by kernel_rfl
/-- What is at block c is not the list's. -/
theorem own_far {w : World} {base : Nat} {e : TypeId} {sz : Nat} {v : Value} {n : Nat} {xs : List Value} (h : w.ownsRow base e sz v n xs) {c : Nat} {ob : Obj} (hc : w.heap[c]? = some ob) (hne : ∀ cs q, ob ≠ .cells cs e q) : some c ≠ v.ownBlock := by
  rcases h.2 with ⟨rfl, _⟩ | ⟨g, cap, cur, rfl, hb, hg, _⟩
  · simp [Value.ownBlock]
  · intro he
    simp [Value.ownBlock] at he
    subst he
    rw [hg] at hc
    injection hc with hc
    exact hne _ _ hc.symm
theorem own_two {w : World} {base base' : Nat} {e e' : TypeId} {sz sz' : Nat} {v v' : Value} {n n' : Nat} {xs xs' : List Value} (h : w.ownsRow base e sz v n xs) (h' : w.ownsRow base' e' sz' v' n' xs') (hne : e ≠ e') : v.ownBlock = none ∨ v.ownBlock ≠ v'.ownBlock := by
  rcases h.2 with ⟨rfl, _⟩ | ⟨g, cap, cur, rfl, hb, hg, _⟩
  · exact .inl rfl
  · exact .inr (own_far h' (c := g) hg (fun cs q he => by injection he with _ he; exact hne he))
theorem own_ge {w : World} {base : Nat} {e : TypeId} {sz : Nat} {v : Value} {n : Nat} {xs : List Value} (h : w.ownsRow base e sz v n xs) : ∀ b, v.ownBlock = some b → base ≤ b ∧ b < w.heap.size := by
  rcases h.2 with ⟨rfl, _⟩ | ⟨g, cap, cur, rfl, hb, hg, _⟩
  · simp [Value.ownBlock]
  · intro b hb'
    simp [Value.ownBlock] at hb'
    subst hb'
    exact ⟨hb, (Array.getElem?_eq_some_iff.1 hg).1⟩
/-- Growing at a block that was made leaves what was there. -/
theorem Below.grew {B : Nat} {w0 w w' : World} {row : Option Nat} (h : Below B w0 w) (hg : w.grownBy w' row) (hr : ∀ b, row = some b → B ≤ b) (hB : B ≤ w.heap.size) : Below B w0 w' := h.grown hg hB hr
end Go.Proofs.Ytbcjhiponbfbnaa
namespace Go.Proofs.Ytbcjhiponbfbnaa
open Go.RowKit
set_option maxRecDepth 100000
/-- append of one element, as a step of a region that draws, with the place. -/
theorem stepAppAt {t e : TypeId} {sz bytes : Nat} (E : ElemT t e sz bytes) (hby : bytes ≤ 100) {ops : Array Oper} {o : Oper} {a : Act} {K : Act → World → Prop} {Q : Exit → Act → World → Prop} {E' : Prop} (hgd : o.guard = none) (s x : Operand)
    (ho : o.op = .call { callee := .builtin .append, args := #[s, x], argTypes := #[t, t] })
    (base : Nat) (v : Value) (n : Nat) (xs news : List Value) (w : World) (B : Nat) (hs : a.eval s = v) (hx : a.eval x = .slice (some ⟨B, 0, none⟩) 1 1)
    (hown : w.ownsRow base e sz v n xs) (hnew : w.heap[B]? = some (.cells news.toArray e (0, 0))) (hl : news.length = sz) (h1 : ∀ u ∈ news, u.oneCell' = true) (hn : n ≤ 1000000000) (hbase : base ≤ w.heap.size)
    (h : ∀ g cap w', Hid (w'.ownsRow base e sz (.slice (some ⟨g, 0, none⟩) (n + 1) cap) (n + 1) (xs ++ news)) → w.grownBy w' v.ownBlock → Hid (v.ownBlock = some g ∨ g = w.heap.size) → K (a.put o.dst (.slice (some ⟨g, 0, none⟩) (n + 1) cap)) w') :
    if Region.wanted o (yielded ops a.tmps) = true then Oper.wp Try.prog o a w K Q else E' := by
  obtain ⟨i, z, hi, hz, h2, h3, h4⟩ := E.inf
  refine step_append_lies (P := Try.prog) w hgd s x t ho base e i z sz bytes E.ul hi hz h2 h3 h4 E.pos v n xs hs hown ⟨B, 0, none⟩ 1 1 news hx (by omega) ?_ h1 (by omega) ?_ ?_ hbase _ rfl ?_
  · intro j u hu
    rw [Addr.add_lit, Nat.zero_add, cell_of_row w B j _ _ _ hnew]
    simpa using hu
  · unfold maxLen; omega
  · have : (n + 1) * bytes ≤ 1000000001 * 100 := Nat.mul_le_mul (by omega) hby
    omega
  · intro g cap w' k1 k2 k3 _
    exact h g cap w' k1 k2 k3
/-- A list of numbers that the call made. -/
abbrev OwI (w : World) (base : Nat) (v : Value) (r : List Int) : Prop := w.ownsRow base 3 1 v r.length (r.map (.int .i64 ·))
/-- The automaton in block B4 has the rows rs and the marks es. -/
structure BS (base : Nat) (W : World) (B4 : Nat) (rs : List (Value × List Int)) (es : List Bool) (vN vE : Value) (w : World) : Prop where
  bel : Below base W w
  size : base ≤ w.heap.size
  h4 : base ≤ B4
  b4 : w.heap[B4]? = some (.cells #[vN, vE] 52 (0, 0))
  nx : w.ownsRow base 34 1 vN rs.length (rs.map (·.1))
  en : w.ownsRow base 4 1 vE es.length (es.map .bool)
  rw : ∀ p ∈ rs, 0 < p.2.length ∧ OwI w base p.1 p.2
  inj : (rs.map fun p => p.1.ownBlock).Nodup
section
variable {base : Nat} {W : World} {B4 : Nat} {rs : List (Value × List Int)} {es : List Bool} {vN vE : Value} {w w' : World}
theorem own_some {w : World} {base : Nat} {e : TypeId} {sz : Nat} {v : Value} {n : Nat} {xs : List Value} (h : w.ownsRow base e sz v n xs) (hn : 0 < n) : ∃ g cap, v = .slice (some ⟨g, 0, none⟩) n cap ∧ base ≤ g ∧ ∃ cur, w.heap[g]? = some (.cells cur e (0, 0)) := by
  rcases h.2 with ⟨_, h0⟩ | ⟨g, cap, cur, hv, hb, hg, _⟩
  · omega
  · exact ⟨g, cap, hv, hb, cur, hg⟩
theorem own_cells' {w : World} {base : Nat} {t t' : TypeId} {sz : Nat} {v : Value} {n : Nat} {xs : List Value} (ho : w.ownsRow base t sz v n xs) {b : Nat} {cs : Array Value} {q : Nat × Nat} (hb : w.heap[b]? = some (.cells cs t' q)) (hne : t ≠ t') : some b ≠ v.ownBlock :=
  own_far ho hb (fun cs q he => by injection he with _ he; exact hne he.symm)
/-- A list of ints of the call's own, none of the rows, was written, or nothing that was there. -/
theorem BS.grow (h : BS base W B4 rs es vN vE w) {u : Value} {n : Nat} {xs : List Value} (hu : w.ownsRow base 3 1 u n xs) (hg : w.grownBy w' u.ownBlock) (hne : ∀ p ∈ rs, p.1.ownBlock ≠ u.ownBlock) : BS base W B4 rs es vN vE w' where
  bel := h.bel.grown hg h.size (fun b hb => (own_ge hu b hb).1)
  size := Nat.le_trans h.size hg.size
  h4 := h.h4
  b4 := blkGrow hg h.b4 (own_cells' hu h.b4 (by decide))
  nx := h.nx.kept hg (own_two h.nx hu (by decide))
  en := h.en.kept hg (own_two h.en hu (by decide))
  rw := fun p hp => ⟨(h.rw p hp).1, (h.rw p hp).2.kept hg (.inr (hne p hp))⟩
  inj := h.inj
theorem BS.stay (h : BS base W B4 rs es vN vE w) (hb : Below w.heap.size w w') : BS base W B4 rs es vN vE w' :=
  ⟨h.bel.trans (hb.mono h.size), Nat.le_trans h.size hb.size, h.h4, blkBel hb h.b4, ownStay h.nx hb, ownStay h.en hb, fun p hp => ⟨(h.rw p hp).1, ownStay (h.rw p hp).2 hb⟩, h.inj⟩
theorem BS.drew (h : BS base W B4 rs es vN vE w) : BS base W B4 rs es vN vE w.drew := h.stay (Below.refl _ _).drew
theorem BS.lt (h : BS base W B4 rs es vN vE w) {p : Value × List Int} (hp : p ∈ rs) : ∃ g, p.1.ownBlock = some g ∧ g < w.heap.size := by
  obtain ⟨h1, h2⟩ := h.rw p hp
  obtain ⟨g, cap, e, _, cur, hg⟩ := own_some h2 h1
  exact ⟨g, by rw [e]; rfl, (Array.getElem?_eq_some_iff.1 hg).1⟩
/-- A row more. -/
theorem BS.row (h : BS base W B4 rs es vN vE w) {u : Value} {r : List Int} (hr : 0 < r.length) (hu : OwI w base u r) (hne : ∀ p ∈ rs, p.1.ownBlock ≠ u.ownBlock) {vN' : Value} (hg : w.grownBy w' vN.ownBlock)
    (ho : w'.ownsRow base 34 1 vN' (rs.length + 1) (rs.map (·.1) ++ [u])) : BS base W B4 (rs ++ [(u, r)]) es vN' vE (w'.setCell ⟨B4, 0, none⟩ vN') := by
  have b4 := blkGrow hg h.b4 (own_cells' h.nx h.b4 (by decide))
  have en := h.en.kept hg (own_two h.en h.nx (by decide))
  have rw' : ∀ p ∈ rs ++ [(u, r)], 0 < p.2.length ∧ OwI w' base p.1 p.2 := by
    intro p hp
    have h0 : 0 < p.2.length ∧ OwI w base p.1 p.2 := by
      rcases List.mem_append.1 hp with hp | hp
      · exact h.rw p hp
      · simp at hp; subst hp; exact ⟨hr, hu⟩
    exact ⟨h0.1, h0.2.kept hg (own_two h0.2 h.nx (by decide))⟩
  have hgs := grownSet w' B4 0 vN'
  have hbel := h.bel.grown hg h.size (fun b hb => (own_ge h.nx b hb).1)
  refine ⟨hbel.setCell h.h4 _, Nat.le_trans (Nat.le_trans h.size hg.size) hgs.size, h.h4, by rw [heap_set b4]; rfl, ?_, en.kept hgs (.inr (own_cells' en b4 (by decide)).symm), fun p hp => ⟨(rw' p hp).1, (rw' p hp).2.kept hgs (.inr (own_cells' (rw' p hp).2 b4 (by decide)).symm)⟩, ?_⟩
  · have := ho.kept hgs (.inr (own_cells' ho b4 (by decide)).symm)
    simpa using this
  · rw [List.map_append, List.nodup_append]
    refine ⟨h.inj, by simp, fun a ha b hb => ?_⟩
    obtain ⟨p, hp, rfl⟩ := List.mem_map.1 ha
    simp at hb
    subst hb
    exact hne p hp
/-- A mark more. -/
theorem BS.mark (h : BS base W B4 rs es vN vE w) {x : Bool} {vE' : Value} (hg : w.grownBy w' vE.ownBlock) (ho : w'.ownsRow base 4 1 vE' (es.length + 1) (es.map .bool ++ [.bool x])) :
    BS base W B4 rs (es ++ [x]) vN vE' (w'.setCell ⟨B4, 1, none⟩ vE') := by
  have b4 := blkGrow hg h.b4 (own_cells' h.en h.b4 (by decide))
  have nx := h.nx.kept hg (own_two h.nx h.en (by decide))
  have rw' : ∀ p ∈ rs, 0 < p.2.length ∧ OwI w' base p.1 p.2 := fun p hp => ⟨(h.rw p hp).1, (h.rw p hp).2.kept hg (own_two (h.rw p hp).2 h.en (by decide))⟩
  have hgs := grownSet w' B4 1 vE'
  have hbel := h.bel.grown hg h.size (fun b hb => (own_ge h.en b hb).1)
  refine ⟨hbel.setCell h.h4 _, Nat.le_trans (Nat.le_trans h.size hg.size) hgs.size, h.h4, by rw [heap_set b4]; rfl, nx.kept hgs (.inr (own_cells' nx b4 (by decide)).symm), ?_, fun p hp => ⟨(rw' p hp).1, (rw' p hp).2.kept hgs (.inr (own_cells' (rw' p hp).2 b4 (by decide)).symm)⟩, h.inj⟩
  have := ho.kept hgs (.inr (own_cells' ho b4 (by decide)).symm)
  simpa using this
/-- The automaton that is built, to be read and written. -/
theorem BS.dfa (h : BS base W B4 rs es vN vE w) (hr : 0 < rs.length) (he : 0 < es.length) : DfaW (fun b => (base ≤ b ∧ b < w.heap.size) ∧ b ≠ B4) w vN vE (rs.map (·.2), es) := by
  have hn := h.nx
  have hm := h.en
  obtain ⟨o, cap, rfl, hb, cur, hg⟩ := own_some hn hr
  obtain ⟨q, cap', rfl, hb', cur', hg'⟩ := own_some hm he
  have hoq : o ≠ q := by
    rintro rfl
    rw [hg] at hg'
    injection hg' with hg'
    injection hg' with _ hx
    exact absurd hx (by decide)
  have n8 : ∀ {b : Nat} {cs : Array Value} {t : TypeId} {z : Nat × Nat}, w.heap[b]? = some (.cells cs t z) → t ≠ 52 → b ≠ B4 := fun hb hne he => by
    subst he
    rw [h.b4] at hb
    injection hb with hb
    injection hb with _ hx
    exact hne hx.symm
  have lt8 : ∀ {b : Nat} {ob : Obj}, w.heap[b]? = some ob → b < w.heap.size := fun hb => (Array.getElem?_eq_some_iff.1 hb).1
  have f1 := ownAt hn
  have f2 := ownAt hm
  have hrow : ∀ i (hi : i < rs.length), ∃ g cap, rs[i].1 = .slice (some ⟨g, 0, none⟩) rs[i].2.length cap ∧ base ≤ g ∧ ∃ cur, w.heap[g]? = some (.cells cur 3 (0, 0)) := fun i hi => own_some (h.rw _ (List.getElem_mem hi)).2 (h.rw _ (List.getElem_mem hi)).1
  refine ⟨q, ⟨⟨hb', lt8 hg'⟩, n8 hg' (by decide)⟩, ⟨o, fun i => ((rs.getD i (undef, [])).1.ownBlock).getD 0, fun i => (rs.getD i (undef, [])).1, ⟨⟨⟨hb, lt8 hg⟩, n8 hg (by decide)⟩, hoq⟩, ?_, fun i hi => ?_, fun i j hij hj => ?_⟩, f2⟩
  · have e1 : (List.range (rs.map (·.2)).length).map (fun i => (rs.getD i (undef, [])).1) = rs.map (·.1) := by
      apply List.ext_getElem
      · simp
      · intro i h1 h2
        simp at h1
        simp [List.getD, h1]
    rw [e1]
    simpa using f1
  · simp at hi
    obtain ⟨g, cap, e0, h1, cur, h2⟩ := hrow i hi
    have e1 : rs.getD i (undef, []) = rs[i] := by simp [List.getD, hi]
    have hrw := (h.rw _ (List.getElem_mem hi)).2
    rw [e0] at hrw
    simp only [e1, List.getElem_map]
    rw [e0]
    have hgo : (Value.ownBlock (.slice (some ⟨g, 0, none⟩) rs[i].2.length cap)).getD 0 = g := rfl
    simp only [hgo]
    refine ⟨⟨⟨⟨h1, lt8 h2⟩, n8 h2 (by decide)⟩, ?_⟩, ?_, ownAt hrw⟩
    · rintro rfl
      rw [hg'] at h2
      injection h2 with h2
      injection h2 with _ hx
      exact absurd hx (by decide)
    · rintro rfl
      rw [hg] at h2
      injection h2 with h2
      injection h2 with _ hx
      exact absurd hx (by decide)
  · simp at hj
    have hi : i < rs.length := by omega
    obtain ⟨g, cap, e0, _, _, _⟩ := hrow i hi
    obtain ⟨g', cap', e0', _, _, _⟩ := hrow j hj
    have e1 : rs.getD i (undef, []) = rs[i] := by simp [List.getD, hi]
    have e2 : rs.getD j (undef, []) = rs[j] := by simp [List.getD, hj]
    simp only [e1, e2]
    have := List.pairwise_iff_getElem.1 h.inj i j (by simpa using hi) (by simpa using hj) hij
    simp only [List.getElem_map] at this
    rw [e0, e0'] at this ⊢
    intro hh
    simp [Value.ownBlock] at hh
    exact this (by rw [hh]; rfl)
end
end Go.Proofs.Ytbcjhiponbfbnaa
namespace Go.Proofs.Ytbcjhiponbfbnaa
open Go.RowKit
set_option maxRecDepth 100000
theorem setCells_nil (w : World) (b k : Nat) : w.setCells b k [] = w := by simp [World.setCells]
theorem stepAppMany {S : Nat → Prop} {t e : TypeId} {sz bytes : Nat} (E : ElemT t e sz bytes) (hby : bytes ≤ 100) {ops : Array Oper} {o : Oper} {a : Act} {K : Act → World → Prop} {Q : Exit → Act → World → Prop} {E' : Prop} (hgd : o.guard = none) (s x : Operand)
    (ho : o.op = .call { callee := .builtin .append, args := #[s, x], argTypes := #[t, t] })
    (base : Nat) (v : Value) (n m : Nat) (xs news : List Value) (w : World) (ad : Addr) (c : Nat) (hs : a.eval s = v) (hx : a.eval x = .slice (some ad) m c)
    (hown : w.ownsRow base e sz v n xs) (hn0 : 0 < n) (hu : Fl S w (.slice (some ad) m c) m news) (hl : news.length = m * sz) (h1 : ∀ u ∈ news, u.oneCell' = true) (hn : n + m ≤ 1000000000) (hbase : base ≤ w.heap.size)
    (h : ∀ v' w', Hid (w'.ownsRow base e sz v' (n + m) (xs ++ news)) → w.grownBy w' v.ownBlock → K (a.put o.dst v') w') :
    if Region.wanted o (yielded ops a.tmps) = true then Oper.wp Try.prog o a w K Q else E' := by
  obtain ⟨i, z, hi, hz, h2, h3, h4⟩ := E.inf
  obtain ⟨a', cap, e1, hh, hc⟩ := hu
  injection e1 with e1 e2 e3
  subst e1
  have hcell : ∀ j u, news[j]? = some u → w.cell? (ad.add j) = some u := by
    intro j u hj
    obtain ⟨hlt, rfl⟩ := List.getElem?_eq_some_iff.1 hj
    obtain ⟨b, off, e, _, c⟩ := hc j hlt
    cases e
    rw [Addr.add_lit]; exact c
  rcases Nat.eq_zero_or_pos m with rfl | hm
  · have hnil : news = [] := List.eq_nil_of_length_eq_zero (by simpa using hl)
    subst hnil
    obtain ⟨g, cp, rfl, _, _⟩ := own_some hown hn0
    have hcp : n ≤ cp := by
      have := (ownFl hown).fl
      exact Fl.cap this
    refine step_append_room (P := Try.prog) hgd s x t ho e i sz E.ul hi h2 g 0 n cp hs ad 0 c [] hx (by simp) hcell h1 (by omega) (by simp) ?_
    rw [setCells_nil]
    exact h _ w (Lib.hid (by simpa using hown)) (grownRefl _ _)
  · refine step_append_lies (P := Try.prog) w hgd s x t ho base e i z sz bytes E.ul hi hz h2 h3 h4 E.pos v n xs hs hown ad m c news hx hl hcell h1 hm ?_ ?_ hbase _ rfl ?_
    · unfold maxLen; omega
    · have : (n + m) * bytes ≤ 1000000001 * 100 := Nat.mul_le_mul (by omega) hby
      omega
    · intro g cap w' k1 k2 k3 _
      exact h _ w' k1 k2
end Go.Proofs.Ytbcjhiponbfbnaa
namespace Go.Proofs.Ytbcjhiponbfbnaa
open Go.RowKit Go.ChangeMaps
set_option maxRecDepth 100000
/-- A pair of numbers, as a value. -/
def kvP (p : Nat × Nat) : Value := .agg #[.int .i64 p.1, .int .i64 p.2]
def clP (p : Nat × Nat) : List Value := [.int .i64 p.1, .int .i64 p.2]
end Go.Proofs.Ytbcjhiponbfbnaa
namespace Go.Proofs.Ytbcjhiponbfbnaa
open Go.RowKit
set_option maxRecDepth 100000
section
variable {α : Type} (kv : α → Value) (cl : α → List Value) (e : TypeId) (sz : Nat)
/-- The state: what was, the result's cells, the map, the states that are met, the automaton's cells, its rows and its marks. -/
structure XS (base : Nat) (W : World) (B8 Bm B13 : Nat) (Mm Mv : List α) (rs : List (Nat × List Int)) (es : List Bool) (vM vN vE : Value) (w : World) : Prop where
  ty : e ≠ 52 ∧ e ≠ 34 ∧ e ≠ 4
  bel : Below base W w
  h8 : base ≤ B8
  hm : base ≤ Bm
  h13 : base ≤ B13
  b8 : w.heap[B8]? = some (.cells #[.slice none 0 0, .slice none 0 0] 52 (0, 0))
  b13 : w.heap[B13]? = some (.cells #[vN, vE] 52 (0, 0))
  ne : B8 ≠ B13
  mp : MRow kv w Bm Mm
  me : w.ownsRow base e sz vM Mv.length (Mv.flatMap cl)
  nx : w.ownsRow base 34 1 vN rs.length (rs.map fun p => .slice (some ⟨p.1, 0, none⟩) 3 3)
  en : w.ownsRow base 4 1 vE es.length (es.map .bool)
  rw : ∀ p ∈ rs, base ≤ p.1 ∧ RowI w p.1 p.2 ∧ some p.1 ≠ vM.ownBlock
  inj : (rs.map (·.1)).Nodup
end
section
variable {α : Type} {kv : α → Value} {cl : α → List Value} {e : TypeId} {sz : Nat} {base : Nat} {W : World} {B8 Bm B13 : Nat} {Mm Mv : List α} {rs : List (Nat × List Int)} {es : List Bool} {vM vN vE : Value} {w w' : World}
theorem XS.size (h : XS kv cl e sz base W B8 Bm B13 Mm Mv rs es vM vN vE w) : base ≤ w.heap.size := Nat.le_of_lt (Nat.lt_of_le_of_lt h.hm h.mp.lt)
/-- A block that is none of these was written. -/
theorem XS.grow (h : XS kv cl e sz base W B8 Bm B13 Mm Mv rs es vM vN vE w) {row : Option Nat} (hg : w.grownBy w' row) (hb : ∀ b, row = some b → base ≤ b)
    (n8 : some B8 ≠ row) (nm : some Bm ≠ row) (n13 : some B13 ≠ row) (nM : vM.ownBlock = none ∨ vM.ownBlock ≠ row) (nN : vN.ownBlock = none ∨ vN.ownBlock ≠ row) (nE : vE.ownBlock = none ∨ vE.ownBlock ≠ row)
    (nr : ∀ p ∈ rs, some p.1 ≠ row) : XS kv cl e sz base W B8 Bm B13 Mm Mv rs es vM vN vE w' where
  ty := h.ty
  bel := h.bel.grown hg h.size hb
  h8 := h.h8
  hm := h.hm
  h13 := h.h13
  b8 := blkGrow hg h.b8 n8
  b13 := blkGrow hg h.b13 n13
  ne := h.ne
  mp := h.mp.grow hg nm
  me := h.me.kept hg nM
  nx := h.nx.kept hg nN
  en := h.en.kept hg nE
  rw := fun p hp => ⟨(h.rw p hp).1, (h.rw p hp).2.1.grow hg (nr p hp), (h.rw p hp).2.2⟩
  inj := h.inj
theorem XS.stay (h : XS kv cl e sz base W B8 Bm B13 Mm Mv rs es vM vN vE w) (hb : Below w.heap.size w w') : XS kv cl e sz base W B8 Bm B13 Mm Mv rs es vM vN vE w' :=
  h.grow (row := none) (grownBel hb) (by simp) (by simp) (by simp) (by simp) (by cases vM.ownBlock <;> simp) (by cases vN.ownBlock <;> simp) (by cases vE.ownBlock <;> simp) (by simp)
theorem XS.drew (h : XS kv cl e sz base W B8 Bm B13 Mm Mv rs es vM vN vE w) : XS kv cl e sz base W B8 Bm B13 Mm Mv rs es vM vN vE w.drew := h.stay (Below.refl _ _).drew
/-- A block of ints of the call's own that is none of the rows: it may be written. -/
theorem XS.cur (h : XS kv cl e sz base W B8 Bm B13 Mm Mv rs es vM vN vE w) {g : Nat} {r : List Int} (hr : RowI w g r) (hg : base ≤ g) (hM : some g ≠ vM.ownBlock) (hne : ∀ p ∈ rs, p.1 ≠ g) (o : Nat) (u : Value) :
    XS kv cl e sz base W B8 Bm B13 Mm Mv rs es vM vN vE (w.setCell ⟨g, o, none⟩ u) := by
  have key : ∀ {b : Nat} {ob : Obj}, w.heap[b]? = some ob → (∀ cs, ob ≠ .cells cs 3 (0, 0)) → some b ≠ some g := fun hb hne he => by
    cases he
    unfold RowI Row at hr
    rw [hb] at hr
    injection hr with hr
    exact hne _ hr
  refine h.grow (grownSet _ _ _ _) (fun b e => by cases e; exact hg) (key h.b8 (fun cs he => by injection he with _ he; exact absurd he (by decide))) (key h.mp (fun cs he => by injection he)) (key h.b13 (fun cs he => by injection he with _ he; exact absurd he (by decide)))
    (.inr (Ne.symm hM)) (.inr ?_) (.inr ?_) (fun p hp he => by cases he; exact hne p hp rfl)
  · exact (own_far h.nx hr (fun cs q he => by injection he with _ he; exact absurd he (by decide))).symm
  · exact (own_far h.en hr (fun cs q he => by injection he with _ he; exact absurd he (by decide))).symm
theorem XS.put (h : XS kv cl e sz base W B8 Bm B13 Mm Mv rs es vM vN vE w) {Mm' : List α} (hg : w.grownBy w' (some Bm)) (hm : MRow kv w' Bm Mm') : XS kv cl e sz base W B8 Bm B13 Mm' Mv rs es vM vN vE w' := by
  have key : ∀ {b : Nat} {cs : Array Value} {t : TypeId} {q : Nat × Nat}, w.heap[b]? = some (.cells cs t q) → some b ≠ some Bm := fun hb he => by
    cases he
    have := h.mp
    unfold MRow at this
    rw [hb] at this
    injection this with this
    injection this
  have far : ∀ {t : TypeId} {sz : Nat} {v : Value} {n : Nat} {xs : List Value}, w.ownsRow base t sz v n xs → v.ownBlock = none ∨ v.ownBlock ≠ some Bm := fun ho => .inr (own_far ho h.mp (fun cs q he => by injection he)).symm
  exact ⟨h.ty, h.bel.grown hg h.size (fun b e => by cases e; exact h.hm), h.h8, h.hm, h.h13, blkGrow hg h.b8 (key h.b8), blkGrow hg h.b13 (key h.b13), h.ne, hm,
    h.me.kept hg (far h.me), h.nx.kept hg (far h.nx), h.en.kept hg (far h.en), fun p hp => ⟨(h.rw p hp).1, (h.rw p hp).2.1.grow hg (key (h.rw p hp).2.1), (h.rw p hp).2.2⟩, h.inj⟩
/-- A state more is met. -/
theorem XS.met (h : XS kv cl e sz base W B8 Bm B13 Mm Mv rs es vM vN vE w) {Mv' : List α} {vM' : Value} (hg : w.grownBy w' vM.ownBlock)
    (ho : w'.ownsRow base e sz vM' Mv'.length (Mv'.flatMap cl)) {B : Nat} (hat : vM'.ownBlock = vM.ownBlock ∨ vM'.ownBlock = some B) (hB : w.heap.size ≤ B) : XS kv cl e sz base W B8 Bm B13 Mm Mv' rs es vM' vN vE w' := by
  have key : ∀ {b : Nat} {ob : Obj}, w.heap[b]? = some ob → (∀ cs q, ob ≠ .cells cs e q) → some b ≠ vM.ownBlock := fun hb hne => own_far h.me hb hne
  obtain ⟨he1, he2, he3⟩ := h.ty
  exact ⟨h.ty, h.bel.grown hg h.size (fun b hb => (own_ge h.me b hb).1), h.h8, h.hm, h.h13, blkGrow hg h.b8 (key h.b8 (fun cs q he => by injection he with _ he; exact he1 he.symm)),
    blkGrow hg h.b13 (key h.b13 (fun cs q he => by injection he with _ he; exact he1 he.symm)), h.ne, h.mp.grow hg (key h.mp (fun cs q he => by injection he)), ho,
    h.nx.kept hg (own_two h.nx h.me (Ne.symm he2)), h.en.kept hg (own_two h.en h.me (Ne.symm he3)),
    fun p hp => ⟨(h.rw p hp).1, (h.rw p hp).2.1.grow hg (h.rw p hp).2.2, by
      rcases hat with h1 | h1
      · rw [h1]; exact (h.rw p hp).2.2
      · rw [h1]
        intro he
        cases he
        have := (h.rw p hp).2.1.lt
        omega⟩, h.inj⟩
/-- Far from the automaton's cells. -/
theorem own_cells {w : World} {base : Nat} {t t' : TypeId} {sz : Nat} {v : Value} {n : Nat} {xs : List Value} (ho : w.ownsRow base t sz v n xs) {b : Nat} {cs : Array Value} {q : Nat × Nat} (hb : w.heap[b]? = some (.cells cs t' q)) (hne : t ≠ t') : some b ≠ v.ownBlock :=
  own_far ho hb (fun cs q he => by injection he with _ he; exact hne he.symm)
/-- A row more. -/
theorem XS.next (h : XS kv cl e sz base W B8 Bm B13 Mm Mv rs es vM vN vE w) {g : Nat} {r : List Int} (hr : RowI w g r) (hgb : base ≤ g) (hM : some g ≠ vM.ownBlock) (hne : ∀ p ∈ rs, p.1 ≠ g) {vN' : Value} (hg : w.grownBy w' vN.ownBlock)
    (ho : w'.ownsRow base 34 1 vN' (rs.length + 1) ((rs.map fun p => .slice (some ⟨p.1, 0, none⟩) 3 3) ++ [.slice (some ⟨g, 0, none⟩) 3 3])) :
    XS kv cl e sz base W B8 Bm B13 Mm Mv (rs ++ [(g, r)]) es vM vN' vE (w'.setCell ⟨B13, 0, none⟩ vN') := by
  obtain ⟨he1, he2, he3⟩ := h.ty
  have b13 := blkGrow hg h.b13 (own_cells h.nx h.b13 (by decide))
  have b8 := blkGrow hg h.b8 (own_cells h.nx h.b8 (by decide))
  have mp := h.mp.grow hg (own_far h.nx h.mp (fun cs q he => by injection he))
  have me := h.me.kept hg (own_two h.me h.nx he2)
  have en := h.en.kept hg (own_two h.en h.nx (by decide))
  have rw' : ∀ p ∈ rs ++ [(g, r)], base ≤ p.1 ∧ RowI w' p.1 p.2 ∧ some p.1 ≠ vM.ownBlock := by
    intro p hp
    have h0 : base ≤ p.1 ∧ RowI w p.1 p.2 ∧ some p.1 ≠ vM.ownBlock := by
      rcases List.mem_append.1 hp with hp | hp
      · exact h.rw p hp
      · simp at hp; subst hp; exact ⟨hgb, hr, hM⟩
    exact ⟨h0.1, h0.2.1.grow hg (own_cells h.nx h0.2.1 (by decide)), h0.2.2⟩
  have hgs := grownSet w' B13 0 vN'
  have hbel := h.bel.grown hg h.size (fun b hb => (own_ge h.nx b hb).1)
  refine ⟨h.ty, hbel.setCell h.h13 _, h.h8, h.hm, h.h13, blkSet b8 h.ne, by rw [heap_set b13]; rfl, h.ne, mp.far (fun he => ?_) _, me.kept hgs (.inr (own_cells me b13 he1).symm), ?_, en.kept hgs (.inr (own_cells en b13 (by decide)).symm), fun p hp => ⟨(rw' p hp).1, (rw' p hp).2.1.far (fun he => ?_) _, (rw' p hp).2.2⟩, ?_⟩
  · unfold MRow at mp
    rw [he, b13] at mp
    injection mp with mp
    injection mp
  · have := ho.kept hgs (.inr (own_cells ho b13 (by decide)).symm)
    simpa using this
  · have hx := (rw' p hp).2.1
    unfold RowI Row at hx
    rw [he, b13] at hx
    injection hx with hx
    injection hx with _ hx
    exact absurd hx (by decide)
  · rw [List.map_append, List.nodup_append]
    refine ⟨h.inj, by simp, fun a ha b hb => ?_⟩
    obtain ⟨p, hp, rfl⟩ := List.mem_map.1 ha
    simp at hb
    subst hb
    exact hne p hp
/-- A mark more. -/
theorem XS.mark (h : XS kv cl e sz base W B8 Bm B13 Mm Mv rs es vM vN vE w) {x : Bool} {vE' : Value} (hg : w.grownBy w' vE.ownBlock) (ho : w'.ownsRow base 4 1 vE' (es.length + 1) (es.map .bool ++ [.bool x])) :
    XS kv cl e sz base W B8 Bm B13 Mm Mv rs (es ++ [x]) vM vN vE' (w'.setCell ⟨B13, 1, none⟩ vE') := by
  obtain ⟨he1, he2, he3⟩ := h.ty
  have b13 := blkGrow hg h.b13 (own_cells h.en h.b13 (by decide))
  have b8 := blkGrow hg h.b8 (own_cells h.en h.b8 (by decide))
  have mp := h.mp.grow hg (own_far h.en h.mp (fun cs q he => by injection he))
  have me := h.me.kept hg (own_two h.me h.en he3)
  have nx := h.nx.kept hg (own_two h.nx h.en (by decide))
  have rw' : ∀ p ∈ rs, base ≤ p.1 ∧ RowI w' p.1 p.2 ∧ some p.1 ≠ vM.ownBlock := fun p hp => ⟨(h.rw p hp).1, (h.rw p hp).2.1.grow hg (own_cells h.en (h.rw p hp).2.1 (by decide)), (h.rw p hp).2.2⟩
  have hgs := grownSet w' B13 1 vE'
  have hbel := h.bel.grown hg h.size (fun b hb => (own_ge h.en b hb).1)
  refine ⟨h.ty, hbel.setCell h.h13 _, h.h8, h.hm, h.h13, blkSet b8 h.ne, by rw [heap_set b13]; rfl, h.ne, mp.far (fun he => ?_) _, me.kept hgs (.inr (own_cells me b13 he1).symm), nx.kept hgs (.inr (own_cells nx b13 (by decide)).symm), ?_, fun p hp => ⟨(rw' p hp).1, (rw' p hp).2.1.far (fun he => ?_) _, (rw' p hp).2.2⟩, h.inj⟩
  · unfold MRow at mp
    rw [he, b13] at mp
    injection mp with mp
    injection mp
  · have := ho.kept hgs (.inr (own_cells ho b13 (by decide)).symm)
    simpa using this
  · have hx := (rw' p hp).2.1
    unfold RowI Row at hx
    rw [he, b13] at hx
    injection hx with hx
    injection hx with _ hx
    exact absurd hx (by decide)
/-- The automaton that is built, to be read and written. -/
theorem XS.dfa (h : XS kv cl e sz base W B8 Bm B13 Mm Mv rs es vM vN vE w) (hr : 0 < rs.length) (he : 0 < es.length) (h3 : ∀ p ∈ rs, p.2.length = 3) : DfaW (fun b => (base ≤ b ∧ b < w.heap.size) ∧ b ≠ B8) w vN vE (rs.map (·.2), es) := by
  have hn := h.nx
  have hm := h.en
  rcases hn.2 with ⟨_, hz⟩ | ⟨o, cap, cur, rfl, hb, hg, _⟩
  · omega
  rcases hm.2 with ⟨_, hz⟩ | ⟨q, cap', cur', rfl, hb', hg', _⟩
  · omega
  have hoq : o ≠ q := by
    rintro rfl
    rw [hg] at hg'
    injection hg' with hg'
    injection hg' with _ hx
    exact absurd hx (by decide)
  have n8 : ∀ {b : Nat} {cs : Array Value} {t : TypeId} {z : Nat × Nat}, w.heap[b]? = some (.cells cs t z) → t ≠ 52 → b ≠ B8 := fun hb hne he => by
    subst he
    rw [h.b8] at hb
    injection hb with hb
    injection hb with _ hx
    exact hne hx.symm
  have lt8 : ∀ {b : Nat} {ob : Obj}, w.heap[b]? = some ob → b < w.heap.size := fun hb => (Array.getElem?_eq_some_iff.1 hb).1
  have f1 := ownAt hn
  have f2 := ownAt hm
  refine ⟨q, ⟨⟨hb', lt8 hg'⟩, n8 hg' (by decide)⟩, ⟨o, fun i => (rs.getD i (0, [])).1, fun i => .slice (some ⟨(rs.getD i (0, [])).1, 0, none⟩) 3 3, ⟨⟨⟨hb, lt8 hg⟩, n8 hg (by decide)⟩, hoq⟩, ?_, fun i hi => ?_, fun i j hij hj => ?_⟩, f2⟩
  · have e1 : (List.range (rs.map (·.2)).length).map (fun i => Value.slice (some ⟨(rs.getD i (0, [])).1, 0, none⟩) 3 3) = rs.map fun p => .slice (some ⟨p.1, 0, none⟩) 3 3 := by
      apply List.ext_getElem
      · simp
      · intro i h1 h2
        simp at h1
        simp [List.getD, h1]
    rw [e1]
    simpa using f1
  · simp at hi
    obtain ⟨h1, h2, _⟩ := h.rw rs[i] (List.getElem_mem hi)
    have hx := h3 rs[i] (List.getElem_mem hi)
    have e1 : rs.getD i (0, []) = rs[i] := by simp [List.getD, hi]
    simp only [e1, List.getElem_map]
    refine ⟨⟨⟨⟨h1, lt8 h2⟩, n8 h2 (by decide)⟩, ?_⟩, ?_, ?_⟩
    · intro hh
      unfold RowI Row at h2
      rw [hh, hg'] at h2
      injection h2 with h2
      injection h2 with _ hx
      exact absurd hx (by decide)
    · intro hh
      unfold RowI Row at h2
      rw [hh, hg] at h2
      injection h2 with h2
      injection h2 with _ hx
      exact absurd hx (by decide)
    · have := Row.flW h2 (n := 3) (cap := 3) hx.symm (Nat.le_refl _) (by unfold maxLen; omega)
      exact this
  · simp at hj
    have hi : i < rs.length := by omega
    have e1 : rs.getD i (0, []) = rs[i] := by simp [List.getD, hi]
    have e2 : rs.getD j (0, []) = rs[j] := by simp [List.getD, hj]
    simp only [e1, e2]
    have := List.pairwise_iff_getElem.1 h.inj i j (by simpa using hi) (by simpa using hj) hij
    simpa using this
end
end Go.Proofs.Ytbcjhiponbfbnaa

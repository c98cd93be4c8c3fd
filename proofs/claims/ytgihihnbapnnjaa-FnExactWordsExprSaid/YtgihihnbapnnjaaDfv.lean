/- Automata are valid: the program's and the reference's answer; searching a list of ints by a function. -/
import Derived.Test.YtgihihnbapnnjaaRdg
import Derived.Test.YtgihihnbapnnjaaApp
import Derived.Test.YtgihihnbapnnjaaAut
import Derived.Test.YtgihihnbapnnjaaWrd
namespace Go.Proofs.Ytgihihnbapnnjaa
open Go.RowKit
set_option maxRecDepth 100000
/-- Function f has a body of its own. -/
def HasBody (f : FuncId) : Prop := ∀ (args : Array Value) (w : World), (callFunc f args).run Try.prog w = .ok (.enter f args) w
theorem idxFuncInt_c {S : Nat → Prop} (v : Value) (xs : List Int) (w : World) (h : Ints S w v xs) (f : FuncId) (cs : Array Value) (p : Int → Prop) (hcf : HasBody f)
    (hf : ∀ x ∈ xs, Calls Try.prog f (#[.int .i64 x] ++ cs) w (RB w (p x))) :
    Calls Try.prog 163 #[v, .func (.func f) #[] cs] w (RI w fun n => (n = -1 ∧ ∀ x ∈ xs, ¬ p x) ∨ (0 ≤ n ∧ ∃ x ∈ xs, p x)) := by
  obtain ⟨a, cap, rfl, hn⟩ := h.shape
  have H := Lib.hid h; clear h
  have HF := Lib.hid hf; clear hf
  have HC := Lib.hid hcf; clear hcf
  go_enter Try.func163, Try.ntmps163
  go_wp2
  go_loop [8] (fun i => ∃ k : Nat, k ≤ xs.length ∧ i = .int .i64 k ∧ Hid (∀ j (hj : j < xs.length), j < k → ¬ p xs[j])) (fun i => xs.length - (intOf i).toNat)
  case atStart => exact ⟨0, by omega, rfl, fun j _ hj => absurd hj (Nat.not_lt_zero _)⟩
  case round =>
    obtain ⟨k, hk, rfl, hr⟩ := hrel
    by_cases hlt : k < xs.length
    · obtain ⟨b, off, rfl, hc⟩ := H.out.at hlt
      have Hf := Lib.hid (HF.out _ (List.getElem_mem hlt))
      have hx' : ∃ x, x = xs[k] := ⟨_, rfl⟩
      obtain ⟨x, hx⟩ := hx'
      rw [← hx] at hc Hf
      have Hx := Lib.hid hx; clear hx
      go_wp2_with fail
      rw [HC.out, Oper.upon_enter]
      refine Hf.out.mono ?_
      rintro e w' ⟨b, rfl, rfl, hb⟩
      cases b
      · have hp := Lib.hid (hbF hb); clear hb
        go_wp2
        go_round
        case rel => exact ⟨k + 1, by omega, by go_num, fun j hj hjk => by
          rcases Nat.lt_succ_iff_lt_or_eq.1 hjk with h | rfl
          · exact hr.out j hj h
          · rw [← Hx.out]; exact hp.out⟩
        case measure => simp [intOf]; omega
      · have hp := Lib.hid (hbT hb); clear hb
        go_wp2
        go_ret
        exact RI.mk (.inr ⟨by omega, x, by rw [Hx.out]; exact List.getElem_mem hlt, hp.out⟩)
    · go_wp2
      go_ret
      exact RI.mk (.inl ⟨rfl, fun x hx => by
        obtain ⟨j, hj, rfl⟩ := List.getElem_of_mem hx
        exact hr.out j hj (by omega)⟩)
theorem contFuncInt_c {S : Nat → Prop} (v : Value) (xs : List Int) (w : World) (h : Ints S w v xs) (f : FuncId) (cs : Array Value) (p : Int → Prop) (hcf : HasBody f)
    (hf : ∀ x ∈ xs, Calls Try.prog f (#[.int .i64 x] ++ cs) w (RB w (p x))) :
    Calls Try.prog 139 #[v, .func (.func f) #[] cs] w (RB w (∃ x ∈ xs, p x)) := by
  have H := Lib.hid (idxFuncInt_c v xs w h f cs p hcf hf)
  clear h hf hcf
  go_enter Try.func139, Try.ntmps139
  go_wp2_with fail
  refine H.out.mono ?_
  rintro e w' ⟨n, rfl, rfl, hn⟩
  rcases hn.out with ⟨rfl, h⟩ | ⟨h0, h⟩
  · have h' := Lib.hid h
    clear hn h
    go_wp2
    go_ret
    exact RB.mk ⟨nofun, fun ⟨x, hx, hp⟩ => (h'.out x hx hp).elim⟩
  · have h' := Lib.hid h
    clear hn h
    go_wp2
    go_ret
    exact RB.mk ⟨fun _ => h'.out, fun _ => rfl⟩
theorem inRow_c (x n : Int) (b : Nat) (w : World) (h : w.cell? ⟨b, 0, none⟩ = some (.int .i64 n)) (hn : 0 ≤ n ∧ n ≤ 9223372036854775807) :
    Calls Try.prog 140 (#[.int .i64 x] ++ #[.pointer (some ⟨b, 0, none⟩)]) w (RB w (¬ (0 ≤ x ∧ x ≤ n - 1))) := by
  obtain ⟨hn0, hn1⟩ := hn
  go_enter Try.func140, Try.ntmps140
  go_wp2_with fail
  refine (within_c _ _ _ _).mono ?_
  rintro e w' ⟨b, rfl, rfl, hb⟩
  cases b
  · have hp := Lib.hid (hbF hb); clear hb
    go_wp2
    go_ret
    exact RB.mk ⟨fun _ => hp.out, fun _ => rfl⟩
  · have hp := Lib.hid (hbT hb); clear hb
    go_wp2
    go_ret
    exact RB.mk ⟨nofun, fun h => (h hp.out).elim⟩
theorem body_inRow : HasBody 140 := by
  intro args w
  kernel_rfl
theorem DfaR.shapes {S : Nat → Prop} {w : World} {vn ve : Value} {D : DfaD} (h : DfaR S w vn ve D) : ∃ a c b d, vn = .slice a D.1.length c ∧ ve = .slice b D.2.length d ∧ D.1.length ≤ 9223372036854775807 ∧ D.2.length ≤ 9223372036854775807 := by
  obtain ⟨a, c, e1, h1⟩ := IntSS.shape h.1
  obtain ⟨b, d, e2, h2⟩ := Bools.shape h.2
  exact ⟨a, c, b, d, e1, e2, h1, h2⟩
def rowOk (n : Nat) (r : List Int) : Prop := r.length = 3 ∧ ∀ x ∈ r, 0 ≤ x ∧ x ≤ (n : Int) - 1
set_option maxHeartbeats 400000 in
theorem DfaValid_c {S : Nat → Prop} (vn ve : Value) (D : DfaD) (w : World) (h : DfaR S w vn ve D) :
    Calls Try.prog 94 #[.agg #[vn, ve]] w (RBn w (okD D)) := by
  obtain ⟨a, c, b, d, rfl, rfl, hn, hm⟩ := h.shapes
  have hb0 : Below w.heap.size w ((w.alloc (.cells #[.slice a D.1.length c, .slice b D.2.length d] 62)).alloc (.cells #[.int .i64 D.1.length] 3)) :=
    ((Below.refl _ _).alloc (Nat.le_refl _) _).alloc (by simp) _
  have H := Lib.hid (h.1.stay (kpB hb0)); clear h
  have Hb0 := Lib.hid hb0; clear hb0
  go_enter Try.func94, Try.ntmps94
  go_wp2
  go_loop [12] (fun i => ∃ k : Nat, k ≤ D.1.length ∧ i = .int .i64 k ∧ Hid (∀ j (hj : j < D.1.length), j < k → rowOk D.1.length D.1[j])) (fun i => D.1.length - (intOf i).toNat)
  case atStart => exact ⟨0, by omega, rfl, fun j _ hj => absurd hj (Nat.not_lt_zero _)⟩
  case round =>
    obtain ⟨k, hk, rfl, hr⟩ := hrel
    by_cases hlt : k < D.1.length
    · obtain ⟨bb, off, v, rfl, hc, hv⟩ := H.out.at hlt
      obtain ⟨ar, cr, rfl, hl⟩ := hv.shape
      obtain ⟨r, hr0⟩ : ∃ r, r = D.1[k] := ⟨_, rfl⟩
      rw [← hr0] at hv hc hl
      have Hr0 := Lib.hid hr0; clear hr0
      have HV := Lib.hid hv; clear hv
      have hno : ∀ (hj : k < D.1.length), ¬ rowOk D.1.length r → ¬ okD D := fun hj hn hD => hn (by rw [Hr0.out]; exact hD.2.2 _ (List.getElem_mem hj))
      have Hno := Lib.hid (hno hlt); clear hno
      by_cases h3 : r.length = 3
      · have e3 : ((r.length : Int) != 3) = false := by rw [h3]; rfl
        have H3 := Lib.hid h3; clear h3
        have CF := Lib.hid (contFuncInt_c (.slice ar r.length cr) r _ HV.out 140 #[.pointer (some ⟨w.heap.size + 1, 0, none⟩)] _ body_inRow (fun x _ => inRow_c x D.1.length (w.heap.size + 1) _ (by simp) ⟨by omega, by omega⟩))
        go_wp2_with fail
        refine CF.out.mono ?_
        rintro e w' ⟨b, rfl, rfl, hb⟩
        cases b
        · have hp := Lib.hid (hbF hb); clear hb CF
          go_wp2
          go_round
          case rel => exact ⟨k + 1, by omega, by go_num, fun j hj hjk => by
            rcases Nat.lt_succ_iff_lt_or_eq.1 hjk with h | rfl
            · exact hr.out j hj h
            · rw [← Hr0.out]
              exact ⟨H3.out, fun x hx => Classical.byContradiction fun hn => hp.out ⟨x, hx, hn⟩⟩⟩
          case measure => simp [intOf]; omega
        · have hp := Lib.hid (hbT hb); clear hb CF
          go_wp2
          go_ret
          exact RBn.mk Hb0.out ⟨nofun, fun hD => (Hno.out (fun hk => by obtain ⟨x, hx, hn⟩ := hp.out; exact hn (hk.2 x hx)) hD).elim⟩
      · have e3 : ((r.length : Int) != 3) = true := by simp; omega
        have H3 := Lib.hid h3; clear h3
        go_wp2
        go_ret
        exact RBn.mk Hb0.out ⟨nofun, fun hD => (Hno.out (fun hk => H3.out hk.1) hD).elim⟩
    · obtain rfl : k = D.1.length := by omega
      go_wp2_with fail
      refine (within_c _ _ _ _).mono ?_
      rintro e w' ⟨b, rfl, rfl, hb⟩
      cases b
      · have hp := Lib.hid (hbF hb); clear hb
        go_wp2
        go_ret
        exact RBn.mk Hb0.out ⟨nofun, fun hD => (hp.out ⟨by have := hD.1.1; omega, by have := hD.1.2; omega⟩).elim⟩
      · have hp := Lib.hid (hbT hb); clear hb
        go_wp2
        go_ret
        refine RBn.mk Hb0.out ⟨fun he => ⟨⟨by have := hp.out.1; omega, by have := hp.out.2; omega⟩, by simp at he; omega, fun r hr' => ?_⟩, fun hD => by have := hD.2.1; simp; omega⟩
        obtain ⟨j, hj, rfl⟩ := List.getElem_of_mem hr'
        exact hr.out j hj hj
/-- The cells that a step of a valid automaton reads. -/
theorem DfaR.row {S : Nat → Prop} {w : World} {a : Option Addr} {n c : Nat} {ve : Value} {D : DfaD} (h : DfaR S w (.slice a n c) ve D) (hD : okD D) {x : Nat} (hx : x < D.1.length) :
    ∃ b o br or_ cr, a = some ⟨b, o, none⟩ ∧ w.cell? ⟨b, o + x, none⟩ = some (.slice (some ⟨br, or_, none⟩) 3 cr) ∧ Ints S w (.slice (some ⟨br, or_, none⟩) 3 cr) D.1[x] ∧
      ∀ l, l < 3 → w.cell? ⟨br, or_ + l, none⟩ = some (.int .i64 (dn D x l)) := by
  obtain ⟨b, o, v, e, hc, hv⟩ := IntSS.at h.1 hx
  obtain ⟨ar, cr, rfl, _⟩ := hv.shape
  have h3 := (dn_cell hD hx (c := 0) (by omega)).1
  rw [h3] at hc hv
  obtain ⟨br, or_, rfl, _⟩ := Ints.at hv (k := 0) (by omega)
  refine ⟨b, o, br, or_, cr, e, hc, hv, fun l hl => ?_⟩
  obtain ⟨br', or', e', h2⟩ := Ints.at hv (k := l) (by omega)
  cases e'
  rw [h2, (dn_cell hD hx hl).2.1]
theorem DfaR.step {S : Nat → Prop} {w : World} {a : Option Addr} {n c : Nat} {ve : Value} {D : DfaD} (h : DfaR S w (.slice a n c) ve D) (hD : okD D) {x l : Nat} (hx : x < D.1.length) (hl : l < 3) :
    ∃ b o br or_ cr, a = some ⟨b, o, none⟩ ∧ w.cell? ⟨b, o + x, none⟩ = some (.slice (some ⟨br, or_, none⟩) 3 cr) ∧ w.cell? ⟨br, or_ + l, none⟩ = some (.int .i64 (dn D x l)) ∧ dn D x l < D.1.length := by
  obtain ⟨b, o, br, or_, cr, e, h1, _, h2⟩ := h.row hD hx
  exact ⟨b, o, br, or_, cr, e, h1, h2 l hl, dn_lt hD hx hl⟩
/-- The cell of a mark. -/
theorem DfaR.mark {S : Nat → Prop} {w : World} {a : Option Addr} {n c : Nat} {vn : Value} {D : DfaD} (h : DfaR S w vn (.slice a n c) D) (hD : okD D) {x : Nat} (hx : x < D.1.length) :
    ∃ b o, a = some ⟨b, o, none⟩ ∧ w.cell? ⟨b, o + x, none⟩ = some (.bool (de D x)) := by
  obtain ⟨b, o, e, hc⟩ := Bools.at h.2 (k := x) (by rw [hD.2.1]; exact hx)
  exact ⟨b, o, e, by rw [hc, de_cell hD hx]⟩
theorem qAdd {P : Program} {f : FuncId} {args : Array Value} {w : World} {a n : Nat} {v : Value}
    (h : Calls P f args (w.drewN (a + n)) fun e w' => e = .returned v ∧ w' = w.drewN (a + n)) :
    Calls P f args (w.drewN (a + n)) fun e w'' => e = .returned v ∧ ∃ m, w'' = w.drewN (a + m) :=
  h.mono fun _ _ ⟨he, hm⟩ => ⟨he, n, hm⟩
open Classical in
/-- The answer that says p. -/
noncomputable def pb (p : Prop) : Bool := decide p
theorem pb_true {p : Prop} (h : p) : pb p = true := by unfold pb; simp [h]
theorem pb_false {p : Prop} (h : ¬ p) : pb p = false := by unfold pb; simp [h]
theorem RB.q {P : Program} {f : FuncId} {args : Array Value} {w : World} {p : Prop} (h : Calls P f args w (RB w p)) : Calls P f args w (fun e w' => e = .returned (.bool (pb p)) ∧ w' = w) :=
  h.mono fun e w' ⟨b, he, hw, hb⟩ => by
    refine ⟨?_, hw.symm⟩
    rw [he]
    cases b
    · rw [pb_false (hbF hb)]
    · rw [pb_true (hbT hb)]
set_option maxHeartbeats 400000 in
theorem sDfaValid_c {S : Nat → Prop} (vn ve : Value) (D : DfaD) (w : World) (h : DfaR S w vn ve D) :
    Calls Try.prog 90 #[.agg #[vn, ve]] w (RBn w (okD D)) := by
  obtain ⟨a, c, b, d, rfl, rfl, hn, hm⟩ := h.shapes
  have hb0 : Below w.heap.size w (w.alloc (.cells #[.slice a D.1.length c, .slice b D.2.length d] 62)) := (Below.refl _ _).alloc (Nat.le_refl _) _
  have H := Lib.hid (h.1.stay (kpB hb0)); clear h
  go_enter Try.func90, Try.ntmps90
  go_wp2
  have c0 : (w.alloc (.cells #[.slice a D.1.length c, .slice b D.2.length d] 62)).cell? ⟨w.heap.size, 0, none⟩ = some (.slice a D.1.length c) := by rw [World.cell?_alloc_mark]; rfl
  have c1 : (w.alloc (.cells #[.slice a D.1.length c, .slice b D.2.length d] 62)).cell? ⟨w.heap.size, 1, none⟩ = some (.slice b D.2.length d) := by rw [World.cell?_alloc_mark]; rfl
  generalize w.alloc (.cells #[.slice a D.1.length c, .slice b D.2.length d] 62) = W at *
  have Hb0 := Lib.hid hb0; clear hb0
  go_loopw [3] (fun i wr => ∃ k : Nat, k ≤ D.1.length ∧ i = .int .i64 k ∧ (∃ q, wr = W.drewN q) ∧ Hid (∀ j (hj : j < D.1.length), j < k → rowOk D.1.length D.1[j])) (fun i _ => D.1.length - (intOf i).toNat)
  case atStart => exact ⟨0, by omega, rfl, ⟨0, rfl⟩, fun j _ hj => absurd hj (Nat.not_lt_zero _)⟩
  case round =>
    obtain ⟨k, hk, rfl, ⟨q, rfl⟩, hr⟩ := hrel
    by_cases hlt : k < D.1.length
    · obtain ⟨bb, off, v, rfl, hc, hv⟩ := H.out.at hlt
      obtain ⟨ar, cr, rfl, hl⟩ := hv.shape
      obtain ⟨r, hr0⟩ : ∃ r, r = D.1[k] := ⟨_, rfl⟩
      rw [← hr0] at hv hc hl
      have Hr0 := Lib.hid hr0; clear hr0
      have HV := Lib.hid hv; clear hv
      have hno : ∀ (hj : k < D.1.length), ¬ rowOk D.1.length r → ¬ okD D := fun hj hn hD => hn (by rw [Hr0.out]; exact hD.2.2 _ (List.getElem_mem hj))
      have Hno := Lib.hid (hno hlt); clear hno
      by_cases h3 : r.length = 3
      · have e3 : ((r.length : Int) != 3) = false := by rw [h3]; rfl
        have H3 := Lib.hid h3; clear h3
        go_wp2_with fail
        go_loopw [4] (fun i wr => ∃ j : Nat, j ≤ 3 ∧ i = .int .i64 j ∧ (∃ q, wr = W.drewN q) ∧ Hid (∀ t (ht : t < r.length), t < j → 0 ≤ r[t] ∧ r[t] ≤ (D.1.length : Int) - 1)) (fun i _ => 3 - (intOf i).toNat)
        case atStart => exact ⟨0, by omega, rfl, ⟨q, rfl⟩, fun j _ hj => absurd hj (Nat.not_lt_zero _)⟩
        case round =>
          obtain ⟨j, hj, rfl, ⟨q2, rfl⟩, hr2⟩ := hrel
          by_cases hlt2 : j < 3
          · obtain ⟨br, or_, rfl, hcx⟩ := HV.out.at (k := j) (by rw [H3.out]; omega)
            obtain ⟨x, hx⟩ : ∃ x, x = r[j]'(by rw [H3.out]; omega) := ⟨_, rfl⟩
            rw [← hx] at hcx
            have Hx := Lib.hid hx; clear hx
            by_cases hin : 0 ≤ x ∧ x ≤ (D.1.length : Int) - 1
            · have hpb := pb_true hin
              have Hin := Lib.hid hin; clear hin
              have hjr : (j : Int) < (r.length : Int) := by rw [H3.out]; omega
              have hw1 : IntKind.i64.wrap ((D.1.length : Int) - 1) = (D.1.length : Int) - 1 := IntWalk.i64_in _ (by omega)
              go_wp2_with fail
              go_quiet ((go_at_call 127; exact qAdd (RB.q (l1In_c _ _ _ _))))
              go_wp2
              go_roundw
              case rel => exact ⟨j + 1, by omega, by go_num, ⟨_, rfl⟩, fun t ht htj => by
                rcases Nat.lt_succ_iff_lt_or_eq.1 htj with h | rfl
                · exact hr2.out t ht h
                · rw [← Hx.out]; exact Hin.out⟩
              case measure => simp [intOf]; omega
            · have hpb := pb_false hin
              have Hin := Lib.hid hin; clear hin
              have hjr : (j : Int) < (r.length : Int) := by rw [H3.out]; omega
              have hw1 : IntKind.i64.wrap ((D.1.length : Int) - 1) = (D.1.length : Int) - 1 := IntWalk.i64_in _ (by omega)
              go_wp2_with fail
              go_quiet ((go_at_call 127; exact qAdd (RB.q (l1In_c _ _ _ _))))
              go_wp2
              go_ret
              exact RBn.mk (belDrewN (belDrewN Hb0.out _) _) ⟨nofun, fun hD => (Hno.out (fun hk => Hin.out (by rw [Hx.out]; exact hk.2 _ (List.getElem_mem _))) hD).elim⟩
          · obtain rfl : j = 3 := by omega
            go_wp2
            go_roundw
            case rel => exact ⟨k + 1, by omega, by go_num, ⟨_, rfl⟩, fun j hj hjk => by
              rcases Nat.lt_succ_iff_lt_or_eq.1 hjk with h | rfl
              · exact hr.out j hj h
              · rw [← Hr0.out]
                exact ⟨H3.out, fun x hx => by
                  obtain ⟨t, ht, rfl⟩ := List.getElem_of_mem hx
                  exact hr2.out t ht (by rw [← H3.out]; exact ht)⟩⟩
            case measure => simp [intOf]; omega
      · have e3 : ((r.length : Int) != 3) = true := by simp; omega
        have H3 := Lib.hid h3; clear h3
        go_wp2
        go_ret
        exact RBn.mk (belDrewN Hb0.out _) ⟨nofun, fun hD => (Hno.out (fun hk => H3.out hk.1) hD).elim⟩
    · obtain rfl : k = D.1.length := by omega
      go_wp2_with fail
      refine (l1In_c _ _ _ _).mono ?_
      rintro e w' ⟨b, rfl, rfl, hb⟩
      cases b
      · have hp := Lib.hid (hbF hb); clear hb
        go_wp2
        go_ret
        exact RBn.mk (belDrewN Hb0.out _) ⟨nofun, fun hD => (hp.out ⟨by have := hD.1.1; omega, by have := hD.1.2; omega⟩).elim⟩
      · have hp := Lib.hid (hbT hb); clear hb
        go_wp2
        go_ret
        refine RBn.mk (belDrewN Hb0.out _) ⟨fun he => ⟨⟨by have := hp.out.1; omega, by have := hp.out.2; omega⟩, by simp at he; omega, fun r hr' => ?_⟩, fun hD => by have := hD.2.1; simp; omega⟩
        obtain ⟨j, hj, rfl⟩ := List.getElem_of_mem hr'
        exact hr.out j hj hj
end Go.Proofs.Ytgihihnbapnnjaa

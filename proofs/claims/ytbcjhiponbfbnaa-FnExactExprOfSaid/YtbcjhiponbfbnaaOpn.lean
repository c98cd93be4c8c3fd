/- From the row's reading of an argument to what memory holds. No condition. -/
import Derived.Deep.Slices
import Derived.Lib.SmallJoins
import Derived.ProofKit
import Derived.Test.YtbcjhiponbfbnaaGA
set_option linter.unusedSimpArgs false
set_option linter.unusedVariables false
set_option linter.unusedSectionVars false
namespace Go.Proofs.Ytbcjhiponbfbnaa.Opn
set_option maxRecDepth 100000
open Go.ChangeShapes Go.WideShapes Go.Deep
variable {H : Type} {enc : TypeId × Value → H} {W : World} {base : Nat} {spare : Nat → Bool} {held : Bool}

theorem spotless {a : Addr} {v : Value} (h : W.cell? a = some v) : a = ⟨a.block, a.off, none⟩ := by
  obtain ⟨b, o, s⟩ := a
  cases s with
  | none => rfl
  | some _ => unfold World.cell? at h; split at h <;> simp at h

/-- A slice, opened: its cells, and the reading of each element's cells. -/
theorem slice {P : Program} {t e : TypeId} {fuel : Nat} {cs : List Value} {x : DataW H × List MemPlace} {s : Nat} (hs : 0 < s) (ht : P.underlying t = some (.slice e)) (hc : P.cellsOf e = s)
    (h : DataW.trod enc P W base spare held fuel t cs = some x) :
    ∃ (v : Value) (n : Nat) (css : Nat → List Value), cs = [v] ∧ Fl (fun _ => True) W v n ((List.range n).flatMap css) ∧ (∀ i, i < n → (css i).length = s) ∧
      ∀ i, i < n → ∃ m y, DataW.trod enc P W base spare held m e (css i) = some y := by
  rcases open_slice ht h with ⟨rfl, _⟩ | ⟨a, len, cap, m, n, D, Pl, rfl, hb, hl, hm, hmm, rfl, hx⟩
  · exact ⟨_, 0, fun _ => [], rfl, Fl.nil _, fun i hi => absurd hi (Nat.not_lt_zero _), fun i hi => absurd hi (Nat.not_lt_zero _)⟩
  have hlm : len ≤ m := by rw [hmm]; split <;> omega
  obtain ⟨css, hcss⟩ := choose_lt (α := List Value) (fun i (hi : i < len) => hx i (by omega))
  have hlen : ∀ i, i < len → (css i).length = s := fun i hi => by
    obtain ⟨_, h2, _⟩ := World.cells?_some (hcss i hi).1
    rw [h2, hc]
  refine ⟨_, len, css, rfl, ⟨some a, cap, rfl, ⟨by omega, by omega, by simp⟩, fun i hi => ?_⟩, hlen, fun i hi => ⟨n, _, (hcss i hi).2⟩⟩
  have hpos : 0 < len := by
    rcases Nat.eq_zero_or_pos len with h0 | h0
    · subst h0; simp at hi
    · exact h0
  have ha : a = ⟨a.block, a.off, none⟩ := by
    obtain ⟨_, h2, h3⟩ := World.cells?_some (hcss 0 hpos).1
    have h4 := h3 0 (by omega)
    rw [List.getElem?_eq_getElem (by rw [hlen 0 hpos]; omega)] at h4
    rw [Nat.zero_mul] at h4
    have e0 : ∀ b : Addr, b.add 0 = b := fun b => by simp [Addr.add]
    rw [e0, e0] at h4
    exact spotless h4
  have htot : ∀ m, m ≤ len → ((List.range m).flatMap css).length = m * s := by
    intro m
    induction m with
    | zero => intro _; simp
    | succ m ih => intro hm'; rw [List.range_succ, List.flatMap_append, List.length_append, ih (by omega)]; simp [hlen m (by omega), Nat.add_mul]
  have hget : ∀ m, m ≤ len → ∀ j (hj : j < ((List.range m).flatMap css).length), W.cell? ⟨a.block, a.off + j, none⟩ = some (((List.range m).flatMap css)[j]) := by
    intro m
    induction m with
    | zero => intro _ j hj; simp at hj
    | succ m ih =>
      intro hm' j hj
      have hj' := hj
      rw [htot (m + 1) hm', Nat.add_mul, Nat.one_mul] at hj'
      have hspl : (List.range (m + 1)).flatMap css = (List.range m).flatMap css ++ css m := by rw [List.range_succ, List.flatMap_append]; simp
      by_cases hlt : j < m * s
      · have := ih (by omega) j (by rw [htot m (by omega)]; exact hlt)
        rw [this]; congr 1
        simp only [hspl]
        rw [List.getElem_append_left (by rw [htot m (by omega)]; exact hlt)]
      · obtain ⟨_, h2, h3⟩ := World.cells?_some (hcss m (by omega)).1
        have h4 := h3 (j - m * s) (by omega)
        rw [hc, ha] at h4
        simp only [Addr.add_lit] at h4
        rw [show a.off + m * s + (j - m * s) = a.off + j by omega] at h4
        rw [h4]
        simp only [hspl]
        rw [List.getElem_append_right (by rw [htot m (by omega)]; omega)]
        rw [List.getElem?_eq_getElem (by rw [hlen m (by omega)]; omega)]
        simp only [htot m (show m ≤ len by omega)]
  exact ⟨a.block, a.off, by rw [← ha], trivial, hget len (Nat.le_refl _) i hi⟩

theorem flat1 {α β : Type} (xs : List α) (g : α → β) : xs.flatMap (fun z => [g z]) = xs.map g := by
  induction xs with
  | nil => rfl
  | cons a t ih => simp [List.flatMap_cons, ih]

theorem flat_of {α : Type} {n : Nat} {css : Nat → List Value} {f : α → List Value} {xs : Nat → α} (h : ∀ i, i < n → css i = f (xs i)) :
    (List.range n).flatMap css = ((List.range n).map xs).flatMap f := by
  rw [List.flatMap_map]
  exact flatMap_congr_range h

theorem ints1 {cs : List Value} {x : DataW H × List MemPlace} {fuel : Nat} (h : DataW.trod enc Try.prog W base spare held fuel 34 cs = some x) : ∃ v xs, cs = [v] ∧ Ints (fun _ => True) W v xs := by
  obtain ⟨v, n, css, rfl, hf, _, hx⟩ := slice (s := 1) (by omega) Try.underlying34 (by kernel_rfl) h
  have : ∀ i, i < n → ∃ z : Int, css i = [.int .i64 z] := fun i hi => by
    obtain ⟨m, y, hy⟩ := hx i hi
    obtain ⟨z, e, _⟩ := DataW.trod_int Try.underlying3 hy
    exact ⟨z, e⟩
  obtain ⟨zs, hz⟩ := choose_lt this
  refine ⟨v, (List.range n).map zs, rfl, ?_⟩
  unfold Ints
  rw [flat_of (f := fun z => [.int .i64 z]) hz, flat1] at hf
  simpa using hf
theorem bools1 {cs : List Value} {x : DataW H × List MemPlace} {fuel : Nat} (h : DataW.trod enc Try.prog W base spare held fuel 47 cs = some x) : ∃ v xs, cs = [v] ∧ Bools (fun _ => True) W v xs := by
  obtain ⟨v, n, css, rfl, hf, _, hx⟩ := slice (s := 1) (by omega) Try.underlying47 (by kernel_rfl) h
  have : ∀ i, i < n → ∃ z : Bool, css i = [.bool z] := fun i hi => by
    obtain ⟨m, y, hy⟩ := hx i hi
    obtain ⟨z, e, _⟩ := DataW.trod_bool Try.underlying4 hy
    exact ⟨z, e⟩
  obtain ⟨zs, hz⟩ := choose_lt this
  refine ⟨v, (List.range n).map zs, rfl, ?_⟩
  unfold Bools
  rw [flat_of (f := fun z => [.bool z]) hz, flat1] at hf
  simpa using hf
theorem bytes1 {cs : List Value} {x : DataW H × List MemPlace} {fuel : Nat} (h : DataW.trod enc Try.prog W base spare held fuel 22 cs = some x) : ∃ v xs, cs = [v] ∧ Bytes (fun _ => True) W v xs := by
  obtain ⟨v, n, css, rfl, hf, _, hx⟩ := slice (s := 1) (by omega) Try.underlying22 (by kernel_rfl) h
  have : ∀ i, i < n → ∃ z : UInt8, css i = [.int .u8 z.toNat] := fun i hi => by
    obtain ⟨m, y, hy⟩ := hx i hi
    obtain ⟨z, e, _, hw⟩ := DataW.trod_int Try.underlying5 hy
    have hb : 0 ≤ z ∧ z ≤ 255 := by simpa [Lit.wf, IntKind.min, IntKind.max, IntKind.signed, IntKind.bits] using hw
    refine ⟨UInt8.ofNat z.toNat, ?_⟩
    rw [e]
    congr 2
    rw [UInt8.toNat_ofNat']
    omega
  obtain ⟨zs, hz⟩ := choose_lt (α := UInt8) this
  refine ⟨v, (List.range n).map zs, rfl, ?_⟩
  unfold Bytes
  rw [flat_of (f := fun z : UInt8 => [.int .u8 z.toNat]) hz, flat1] at hf
  simpa using hf
theorem bytes {v : Value} {b0 : Nat} {r : Reach} {d : DataW H} {ps : List MemPlace} (hv : Value.okWide Try.prog W r b0 22 v) (h : DataW.Trod enc Try.prog W base spare held 22 v d ps) : ∃ xs, Bytes (fun _ => True) W v xs := by
  obtain ⟨a, l, c, rfl⟩ := okWide_slice Try.underlying22 hv
  obtain ⟨fuel, hf⟩ := h
  obtain ⟨v', xs, e, hx⟩ := bytes1 hf
  simp [Value.cells] at e
  exact ⟨xs, e ▸ hx⟩
theorem strs1 {cs : List Value} {x : DataW H × List MemPlace} {fuel : Nat} (h : DataW.trod enc Try.prog W base spare held fuel 112 cs = some x) : ∃ v xs, cs = [v] ∧ Strs (fun _ => True) W v xs := by
  obtain ⟨v, n, css, rfl, hf, _, hx⟩ := slice (s := 1) (by omega) Try.underlying112 (by kernel_rfl) h
  have : ∀ i, i < n → ∃ z : ByteArray, css i = [.string z] ∧ z.size ≤ maxLen := fun i hi => by
    obtain ⟨m, y, hy⟩ := hx i hi
    obtain ⟨z, e, _, hz⟩ := DataW.trod_string Try.underlying9 hy
    exact ⟨z, e, hz⟩
  obtain ⟨zs, hz⟩ := choose_lt (α := ByteArray) this
  refine ⟨v, (List.range n).map zs, rfl, ?_, ?_⟩
  · rw [flat_of (f := fun z => [.string z]) (fun i hi => (hz i hi).1), flat1] at hf
    simpa using hf
  · intro s hs
    obtain ⟨i, hi, rfl⟩ := List.mem_map.1 hs
    exact (hz i (by simpa using hi)).2
theorem strs {v : Value} {b0 : Nat} {r : Reach} {d : DataW H} {ps : List MemPlace} (hv : Value.okWide Try.prog W r b0 112 v) (h : DataW.Trod enc Try.prog W base spare held 112 v d ps) : ∃ xs, Strs (fun _ => True) W v xs := by
  obtain ⟨a, l, c, rfl⟩ := okWide_slice Try.underlying112 hv
  obtain ⟨fuel, hf⟩ := h
  obtain ⟨v', xs, e, hx⟩ := strs1 hf
  simp [Value.cells] at e
  exact ⟨xs, e ▸ hx⟩
theorem intss1 {cs : List Value} {x : DataW H × List MemPlace} {fuel : Nat} (h : DataW.trod enc Try.prog W base spare held fuel 46 cs = some x) : ∃ v xs, cs = [v] ∧ IntSS (fun _ => True) W v xs := by
  obtain ⟨v, n, css, rfl, hf, _, hx⟩ := slice (s := 1) (by omega) Try.underlying46 (by kernel_rfl) h
  have : ∀ i, i < n → ∃ z : Value × List Int, css i = [z.1] ∧ Ints (fun _ => True) W z.1 z.2 := fun i hi => by
    obtain ⟨m, y, hy⟩ := hx i hi
    obtain ⟨v', xs, e, hz⟩ := ints1 hy
    exact ⟨(v', xs), e, hz⟩
  obtain ⟨zs, hz⟩ := choose_lt (α := Value × List Int) this
  refine ⟨v, (List.range n).map fun i => (zs i).2, rfl, (List.range n).map fun i => (zs i).1, ?_, by simp, ?_⟩
  · rw [flat_of (xs := fun i => (zs i).1) (f := fun z => [z]) (fun i hi => (hz i hi).1), flat1] at hf
    simpa [Function.comp_def] using hf
  · intro i hi
    have hi' : i < n := by simpa using hi
    simpa [List.getD, hi'] using (hz i hi').2
theorem dfa1 {cs : List Value} {x : DataW H × List MemPlace} {fuel : Nat} (h : DataW.trod enc Try.prog W base spare held fuel 49 cs = some x) : ∃ v0 v1 D, cs = [v0, v1] ∧ DfaR (fun _ => True) W v0 v1 D := by
  obtain ⟨y0, y1, n, _, hl, h0, h1⟩ := trod_struct2 Try.underlying49 h
  have hc : Try.prog.cellsOf 49 = 2 := by kernel_rfl
  have hc0 : Try.prog.cellsOf 46 = 1 := by kernel_rfl
  have hc1 : Try.prog.cellsOf 47 = 1 := by kernel_rfl
  match cs, hl.trans hc with
  | [c0, c1], _ =>
    simp only [hc0, hc1, List.drop_zero, List.take_succ_cons, List.take_zero, List.drop_succ_cons] at h0 h1
    obtain ⟨v0, xs, e0, r0⟩ := intss1 h0
    obtain ⟨v1, bs, e1, r1⟩ := bools1 h1
    simp at e0 e1
    subst e0 e1
    exact ⟨c0, c1, (xs, bs), rfl, r0, r1⟩
theorem dfa {v : Value} {b0 : Nat} {r : Reach} {d : DataW H} {ps : List MemPlace} (hv : Value.okWide Try.prog W r b0 49 v) (h : DataW.Trod enc Try.prog W base spare held 49 v d ps) : ∃ v0 v1 D, v = .agg #[v0, v1] ∧ DfaR (fun _ => True) W v0 v1 D := by
  obtain ⟨cs, rfl, _⟩ := okWide_struct Try.underlying49 hv
  obtain ⟨fuel, hf⟩ := h
  obtain ⟨v0, v1, D, e, hx⟩ := dfa1 hf
  refine ⟨v0, v1, D, ?_, hx⟩
  simp [Value.cells] at e
  obtain ⟨l⟩ := cs
  simp at e
  rw [e]
end Go.Proofs.Ytbcjhiponbfbnaa.Opn

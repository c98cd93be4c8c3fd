/- Automata with choices: sizes, copies, comparing, marks.
Automata with choices that a call made: three lists of its own.
An automaton as one with choices: the program's answer.
Parts and expressions: which are valid. Lists of at most 2^20 parts.
Expressions: which are valid (the reference's). Lists of at most 2^20 parts.
Expressions as trees. No program.
Splitting an expression into its operands: the reference's. -/
import Derived.StillTailTactics
import Derived.Test.YtbcjhiponbfbnaaGC
import Derived.Test.YtbcjhiponbfbnaaGA
set_option linter.unusedSimpArgs false
set_option linter.unusedVariables false
set_option linter.unusedSectionVars false
namespace Go.Proofs.Ytbcjhiponbfbnaa
open Go.RowKit
set_option maxRecDepth 100000
variable {S T : Nat → Prop}
/-- Three slices in blocks of their own, that may be written. -/
def NfW (S : Nat → Prop) (w : World) (vm vf ve : Value) (n1 n2 n3 : Nat) (c1 c2 c3 : List Value) : Prop :=
  ∃ p q r, (S p ∧ S q ∧ S r) ∧ (p ≠ q ∧ p ≠ r ∧ q ≠ r) ∧ FlW (· = p) w vm n1 c1 ∧ FlW (· = q) w vf n2 c2 ∧ FlW (· = r) w ve n3 c3
/-- An automaton with choices that may be written. -/
def NfaW (S : Nat → Prop) (w : World) (vm vf ve : Value) (D : NfaD) : Prop :=
  NfW S w vm vf ve D.moves.length D.firsts.length D.ends.length (cells3 D.moves) (D.firsts.map (.int .i64 ·)) (D.ends.map (.int .i64 ·))
theorem NfW.stay {w w' : World} {vm vf ve : Value} {n1 n2 n3 : Nat} {c1 c2 c3 : List Value} (h : NfW S w vm vf ve n1 n2 n3 c1 c2 c3) (k : Ks S w w') : NfW S w' vm vf ve n1 n2 n3 c1 c2 c3 := by
  obtain ⟨p, q, r, hS, hne, h1, h2, h3⟩ := h
  exact ⟨p, q, r, hS, hne, h1.stay (k.mono fun b e => by subst e; exact hS.1), h2.stay (k.mono fun b e => by subst e; exact hS.2.1), h3.stay (k.mono fun b e => by subst e; exact hS.2.2)⟩
theorem NfaW.stay {w w' : World} {vm vf ve : Value} {D : NfaD} (h : NfaW S w vm vf ve D) (k : Ks S w w') : NfaW S w' vm vf ve D := NfW.stay h k
theorem NfaW.rd {w : World} {vm vf ve : Value} {D : NfaD} (h : NfaW S w vm vf ve D) : NfaR S w vm vf ve D := by
  obtain ⟨p, q, r, hS, hne, h1, h2, h3⟩ := h
  exact ⟨h1.fl.mono fun b e => by subst e; exact hS.1, h2.fl.mono fun b e => by subst e; exact hS.2.1, h3.fl.mono fun b e => by subst e; exact hS.2.2⟩
def smallN (D : NfaD) : Prop := D.moves.length ≤ 1048576 ∧ D.firsts.length ≤ 1048576 ∧ D.ends.length ≤ 1048576
theorem blk4s {w : World} {b : Nat} {x y z u x' y' z' u' : Value} {t : TypeId} (h : w.heap[b]? = some (.cells #[x, y, z, u] t (0, 0))) :
    ((((w.setCell ⟨b, 0, none⟩ x').setCell ⟨b, 1, none⟩ y').setCell ⟨b, 2, none⟩ z').setCell ⟨b, 3, none⟩ u').heap[b]? = some (.cells #[x', y', z', u'] t (0, 0)) := by
  rw [heap_set (heap_set (heap_set (heap_set h 0 x') 1 y') 2 z') 3 u']; rfl
theorem bel4 {B c : Nat} {a w : World} (h : Below B a w) (hc : B ≤ c) (x y z u : Value) : Below B a ((((w.setCell ⟨c, 0, none⟩ x).setCell ⟨c, 1, none⟩ y).setCell ⟨c, 2, none⟩ z).setCell ⟨c, 3, none⟩ u) :=
  (((h.setCell hc _).setCell hc _).setCell hc _).setCell hc _
theorem ksSet4 {w : World} {c : Nat} (x y z u : Value) (T : Nat → Prop) (hT : ∀ b, T b → b ≠ c) : Ks T w ((((w.setCell ⟨c, 0, none⟩ x).setCell ⟨c, 1, none⟩ y).setCell ⟨c, 2, none⟩ z).setCell ⟨c, 3, none⟩ u) := fun b hb _ => by
  have := hT b hb
  rw [Below.heap_setCell _ _ _ _ this, Below.heap_setCell _ _ _ _ this, Below.heap_setCell _ _ _ _ this, Below.heap_setCell _ _ _ _ this]
theorem ksSet1 {w : World} {c o : Nat} (x : Value) (T : Nat → Prop) (hT : ∀ b, T b → b ≠ c) : Ks T w (w.setCell ⟨c, o, none⟩ x) := fun b hb _ => by
  rw [Below.heap_setCell _ _ _ _ (hT b hb)]
/-- The numbers that marking writes. -/
def mkc (k : Int) (n : Nat) : List Value := (List.range n).map fun t : Nat => .int .i64 (k + t)
end Go.Proofs.Ytbcjhiponbfbnaa
namespace Go.Proofs.Ytbcjhiponbfbnaa
open Go.RowKit
set_option maxRecDepth 100000
variable {S T : Nat → Prop}
theorem ownCase {w : World} {base : Nat} {e : TypeId} {sz n : Nat} {v : Value} {cs : List Value} (h : w.ownsRow base e sz v n cs) {b : Nat} (hb : v.ownBlock = some b) : ∃ cur, w.heap[b]? = some (.cells cur e (0, 0)) ∧ base ≤ b := by
  rcases h.2 with ⟨rfl, _⟩ | ⟨g, cap, cur, rfl, hg, hh, _⟩
  · cases hb
  · cases hb; exact ⟨cur, hh, hg⟩
/-- A list's block is none of another type. -/
theorem ownNe {w : World} {base : Nat} {e t : TypeId} {sz n : Nat} {v : Value} {cs : List Value} {c : Array Value} {b : Nat} {fz : Nat × Nat} (h : w.ownsRow base e sz v n cs) (hb : w.heap[b]? = some (.cells c t fz)) (hne : t ≠ e) : v.ownBlock ≠ some b := fun hv => by
  obtain ⟨cur, hh, _⟩ := ownCase h hv
  rw [hb] at hh
  cases hh
  exact hne rfl
theorem ownNe2 {w : World} {base base' : Nat} {e e' : TypeId} {sz sz' n n' : Nat} {v v' : Value} {cs cs' : List Value} (h : w.ownsRow base e sz v n cs) (h' : w.ownsRow base' e' sz' v' n' cs') (hne : e ≠ e') (b : Nat) (hb : v.ownBlock = some b) : v'.ownBlock ≠ some b := by
  obtain ⟨cur, hh, _⟩ := ownCase h hb
  exact ownNe h' hh hne
theorem ownSetNe {w : World} {base b o : Nat} {e : TypeId} {sz n : Nat} {v : Value} {cs : List Value} (h : w.ownsRow base e sz v n cs) (hb : v.ownBlock ≠ some b) (u : Value) : (w.setCell ⟨b, o, none⟩ u).ownsRow base e sz v n cs :=
  h.kept (row := some b) (grownSet w b o u) (.inr hb)
theorem ownF {w : World} {base f : Nat} {e : TypeId} {sz n : Nat} {v : Value} {cs : List Value} (h : w.ownsRow base e sz v n cs) (hf : ∀ b, v.ownBlock = some b → f = b) : FlW (· = f) w v n cs := by
  rcases h.2 with ⟨rfl, rfl⟩ | ⟨g, cap, cur, rfl, _⟩
  · have hl := h.1
    obtain rfl : cs = [] := List.eq_nil_of_length_eq_zero (by simpa using hl)
    exact ⟨none, 0, rfl, ⟨by simp [maxLen], Nat.le_refl _, fun _ => rfl⟩, fun i hi => absurd hi (Nat.not_lt_zero _)⟩
  · obtain rfl := hf g rfl
    exact ownAt h
/-- The call made the three lists of the automaton. -/
def NfaO (base : Nat) (w : World) (vm vf ve : Value) (D : NfaD) : Prop :=
  Own3 w base 40 vm D.moves ∧ OwnI w base vf D.firsts ∧ OwnI w base ve D.ends ∧ ∀ b, vf.ownBlock = some b → ve.ownBlock ≠ some b
theorem NfaO.stay {w w' : World} {base : Nat} {vm vf ve : Value} {D : NfaD} (h : NfaO base w vm vf ve D) (k : Below w.heap.size w w') : NfaO base w' vm vf ve D := ⟨h.1.stay k, h.2.1.stay k, h.2.2.1.stay k, h.2.2.2⟩
theorem NfaO.base {w : World} {base base' : Nat} {vm vf ve : Value} {D : NfaD} (h : NfaO base w vm vf ve D) (k : base' ≤ base) : NfaO base' w vm vf ve D := ⟨ownBase h.1 k, ownBase h.2.1 k, ownBase h.2.2.1 k, h.2.2.2⟩
theorem NfaO.w {w : World} {base : Nat} {vm vf ve : Value} {D : NfaD} (h : NfaO base w vm vf ve D) : NfaW (base ≤ ·) w vm vf ve D := by
  obtain ⟨h1, h2, h3, h4⟩ := h
  have hty : 40 ≠ 3 := by decide
  have n12 := ownNe2 h1 h2 hty
  have n13 := ownNe2 h1 h3 hty
  have key : ∀ {e : TypeId} {sz n : Nat} {v : Value} {cs : List Value}, w.ownsRow base e sz v n cs → ∀ d : Nat, ∃ p, (∀ b, v.ownBlock = some b → p = b) ∧ base ≤ p ∧ ((v.ownBlock = some p ∧ p < w.heap.size) ∨ p = base + w.heap.size + d) := by
    intro e sz n v cs h d
    rcases hv : v.ownBlock with _ | b
    · exact ⟨base + w.heap.size + d, ⟨nofun, by omega, .inr rfl⟩⟩
    · have := World.ownsRow.lt h _ hv
      exact ⟨b, ⟨fun b' hb => by cases hb; rfl, this.1, .inl ⟨rfl, this.2⟩⟩⟩
  obtain ⟨p, p1, p2, p3⟩ := key h1 0
  obtain ⟨q, q1, q2, q3⟩ := key h2 1
  obtain ⟨r, r1, r2, r3⟩ := key h3 2
  refine ⟨p, q, r, ⟨p2, q2, r2⟩, ⟨?_, ?_, ?_⟩, ownF h1 p1, ownF h2 q1, ownF h3 r1⟩
  · rintro rfl
    rcases p3 with ⟨a, b⟩ | a <;> rcases q3 with ⟨c, d⟩ | c
    · exact n12 _ a c
    all_goals omega
  · rintro rfl
    rcases p3 with ⟨a, b⟩ | a <;> rcases r3 with ⟨c, d⟩ | c
    · exact n13 _ a c
    all_goals omega
  · rintro rfl
    rcases q3 with ⟨a, b⟩ | a <;> rcases r3 with ⟨c, d⟩ | c
    · exact h4 _ a c
    all_goals omega
def nfa0 : NfaD := ⟨0, [], [], []⟩
theorem NfaO.nil (base : Nat) (w : World) : NfaO base w (.slice none 0 0) (.slice none 0 0) (.slice none 0 0) nfa0 := ⟨Own3.nil _ _ _, ⟨rfl, .inl ⟨rfl, rfl⟩⟩, ⟨rfl, .inl ⟨rfl, rfl⟩⟩, nofun⟩
/-- The call answers an automaton with choices that it made. -/
def RNf (w : World) (D : NfaD) (e : Ending) (w' : World) : Prop := ∃ vm vf ve, e = .returned (.agg #[.int .i64 D.states, vm, vf, ve]) ∧ Below w.heap.size w w' ∧ Hid (NfaO w.heap.size w' vm vf ve D)
def RNb (w : World) (D : NfaD) (b : Bool) (e : Ending) (w' : World) : Prop := ∃ vm vf ve, e = .returned (.tuple #[.agg #[.int .i64 D.states, vm, vf, ve], .bool b]) ∧ Below w.heap.size w w' ∧ Hid (NfaO w.heap.size w' vm vf ve D)
/-- An automaton with choices under way: its header in a block, its lists. -/
structure NSt (w wr : World) (g BE : Nat) (n : Int) (vm vf ve : Value) (ms : List (Int × Int × Int)) (fs es : List Int) : Prop where
  bel : Below w.heap.size w wr
  gB : w.heap.size ≤ g
  hd : wr.heap[g]? = some (.cells #[.int .i64 n, vm, vf, ve] 36 (0, 0))
  mv : Own3 wr w.heap.size 40 vm ms
  fs : OwnI wr w.heap.size vf fs
  en : OwnI wr BE ve es
  eB : w.heap.size ≤ BE ∧ BE ≤ wr.heap.size
  ne : ∀ b, vf.ownBlock = some b → ve.ownBlock ≠ some b
theorem NSt.sz {w wr : World} {g BE : Nat} {n : Int} {vm vf ve : Value} {ms : List (Int × Int × Int)} {fs es : List Int} (h : NSt w wr g BE n vm vf ve ms fs es) : w.heap.size ≤ wr.heap.size := h.bel.size
theorem NSt.stay {w wr w' : World} {g BE : Nat} {n : Int} {vm vf ve : Value} {ms : List (Int × Int × Int)} {fs es : List Int} (h : NSt w wr g BE n vm vf ve ms fs es) (k : Below wr.heap.size wr w') : NSt w w' g BE n vm vf ve ms fs es :=
  ⟨h.bel.trans (k.mono h.sz), h.gB, blkBel k h.hd, h.mv.stay k, h.fs.stay k, h.en.stay k, ⟨h.eB.1, Nat.le_trans h.eB.2 k.size⟩, h.ne⟩
theorem NSt.o {w wr : World} {g BE : Nat} {n : Int} {vm vf ve : Value} {ms : List (Int × Int × Int)} {fs es : List Int} (h : NSt w wr g BE n vm vf ve ms fs es) : NfaO w.heap.size wr vm vf ve ⟨n, ms, fs, es⟩ :=
  ⟨h.mv, h.fs, ownBase h.en h.eB.1, h.ne⟩
theorem nfNe : 36 ≠ 40 ∧ 36 ≠ 3 ∧ 40 ≠ 3 := by decide
/-- The header behind an append to the moves. -/
theorem NSt.hdM {w wr w' : World} {g BE : Nat} {n : Int} {vm vf ve : Value} {ms : List (Int × Int × Int)} {fs es : List Int} (h : NSt w wr g BE n vm vf ve ms fs es) (hg : wr.grownBy w' vm.ownBlock) : w'.heap[g]? = some (.cells #[.int .i64 n, vm, vf, ve] 36 (0, 0)) :=
  blkGrow hg h.hd (fun e => ownNe h.mv h.hd nfNe.1 e.symm)
theorem NSt.hdE {w wr w' : World} {g BE : Nat} {n : Int} {vm vf ve : Value} {ms : List (Int × Int × Int)} {fs es : List Int} (h : NSt w wr g BE n vm vf ve ms fs es) (hg : wr.grownBy w' ve.ownBlock) : w'.heap[g]? = some (.cells #[.int .i64 n, vm, vf, ve] 36 (0, 0)) :=
  blkGrow hg h.hd (fun e => ownNe h.en h.hd nfNe.2.1 e.symm)
theorem ownOr {w : World} {base : Nat} {e e' : TypeId} {base' sz sz' n n' : Nat} {v v' : Value} {cs cs' : List Value} (h : w.ownsRow base e sz v n cs) (h' : w.ownsRow base' e' sz' v' n' cs') (hne : ∀ b, v.ownBlock = some b → v'.ownBlock ≠ some b) : v.ownBlock = none ∨ v.ownBlock ≠ v'.ownBlock := by
  rcases hv : v.ownBlock with _ | b
  · exact .inl rfl
  · exact .inr (fun e => hne b hv (e.symm))
/-- Moves appended and stored. -/
theorem NSt.addM {w wr w' : World} {g BE : Nat} {n : Int} {vm vf ve v' : Value} {ms ms' : List (Int × Int × Int)} {fs es : List Int} (h : NSt w wr g BE n vm vf ve ms fs es) (hg : wr.grownBy w' vm.ownBlock) (hv : Own3 w' w.heap.size 40 v' ms') :
    NSt w (w'.setCell ⟨g, 1, none⟩ v') g BE n v' vf ve ms' fs es := by
  have hh := h.hdM hg
  have hfs := World.ownsRow.kept h.fs hg (ownOr h.fs h.mv (ownNe2 h.fs h.mv nfNe.2.2.symm))
  have hen := World.ownsRow.kept h.en hg (ownOr h.en h.mv (ownNe2 h.en h.mv nfNe.2.2.symm))
  refine ⟨(h.bel.grown hg h.sz (fun k hk => (World.ownsRow.lt h.mv k hk).1)).setCell h.gB _, h.gB, heap_set hh 1 _, ownSetNe hv (ownNe hv hh nfNe.1) _, ownSetNe hfs (ownNe hfs hh nfNe.2.1) _, ownSetNe hen (ownNe hen hh nfNe.2.1) _, ⟨h.eB.1, ?_⟩, h.ne⟩
  have := hg.size
  have := h.eB.2
  simp [World.setCell]; omega
/-- Ends appended and stored. -/
theorem NSt.addE {w wr w' : World} {g BE : Nat} {n : Int} {vm vf ve v' : Value} {ms : List (Int × Int × Int)} {fs es es' : List Int} (h : NSt w wr g BE n vm vf ve ms fs es) (hB : ∀ b, vf.ownBlock = some b → b < BE) (hg : wr.grownBy w' ve.ownBlock) (hv : OwnI w' BE v' es') :
    NSt w (w'.setCell ⟨g, 3, none⟩ v') g BE n vm vf v' ms fs es' := by
  have hh := h.hdE hg
  have hfs := World.ownsRow.kept h.fs hg (ownOr h.fs h.en h.ne)
  have hmv := World.ownsRow.kept h.mv hg (ownOr h.mv h.en (ownNe2 h.mv h.en nfNe.2.2))
  refine ⟨(h.bel.grown hg h.sz (fun k hk => Nat.le_trans h.eB.1 (World.ownsRow.lt h.en k hk).1)).setCell h.gB _, h.gB, heap_set hh 3 _, ownSetNe hmv (ownNe hmv hh nfNe.1) _, ownSetNe hfs (ownNe hfs hh nfNe.2.1) _, ownSetNe hv (ownNe hv hh nfNe.2.1) _, ⟨h.eB.1, ?_⟩, ?_⟩
  · have := hg.size
    have := h.eB.2
    simp [World.setCell]; omega
  · intro b hb hb'
    have h1 := hB b hb
    have h2 := (World.ownsRow.lt hv b hb').1
    omega
/-- Four cells of a block of another type set. -/
theorem NfaO.set4 {w : World} {base : Nat} {vm vf ve : Value} {D : NfaD} (h : NfaO base w vm vf ve D) (c : Nat) {cs : Array Value} {t : TypeId} (_ : base ≤ c + w.heap.size) (hc : w.heap[c]? = some (.cells cs t (0, 0))) (ht : t ≠ 40 ∧ t ≠ 3) (x y z u : Value) :
    NfaO base ((((w.setCell ⟨c, 0, none⟩ x).setCell ⟨c, 1, none⟩ y).setCell ⟨c, 2, none⟩ z).setCell ⟨c, 3, none⟩ u) vm vf ve D := by
  have n1 := ownNe h.1 hc ht.1
  have n2 := ownNe h.2.1 hc ht.2
  have n3 := ownNe h.2.2.1 hc ht.2
  exact ⟨ownSetNe (ownSetNe (ownSetNe (ownSetNe h.1 n1 _) n1 _) n1 _) n1 _, ownSetNe (ownSetNe (ownSetNe (ownSetNe h.2.1 n2 _) n2 _) n2 _) n2 _, ownSetNe (ownSetNe (ownSetNe (ownSetNe h.2.2.1 n3 _) n3 _) n3 _) n3 _, h.2.2.2⟩
theorem Own3.sl {w : World} {base : Nat} {e : TypeId} {v : Value} {xs : List (Int × Int × Int)} (h : Own3 w base e v xs) : ∃ a n c, v = .slice a n c := let ⟨a, c, e, _⟩ := h.shape; ⟨a, _, c, e⟩
theorem OwnI.sl {w : World} {base : Nat} {v : Value} {xs : List Int} (h : OwnI w base v xs) : ∃ a n c, v = .slice a n c := let ⟨a, c, e, _⟩ := h.shape; ⟨a, _, c, e⟩
end Go.Proofs.Ytbcjhiponbfbnaa
namespace Go.Proofs.Ytbcjhiponbfbnaa
open Go.RowKit
set_option maxRecDepth 100000
variable {S T : Nat → Prop}
/-- The moves of a state. -/
def mvR (D : DfaD) (i n : Nat) : List (Int × Int × Int) := (List.range n).map fun c : Nat => ((i : Int), (c : Int), (dn D i c : Int))
/-- The moves of the first states. -/
def mvA (D : DfaD) (k : Nat) : List (Int × Int × Int) := (List.range k).flatMap fun i => mvR D i 3
theorem mvA_step (D : DfaD) (k : Nat) : mvA D (k + 1) = mvA D k ++ mvR D k 3 := by unfold mvA; rw [List.range_succ, List.flatMap_append]; simp
theorem mvR_step (D : DfaD) (i n : Nat) : mvR D i (n + 1) = mvR D i n ++ [((i : Int), (n : Int), (dn D i n : Int))] := by unfold mvR; rw [List.range_succ, List.map_append]; simp
theorem mvR_len (D : DfaD) (i n : Nat) : (mvR D i n).length = n := by simp [mvR]
theorem mvA_len (D : DfaD) (k : Nat) : (mvA D k).length = 3 * k := by
  induction k with
  | zero => rfl
  | succ k ih => rw [mvA_step, List.length_append, ih, mvR_len]; omega
/-- The states, of the first ones, in which words end. -/
def enA (D : DfaD) (k : Nat) : List Int := ((List.range k).filter (de D)).map fun i : Nat => (i : Int)
theorem enA_step (D : DfaD) (k : Nat) : enA D (k + 1) = if de D k then enA D k ++ [(k : Int)] else enA D k := by
  unfold enA; rw [List.range_succ, List.filter_append, List.map_append]
  by_cases h : de D k <;> simp [h]
theorem enA_len (D : DfaD) (k : Nat) : (enA D k).length ≤ k := by
  unfold enA; rw [List.length_map]; exact Nat.le_trans (List.length_filter_le _ _) (by simp)
/-- An automaton as one with choices. -/
def nfaD (D : DfaD) : NfaD := ⟨D.1.length, mvA D D.1.length, [0], enA D D.1.length⟩
open Classical in
/-- An automaton as one with choices; the zero value for others. -/
noncomputable def nfv (D : DfaD) : NfaD := if okD D then nfaD D else nfa0
theorem nfv_yes {D : DfaD} (h : okD D) : nfv D = nfaD D := by unfold nfv; rw [if_pos h]
theorem nfv_no {D : DfaD} (h : ¬ okD D) : nfv D = nfa0 := by unfold nfv; rw [if_neg h]
end Go.Proofs.Ytbcjhiponbfbnaa
namespace Go.Proofs.Ytbcjhiponbfbnaa
open Go.RowKit
set_option maxRecDepth 100000
variable {S : Nat → Prop}

def pOk (x y : Int) : Prop := (x = 3 ∧ 0 ≤ y ∧ y ≤ 2) ∨ (x ≠ 3 ∧ 1 ≤ x ∧ x ≤ 8 ∧ y = 0)
instance (x y : Int) : Decidable (pOk x y) := inferInstanceAs (Decidable (_ ∨ _))
def pNeeds (x : Int) : Nat := if x = 1 ∨ x = 2 ∨ x = 3 then 0 else if x = 7 ∨ x = 8 then 1 else 2
/-- How many expressions stand behind each other, after each part. -/
def dstep (o : Option Nat) (p : Int × Int) : Option Nat := o.bind fun d => if pOk p.1 p.2 ∧ pNeeds p.1 ≤ d then some (d - pNeeds p.1 + 1) else none
def dep (e : List (Int × Int)) : Option Nat := e.foldl dstep (some 0)
def ExprOk (e : List (Int × Int)) : Prop := dep e = some 1 ∧ e.length ≤ 60
theorem dstep_none (e : List (Int × Int)) : e.foldl dstep none = none := by induction e with | nil => rfl | cons p t ih => exact ih
theorem dep_snoc (e : List (Int × Int)) (p : Int × Int) : dep (e ++ [p]) = dstep (dep e) p := by simp [dep]
theorem dep_take_none {e : List (Int × Int)} {k : Nat} (h : dep (e.take k) = none) : dep e = none := by
  have : e = e.take k ++ e.drop k := (List.take_append_drop k e).symm
  rw [this]
  unfold dep at h ⊢
  rw [List.foldl_append, h, dstep_none]
theorem dep_le (e : List (Int × Int)) : ∀ d, dep e = some d → d ≤ e.length := by
  have key : ∀ e : List (Int × Int), ∀ o : Nat, ∀ d, e.foldl dstep (some o) = some d → d ≤ o + e.length := by
    intro e
    induction e with
    | nil => intro o d h; simp at h; omega
    | cons p t ih =>
      intro o d h
      simp only [List.foldl_cons] at h
      unfold dstep at h
      simp only [Option.bind_some] at h
      split at h
      · have := ih _ _ h
        simp only [List.length_cons]; omega
      · rw [show (fun (o : Option Nat) (p : Int × Int) => o.bind fun d => if pOk p.1 p.2 ∧ pNeeds p.1 ≤ d then some (d - pNeeds p.1 + 1) else none) = dstep from rfl, dstep_none] at h
        cases h
  intro d h
  have := key e 0 d h
  omega

theorem isLetter_c (x : Int) (w : World) : Calls Try.prog 86 #[.int .i64 x] w (RB w (0 ≤ x ∧ x ≤ 2)) := by
  go_enter Try.func86, Try.ntmps86
  go_wp2_with fail
  refine (within_c _ _ _ _).mono ?_
  rintro e w' ⟨b, rfl, rfl, hb⟩
  go_wp2
  go_ret
  exact ⟨b, rfl, rfl, hb⟩
theorem PartValid_c (x y : Int) (w : World) : Calls Try.prog 96 #[.agg #[.int .i64 x, .int .i64 y]] w (RBn w (pOk x y)) := by
  have hB : Below w.heap.size w (w.alloc (.cells #[.int .i64 x, .int .i64 y] 67)) := (Below.refl _ _).alloc (Nat.le_refl _) _
  by_cases h3 : x = 3
  · have e3 : (x == 3) = true := by simp [h3]
    have H3 := Lib.hid h3; clear h3
    go_enter Try.func96, Try.ntmps96
    go_wp2_with fail
    refine (isLetter_c _ _).mono ?_
    rintro e w' ⟨b, rfl, rfl, hb⟩
    go_wp2
    go_ret
    exact ⟨b, rfl, hB, hb.out.trans ⟨fun h => .inl ⟨H3.out, h⟩, fun h => by rcases h with h | h; exact h.2; exact absurd H3.out h.1⟩⟩
  · have e3 : (x == 3) = false := by simpa using h3
    have H3 := Lib.hid h3; clear h3
    go_enter Try.func96, Try.ntmps96
    go_wp2_with fail
    refine (within_c _ _ _ _).mono ?_
    rintro e w' ⟨b, rfl, rfl, hb⟩
    cases b
    · have hp := Lib.hid (hbF hb); clear hb
      go_wp2
      go_ret
      exact RBn.mk hB ⟨nofun, fun h => by rcases h with h | h; exact absurd h.1 H3.out; exact absurd ⟨h.2.1, h.2.2.1⟩ hp.out⟩
    · have hp := Lib.hid (hbT hb); clear hb
      go_wp2
      go_ret
      exact RBn.mk hB ⟨fun h => .inr ⟨H3.out, hp.out.1, hp.out.2, by simpa using h⟩, fun h => by rcases h with h | h; exact absurd h.1 H3.out; simpa using h.2.2.2⟩
theorem needs_c (x y : Int) (w : World) : Calls Try.prog 97 #[.agg #[.int .i64 x, .int .i64 y]] w (RIn w fun n => n = pNeeds x ∧ 0 ≤ n ∧ n ≤ 2) := by
  have hB : Below w.heap.size w (w.alloc (.cells #[.int .i64 x, .int .i64 y] 67)) := (Below.refl _ _).alloc (Nat.le_refl _) _
  rcases (by omega : x = 1 ∨ x = 2 ∨ x = 3 ∨ x = 7 ∨ x = 8 ∨ (x ≠ 1 ∧ x ≠ 2 ∧ x ≠ 3 ∧ x ≠ 7 ∧ x ≠ 8)) with rfl | rfl | rfl | rfl | rfl | ⟨h1, h2, h3, h7, h8⟩
  case inr.inr.inr.inr.inr =>
    have e1 : (x == 1) = false := by simpa using h1
    have e2 : (x == 2) = false := by simpa using h2
    have e3 : (x == 3) = false := by simpa using h3
    have e7 : (x == 7) = false := by simpa using h7
    have e8 : (x == 8) = false := by simpa using h8
    have H := Lib.hid (show (2 : Int) = pNeeds x by simp [pNeeds, h1, h2, h3, h7, h8])
    clear h1 h2 h3 h7 h8
    go_enter Try.func97, Try.ntmps97
    go_wp2
    go_ret
    exact RIn.mk hB ⟨H.out, by omega, by omega⟩
  all_goals
    go_enter Try.func97, Try.ntmps97
    go_wp2
    go_ret
    exact RIn.mk hB ⟨by decide, by omega, by omega⟩
theorem sPartValid_c (x y : Int) (w : World) : Calls Try.prog 123 #[.agg #[.int .i64 x, .int .i64 y]] w (RBn w (pOk x y)) := by
  have hB : Below w.heap.size w (w.alloc (.cells #[.int .i64 x, .int .i64 y] 67)) := (Below.refl _ _).alloc (Nat.le_refl _) _
  by_cases h3 : x = 3
  · have e3 : (x == 3) = true := by simp [h3]
    have n3 : (x != 3) = false := by simp [h3]
    have h18 : 1 ≤ x ∧ x ≤ 8 := by omega
    have H18 := Lib.hid h18; clear h18
    have H3 := Lib.hid h3; clear h3
    go_enter Try.func123, Try.ntmps123
    go_wp2_with fail
    refine (l1In_c _ _ _ _).mono ?_
    rintro e w' ⟨b, rfl, rfl, hb⟩
    cases b
    · exact (hbF hb H18.out).elim
    clear hb
    go_wp2_with fail
    refine (l1In_c _ _ _ _).mono ?_
    rintro e w' ⟨b, rfl, rfl, hb⟩
    cases b
    · have hp := Lib.hid (hbF hb); clear hb
      go_wp2
      go_ret
      exact RBn.mk hB ⟨nofun, fun h => by rcases h with h | h; exact absurd h.2 hp.out; exact absurd H3.out h.1⟩
    · have hp := Lib.hid (hbT hb); clear hb
      go_wp2
      go_ret
      exact RBn.mk hB ⟨fun _ => .inl ⟨H3.out, hp.out⟩, fun _ => rfl⟩
  · have e3 : (x == 3) = false := by simpa using h3
    have n3 : (x != 3) = true := by simpa using h3
    have H3 := Lib.hid h3; clear h3
    go_enter Try.func123, Try.ntmps123
    go_wp2_with fail
    refine (l1In_c _ _ _ _).mono ?_
    rintro e w' ⟨b, rfl, rfl, hb⟩
    cases b
    · have hp := Lib.hid (hbF hb); clear hb
      go_wp2
      go_ret
      exact RBn.mk hB ⟨nofun, fun h => by rcases h with h | h; exact absurd h.1 H3.out; exact absurd ⟨h.2.1, h.2.2.1⟩ hp.out⟩
    · have hp := Lib.hid (hbT hb); clear hb
      go_wp2
      go_ret
      exact RBn.mk hB ⟨fun h => .inr ⟨H3.out, hp.out.1, hp.out.2, by simpa using h⟩, fun h => by rcases h with h | h; exact absurd h.1 H3.out; simpa using h.2.2.2⟩
theorem sPartNeeds_c (x y : Int) (w : World) : Calls Try.prog 88 #[.agg #[.int .i64 x, .int .i64 y]] w (RIn w fun n => (pOk x y ∧ n = pNeeds x ∧ 0 ≤ n ∧ n ≤ 2) ∨ (¬ pOk x y ∧ n = -1)) := by
  have hB : Below w.heap.size w (w.alloc (.cells #[.int .i64 x, .int .i64 y] 67)) := (Below.refl _ _).alloc (Nat.le_refl _) _
  rcases (by omega : x = 1 ∨ x = 2 ∨ x = 3 ∨ x = 7 ∨ x = 8 ∨ (x ≠ 1 ∧ x ≠ 2 ∧ x ≠ 3 ∧ x ≠ 7 ∧ x ≠ 8)) with rfl | rfl | rfl | rfl | rfl | ⟨h1, h2, h3, h7, h8⟩
  case inr.inr.inr.inr.inr =>
    have e1 : (x == 1) = false := by simpa using h1
    have e2 : (x == 2) = false := by simpa using h2
    have e3 : (x == 3) = false := by simpa using h3
    have e7 : (x == 7) = false := by simpa using h7
    have e8 : (x == 8) = false := by simpa using h8
    have H := Lib.hid (show (2 : Int) = pNeeds x by simp [pNeeds, h1, h2, h3, h7, h8])
    clear h1 h2 h3 h7 h8
    go_enter Try.func88, Try.ntmps88
    go_wp2_with fail
    refine (sPartValid_c _ _ _).mono ?_
    rintro e w1 ⟨b, rfl, hb1, hp⟩
    have k0 := blkBel hb1 (blkNew w (.cells #[.int .i64 x, .int .i64 y] 67) rfl)
    obtain ⟨c0, c1, _, _⟩ := blk2 k0
    have hB1 := hB.trans (hb1.mono hB.size)
    cases b
    · have hq := Lib.hid (hbF hp); clear hp
      go_wp2
      go_ret
      exact RIn.mk hB1 (.inr ⟨hq.out, rfl⟩)
    · have hq := Lib.hid (hbT hp); clear hp
      go_wp2
      go_ret
      exact RIn.mk hB1 (.inl ⟨hq.out, H.out, by omega, by omega⟩)
  all_goals
    go_enter Try.func88, Try.ntmps88
    go_wp2_with fail
    refine (sPartValid_c _ _ _).mono ?_
    rintro e w1 ⟨b, rfl, hb1, hp⟩
    have k0 := blkBel hb1 (blkNew w (.cells #[.int .i64 _, .int .i64 y] 67) rfl)
    obtain ⟨c0, c1, _, _⟩ := blk2 k0
    have hB1 := hB.trans (hb1.mono hB.size)
    clear k0
    cases b
    · have hq := Lib.hid (hbF hp); clear hp
      go_wp2
      go_ret
      exact RIn.mk hB1 (.inr ⟨hq.out, rfl⟩)
    · have hq := Lib.hid (hbT hp); clear hp
      go_wp2
      go_ret
      exact RIn.mk hB1 (.inl ⟨hq.out, by decide, by omega, by omega⟩)
end Go.Proofs.Ytbcjhiponbfbnaa
namespace Go.Proofs.Ytbcjhiponbfbnaa
open Go.RowKit
set_option maxRecDepth 100000
variable {S : Nat → Prop}

theorem take_dep (e : List (Int × Int)) (k : Nat) (h : k < e.length) : dep (e.take (k + 1)) = dstep (dep (e.take k)) e[k] := by
  rw [List.take_succ_eq_append_getElem h, dep_snoc]
theorem dstep_yes {d : Nat} {p : Int × Int} (h : pOk p.1 p.2) (k : pNeeds p.1 ≤ d) : dstep (some d) p = some (d - pNeeds p.1 + 1) := by simp [dstep, h, k]
theorem dstep_no {d : Nat} {p : Int × Int} (h : ¬ (pOk p.1 p.2 ∧ pNeeds p.1 ≤ d)) : dstep (some d) p = none := by simp only [dstep, Option.bind_some, if_neg h]
theorem not_of_take {e : List (Int × Int)} {k : Nat} (h : dep (e.take k) = none) : ¬ ExprOk e := fun h' => by have := h'.1; rw [dep_take_none h] at this; cases this

set_option maxHeartbeats 800000 in
theorem sExprValid_c (v : Value) (e : List (Int × Int)) (w : World) (h : Pairs S w v e) (hn : e.length ≤ 1048576) :
    Calls Try.prog 45 #[v] w (RBn w (ExprOk e)) := by
  obtain ⟨a, cap, rfl, _⟩ := h.shape
  have H := Lib.hid h; clear h
  go_enter Try.func45, Try.ntmps45
  go_wp2_with fail
  go_loopw [3, 4] (fun d i wr => ∃ k n : Nat, k ≤ e.length ∧ i = .int .i64 k ∧ d = .int .i64 n ∧ n ≤ k ∧ Below w.heap.size w wr ∧ Hid (dep (e.take k) = some n)) (fun _ i _ => e.length - (intOf i).toNat)
  case atStart => exact ⟨0, 0, by omega, rfl, rfl, by omega, Below.refl _ _, rfl⟩
  case round =>
    obtain ⟨k, n, hk, rfl, rfl, hnk, hb, hd⟩ := hrel
    by_cases hlt : k < e.length
    · obtain ⟨b, off, rfl, c0, c1⟩ := (H.out.stay (kpB hb)).at hlt
      have ht := Lib.hid (take_dep e k hlt)
      go_wp2_with fail
      refine (sPartNeeds_c e[k].1 e[k].2 wr).mono ?_
      rintro x w1 ⟨m, rfl, hb1, hm⟩
      rcases hm.out with ⟨hok, hm, hm0, hm2⟩ | ⟨hok, hm⟩
      · have Hok := Lib.hid hok
        by_cases hle : m ≤ (n : Int)
        · have hst := Lib.hid (dstep_yes hok (d := n) (by omega))
          have hm' : ((n - pNeeds e[k].1 + 1 : Nat) : Int) = n - m + 1 := by omega
          have Hm := Lib.hid hm'; clear hm' hm hok
          go_wp2
          go_roundw
          case rel => exact ⟨k + 1, _, by omega, by go_num, by rw [Hm.out], by have := Hm.out; omega, hb.trans (hb1.mono hb.size), Lib.hid (by rw [ht.out, hd.out, hst.out])⟩
          case measure => simp [intOf]; omega
        · have hst := Lib.hid (dstep_no (d := n) (p := e[k]) (fun h => by have := h.2; omega))
          clear hm hok
          go_wp2
          go_ret
          exact RBn.mk (hb.trans (hb1.mono hb.size)) ⟨nofun, fun h => (not_of_take (by rw [ht.out, hd.out, hst.out]) h).elim⟩
      · subst hm
        have hst := Lib.hid (dstep_no (d := n) (p := e[k]) (fun h => hok h.1))
        clear hok
        go_wp2
        go_ret
        exact RBn.mk (hb.trans (hb1.mono hb.size)) ⟨nofun, fun h => (not_of_take (by rw [ht.out, hd.out, hst.out]) h).elim⟩
    · obtain rfl : k = e.length := by omega
      rw [List.take_length] at hd
      have hE : ExprOk e ↔ (n = 1 ∧ e.length ≤ 60) := by unfold ExprOk; rw [hd.out]; simp
      have HE := Lib.hid hE; clear hE
      by_cases h1 : n = 1
      · subst h1
        go_wp2
        go_ret
        exact RBn.mk hb (by rw [HE.out]; simp <;> omega)
      · have e1 : ((n : Int) == 1) = false := by simp; omega
        go_wp2
        go_ret
        exact RBn.mk hb ⟨nofun, fun h => (h1 (HE.out.1 h).1).elim⟩
end Go.Proofs.Ytbcjhiponbfbnaa
namespace Go.Proofs.Ytbcjhiponbfbnaa
open Go.RowKit
set_option maxRecDepth 100000

inductive Re where
  | none | empty | letter (c : Int) | join (a b : Re) | either (a b : Re) | both (a b : Re) | not (a : Re) | star (a : Re)
  deriving DecidableEq
namespace Re
def flat : Re → List (Int × Int)
  | .none => [(1, 0)]
  | .empty => [(2, 0)]
  | .letter c => [(3, c)]
  | .join a b => a.flat ++ b.flat ++ [(4, 0)]
  | .either a b => a.flat ++ b.flat ++ [(5, 0)]
  | .both a b => a.flat ++ b.flat ++ [(6, 0)]
  | .not a => a.flat ++ [(7, 0)]
  | .star a => a.flat ++ [(8, 0)]
def wf : Re → Prop
  | .none => True
  | .empty => True
  | .letter c => 0 ≤ c ∧ c ≤ 2
  | .join a b => a.wf ∧ b.wf
  | .either a b => a.wf ∧ b.wf
  | .both a b => a.wf ∧ b.wf
  | .not a => a.wf
  | .star a => a.wf
theorem flat_pos (t : Re) : 0 < t.flat.length := by cases t <;> simp [flat] <;> omega
theorem flat_ne (t : Re) : t.flat ≠ [] := by intro h; have := t.flat_pos; rw [h] at this; simp at this
def mk0 (x y : Int) : Re := if x = 1 then .none else if x = 2 then .empty else .letter y
def mk1 (x : Int) (a : Re) : Re := if x = 7 then .not a else .star a
def mk2 (x : Int) (a b : Re) : Re := if x = 4 then .join a b else if x = 5 then .either a b else .both a b
end Re
open Re
/-- One part more: the trees behind each other, the last one first. -/
def push (o : Option (List Re)) (p : Int × Int) : Option (List Re) := o.bind fun s =>
  if pOk p.1 p.2 then
    (if pNeeds p.1 = 0 then some (mk0 p.1 p.2 :: s) else if pNeeds p.1 = 1 then (match s with | a :: s => some (mk1 p.1 a :: s) | [] => none)
      else match s with | b :: a :: s => some (mk2 p.1 a b :: s) | _ => none)
  else none
def parse (e : List (Int × Int)) : Option (List Re) := e.foldl push (some [])
def flats : List Re → List (Int × Int)
  | [] => []
  | t :: s => flats s ++ t.flat
theorem parse_snoc (e : List (Int × Int)) (p : Int × Int) : parse (e ++ [p]) = push (parse e) p := by simp [parse]
theorem take_parse (e : List (Int × Int)) (k : Nat) (h : k < e.length) : parse (e.take (k + 1)) = push (parse (e.take k)) e[k] := by
  rw [List.take_succ_eq_append_getElem h, parse_snoc]
theorem pNeeds_cases (x y : Int) (h : pOk x y) : (x = 1 ∧ y = 0) ∨ (x = 2 ∧ y = 0) ∨ (x = 3 ∧ 0 ≤ y ∧ y ≤ 2) ∨ (x = 4 ∧ y = 0) ∨ (x = 5 ∧ y = 0) ∨ (x = 6 ∧ y = 0) ∨ (x = 7 ∧ y = 0) ∨ (x = 8 ∧ y = 0) := by
  unfold pOk at h
  rcases h with ⟨rfl, h⟩ | ⟨h3, h1, h8, rfl⟩
  · exact .inr (.inr (.inl ⟨rfl, h⟩))
  · omega
/-- What push makes, case by case. -/
theorem push_some {s s' : List Re} {p : Int × Int} (h : push (some s) p = some s') : pOk p.1 p.2 ∧
    ((pNeeds p.1 = 0 ∧ s' = mk0 p.1 p.2 :: s ∧ (mk0 p.1 p.2).flat = [p]) ∨ (pNeeds p.1 = 1 ∧ ∃ a r, s = a :: r ∧ s' = mk1 p.1 a :: r ∧ (mk1 p.1 a).flat = a.flat ++ [p]) ∨
     (pNeeds p.1 = 2 ∧ ∃ a b r, s = b :: a :: r ∧ s' = mk2 p.1 a b :: r ∧ (mk2 p.1 a b).flat = a.flat ++ b.flat ++ [p])) := by
  obtain ⟨x, y⟩ := p
  by_cases hok : pOk x y
  · refine ⟨hok, ?_⟩
    simp only [push, Option.bind_some, if_pos hok] at h
    rcases pNeeds_cases x y hok with ⟨rfl, h'⟩ | ⟨rfl, h'⟩ | ⟨rfl, h'⟩ | ⟨rfl, h'⟩ | ⟨rfl, h'⟩ | ⟨rfl, h'⟩ | ⟨rfl, h'⟩ | ⟨rfl, h'⟩
    any_goals subst h'
    all_goals simp only [pNeeds] at h ⊢
    · left; simp at h; subst h; exact ⟨by simp, rfl, by simp [mk0, flat]⟩
    · left; simp at h; subst h; exact ⟨by simp, rfl, by simp [mk0, flat]⟩
    · left; simp at h; subst h; exact ⟨by simp, rfl, by simp [mk0, flat]⟩
    · right; right; refine ⟨by decide, ?_⟩; rcases s with _ | ⟨b, _ | ⟨a, r⟩⟩ <;> simp at h; subst h; exact ⟨a, b, r, rfl, rfl, by simp [mk2, flat]⟩
    · right; right; refine ⟨by decide, ?_⟩; rcases s with _ | ⟨b, _ | ⟨a, r⟩⟩ <;> simp at h; subst h; exact ⟨a, b, r, rfl, rfl, by simp [mk2, flat]⟩
    · right; right; refine ⟨by decide, ?_⟩; rcases s with _ | ⟨b, _ | ⟨a, r⟩⟩ <;> simp at h; subst h; exact ⟨a, b, r, rfl, rfl, by simp [mk2, flat]⟩
    · right; left; refine ⟨by decide, ?_⟩; rcases s with _ | ⟨a, r⟩ <;> simp at h; subst h; exact ⟨a, r, rfl, rfl, by simp [mk1, flat]⟩
    · right; left; refine ⟨by decide, ?_⟩; rcases s with _ | ⟨a, r⟩ <;> simp at h; subst h; exact ⟨a, r, rfl, rfl, by simp [mk1, flat]⟩
  · simp [push, hok] at h
theorem push_len (s : List Re) (p : Int × Int) : (push (some s) p).map List.length = dstep (some s.length) p := by
  cases h : push (some s) p with
  | some s' =>
    obtain ⟨hok, h | h | h⟩ := push_some h
    · obtain ⟨h0, rfl, _⟩ := h
      rw [dstep_yes hok (by omega), h0]; simp
    · obtain ⟨h0, a, r, rfl, rfl, _⟩ := h
      rw [dstep_yes hok (by simp; omega), h0]; simp
    · obtain ⟨h0, a, b, r, rfl, rfl, _⟩ := h
      rw [dstep_yes hok (by simp; omega), h0]; simp
  | none =>
    rw [dstep_no]; rfl
    rintro ⟨hok, hle⟩
    simp only [push, Option.bind_some, if_pos hok] at h
    split at h
    · cases h
    · split at h
      · rename_i h1; rw [h1] at hle; split at h
        · cases h
        · simp at hle
      · rename_i h0 h1
        have : pNeeds p.1 = 2 := by unfold pNeeds at h0 h1 ⊢; split <;> simp_all
        rw [this] at hle; split at h
        · cases h
        · rename_i h2
          rcases s with _ | ⟨b, _ | ⟨a, r⟩⟩
          · simp at hle
          · simp at hle
          · exact h2 _ _ _ rfl
theorem dep_parse (e : List (Int × Int)) : dep e = (parse e).map List.length := by
  have key : ∀ (e : List (Int × Int)) (o : Option (List Re)), (e.foldl push o).map List.length = e.foldl dstep (o.map List.length) := by
    intro e
    induction e with
    | nil => intro o; rfl
    | cons p t ih =>
      intro o
      simp only [List.foldl_cons]
      rw [ih]
      congr 1
      cases o with
      | none => rfl
      | some s => exact push_len s p
  exact (key e (some [])).symm
theorem revInd {α : Type} {P : List α → Prop} (h0 : P []) (h1 : ∀ l a, P l → P (l ++ [a])) (l : List α) : P l := by
  have : ∀ l : List α, P l.reverse := by
    intro l
    induction l with
    | nil => exact h0
    | cons a t ih => rw [List.reverse_cons]; exact h1 _ _ ih
  have h := this l.reverse
  rwa [List.reverse_reverse] at h
theorem parse_flats {e : List (Int × Int)} : ∀ {s : List Re}, parse e = some s → flats s = e := by
  refine revInd (P := fun e => ∀ {s : List Re}, parse e = some s → flats s = e) ?_ ?_ e
  · intro s h; simp [parse] at h; subst h; rfl
  · intro e p ih s' h
    rw [parse_snoc] at h
    cases hs : parse e with
    | none => rw [hs] at h; simp [push] at h
    | some s =>
      rw [hs] at h
      have := ih hs
      obtain ⟨_, h | h | h⟩ := push_some h
      · obtain ⟨_, rfl, hf⟩ := h
        simp [flats, hf, this]
      · obtain ⟨_, a, r, rfl, rfl, hf⟩ := h
        simp only [flats] at this ⊢
        rw [hf, ← this]; simp
      · obtain ⟨_, a, b, r, rfl, rfl, hf⟩ := h
        simp only [flats] at this ⊢
        rw [hf, ← this]; simp
theorem push_flat (t : Re) : t.wf → ∀ s, t.flat.foldl push (some s) = some (t :: s) := by
  induction t with
  | none => intro _ s; simp [flat, push, pOk, pNeeds, mk0]
  | empty => intro _ s; simp [flat, push, pOk, pNeeds, mk0]
  | letter c => intro h s; simp [wf] at h; simp [flat, push, pOk, pNeeds, mk0, h.1, h.2]
  | join a b ha hb => intro h s; simp only [flat, List.foldl_append, ha h.1, hb h.2]; simp [push, pOk, pNeeds, mk2]
  | either a b ha hb => intro h s; simp only [flat, List.foldl_append, ha h.1, hb h.2]; simp [push, pOk, pNeeds, mk2]
  | both a b ha hb => intro h s; simp only [flat, List.foldl_append, ha h.1, hb h.2]; simp [push, pOk, pNeeds, mk2]
  | not a ha => intro h s; simp only [flat, List.foldl_append, ha h]; simp [push, pOk, pNeeds, mk1]
  | star a ha => intro h s; simp only [flat, List.foldl_append, ha h]; simp [push, pOk, pNeeds, mk1]
theorem push_wf {s s' : List Re} {p : Int × Int} (h : push (some s) p = some s') (hw : ∀ t ∈ s, t.wf) : ∀ t ∈ s', t.wf := by
  obtain ⟨x, y⟩ := p
  obtain ⟨hok, h | h | h⟩ := push_some h
  · obtain ⟨h0, rfl, _⟩ := h
    rcases pNeeds_cases x y hok with ⟨rfl, h'⟩ | ⟨rfl, h'⟩ | ⟨rfl, h'⟩ | ⟨rfl, h'⟩ | ⟨rfl, h'⟩ | ⟨rfl, h'⟩ | ⟨rfl, h'⟩ | ⟨rfl, h'⟩ <;> simp_all [mk0, wf, pNeeds]
  · obtain ⟨h0, a, r, rfl, rfl, _⟩ := h
    rcases pNeeds_cases x y hok with ⟨rfl, h'⟩ | ⟨rfl, h'⟩ | ⟨rfl, h'⟩ | ⟨rfl, h'⟩ | ⟨rfl, h'⟩ | ⟨rfl, h'⟩ | ⟨rfl, h'⟩ | ⟨rfl, h'⟩ <;> simp_all [mk1, wf, pNeeds]
  · obtain ⟨h0, a, b, r, rfl, rfl, _⟩ := h
    rcases pNeeds_cases x y hok with ⟨rfl, h'⟩ | ⟨rfl, h'⟩ | ⟨rfl, h'⟩ | ⟨rfl, h'⟩ | ⟨rfl, h'⟩ | ⟨rfl, h'⟩ | ⟨rfl, h'⟩ | ⟨rfl, h'⟩ <;> simp_all [mk2, wf, pNeeds]
theorem parse_wf {e : List (Int × Int)} : ∀ {s : List Re}, parse e = some s → ∀ t ∈ s, t.wf := by
  refine revInd (P := fun e => ∀ {s : List Re}, parse e = some s → ∀ t ∈ s, t.wf) ?_ ?_ e
  · intro s h; simp [parse] at h; subst h; simp
  · intro e p ih s' h
    rw [parse_snoc] at h
    cases hs : parse e with
    | none => rw [hs] at h; simp [push] at h
    | some s => rw [hs] at h; exact push_wf h (ih hs)
/-- Valid expressions are the texts of trees. -/
theorem exprOk_iff (e : List (Int × Int)) : ExprOk e ↔ ∃ t : Re, t.wf ∧ t.flat = e ∧ e.length ≤ 60 := by
  constructor
  · rintro ⟨h, hl⟩
    rw [dep_parse] at h
    cases hs : parse e with
    | none => rw [hs] at h; cases h
    | some s =>
      rw [hs] at h
      simp at h
      obtain ⟨t, rfl⟩ := List.length_eq_one_iff.1 h
      exact ⟨t, parse_wf hs t (by simp), by simpa [flats] using parse_flats hs, hl⟩
  · rintro ⟨t, hw, rfl, hl⟩
    refine ⟨?_, hl⟩
    rw [dep_parse]
    show ((t.flat.foldl push (some [])).map List.length) = some 1
    rw [push_flat t hw]; rfl
theorem parse_flat {t : Re} (h : t.wf) : parse t.flat = some [t] := push_flat t h []
theorem flat_inj {t u : Re} (ht : t.wf) (hu : u.wf) (h : t.flat = u.flat) : t = u := by
  have := parse_flat ht
  rw [h, parse_flat hu] at this
  simpa using this.symm
end Go.Proofs.Ytbcjhiponbfbnaa
namespace Go.Proofs.Ytbcjhiponbfbnaa
open Go.RowKit
set_option maxRecDepth 100000
variable {S T : Nat → Prop}
/-- Operands wanted less operands given. -/
def sm : List (Int × Int) → Int
  | [] => 0
  | p :: l => (pNeeds p.1 : Int) - 1 + sm l
theorem sm_app (a b : List (Int × Int)) : sm (a ++ b) = sm a + sm b := by
  induction a with
  | nil => simp [sm]
  | cons p l ih => simp only [List.cons_append, sm, ih]; omega
theorem drop_app (a b : List (Int × Int)) (j : Nat) : (j ≤ a.length ∧ (a ++ b).drop j = a.drop j ++ b) ∨ (a.length < j ∧ (a ++ b).drop j = b.drop (j - a.length)) := by
  rcases Nat.lt_or_ge a.length j with h | h
  · exact .inr ⟨h, by rw [List.drop_append, List.drop_eq_nil_of_le (by omega)]; rfl⟩
  · exact .inl ⟨h, by rw [List.drop_append, Nat.sub_eq_zero_of_le h]; rfl⟩
/-- A whole expression lacks one; every shorter tail lacks none. -/
def tails (e : List (Int × Int)) : Prop := sm e = -1 ∧ ∀ j, 0 < j → 0 ≤ sm (e.drop j)
theorem tails1 {p : Int × Int} (h : pNeeds p.1 = 0) : tails [p] := by
  refine ⟨by simp [sm, h], fun j hj => ?_⟩
  rw [List.drop_eq_nil_of_le (by simp; omega)]
  exact Int.le_refl _
theorem tails2 {a : List (Int × Int)} {p : Int × Int} (ha : tails a) (h : pNeeds p.1 = 1) : tails (a ++ [p]) := by
  refine ⟨by rw [sm_app, ha.1]; simp [sm, h], fun j hj => ?_⟩
  rcases drop_app a [p] j with ⟨h1, e⟩ | ⟨h1, e⟩ <;> rw [e]
  · rw [sm_app]; have := ha.2 j hj; simp [sm, h]; omega
  · rw [List.drop_eq_nil_of_le (by simp; omega)]; exact Int.le_refl _
theorem tails3 {a b : List (Int × Int)} {p : Int × Int} (ha : tails a) (hb : tails b) (h : pNeeds p.1 = 2) : tails (a ++ b ++ [p]) := by
  refine ⟨by rw [sm_app, sm_app, ha.1, hb.1]; simp [sm, h], fun j hj => ?_⟩
  have h2 : sm [p] = 1 := by simp [sm, h]
  rcases drop_app (a ++ b) [p] j with ⟨h1, e⟩ | ⟨h1, e⟩ <;> rw [e]
  · rw [sm_app, h2]
    rcases drop_app a b j with ⟨h3, e⟩ | ⟨h3, e⟩ <;> rw [e]
    · rw [sm_app, hb.1]; have := ha.2 j hj; omega
    · have := hb.2 (j - a.length) (by omega); omega
  · rw [List.drop_eq_nil_of_le (by simp at h1 ⊢; omega)]; exact Int.le_refl _
theorem Re.tails (t : Re) : tails t.flat := by
  induction t with
  | none => exact tails1 (by simp [pNeeds])
  | empty => exact tails1 (by simp [pNeeds])
  | letter c => exact tails1 (by simp [pNeeds])
  | join a b ha hb => exact tails3 ha hb (by simp [pNeeds])
  | either a b ha hb => exact tails3 ha hb (by simp [pNeeds])
  | both a b ha hb => exact tails3 ha hb (by simp [pNeeds])
  | not a ha => exact tails2 ha (by simp [pNeeds])
  | star a ha => exact tails2 ha (by simp [pNeeds])
theorem Re.parts {t : Re} (h : t.wf) : ∀ p ∈ t.flat, pOk p.1 p.2 := by
  induction t with
  | none => intro p hp; simp [flat] at hp; subst hp; simp [pOk]
  | empty => intro p hp; simp [flat] at hp; subst hp; simp [pOk]
  | letter c => intro p hp; simp [flat] at hp; subst hp; simp [wf] at h; simp [pOk, h]
  | join a b ha hb =>
    intro p hp; simp [flat] at hp
    rcases hp with hp | hp | hp
    · exact ha h.1 p hp
    · exact hb h.2 p hp
    · subst hp; simp [pOk]
  | either a b ha hb =>
    intro p hp; simp [flat] at hp
    rcases hp with hp | hp | hp
    · exact ha h.1 p hp
    · exact hb h.2 p hp
    · subst hp; simp [pOk]
  | both a b ha hb =>
    intro p hp; simp [flat] at hp
    rcases hp with hp | hp | hp
    · exact ha h.1 p hp
    · exact hb h.2 p hp
    · subst hp; simp [pOk]
  | not a ha =>
    intro p hp; simp [flat] at hp
    rcases hp with hp | hp
    · exact ha h p hp
    · subst hp; simp [pOk]
  | star a ha =>
    intro p hp; simp [flat] at hp
    rcases hp with hp | hp
    · exact ha h p hp
    · subst hp; simp [pOk]
set_option maxHeartbeats 800000 in
theorem l2Start_c (v : Value) (pre rest : List (Int × Int)) (b : Re) (hb : b.wf) (n : Int) (w : World) (h : Pairs S w v (pre ++ b.flat ++ rest)) (hn : n = (pre.length + b.flat.length : Nat) - 1) (hl : (pre ++ b.flat ++ rest).length ≤ 1000) :
    Calls Try.prog 150 #[v, .int .i64 n] w (RIn w fun m => m = pre.length) := by
  obtain ⟨a, cap, rfl, _⟩ := h.shape
  have H := Lib.hid h; clear h
  have hpos := b.flat_pos
  have ht := Re.tails b
  have hp := Re.parts hb
  generalize b.flat = f at *
  have HT := Lib.hid ht; have HP := Lib.hid hp
  clear ht hp hb
  have hlen : pre.length + f.length ≤ 1000 := by simp at hl; omega
  obtain ⟨L, hL⟩ : ∃ L, L = (pre ++ f ++ rest).length := ⟨_, rfl⟩
  have hLe : pre.length + f.length ≤ L := by rw [hL]; simp
  rw [← hL]
  have HL := Lib.hid hL; clear hL hl
  rw [← HL.out] at H
  obtain ⟨N, hN⟩ : ∃ N : Nat, n = N ∧ N + 1 = pre.length + f.length := ⟨pre.length + f.length - 1, by omega, by omega⟩
  obtain ⟨rfl, hN⟩ := hN
  clear hn
  go_enter Try.func150, Try.ntmps150
  go_wp2
  go_loopw [5, 6] (fun x i wr => ∃ (j : Nat) (m : Int), 0 < j ∧ j ≤ f.length ∧ x = .int .i64 m ∧ i = .int .i64 ((pre.length + j - 1 : Nat) : Int) ∧ Hid (m = 1 + sm (f.drop j)) ∧ 1 ≤ m ∧ m ≤ 1 + 2 * (f.length - j : Nat) ∧ Below w.heap.size w wr) (fun _ i _ => (intOf i).toNat)
  case atStart => exact ⟨f.length, 1, hpos, Nat.le_refl _, rfl, by congr 2; omega, by rw [List.drop_length]; rfl, by omega, by omega, Below.refl _ _⟩
  case round =>
    obtain ⟨j, m, hj0, hj, rfl, rfl, hm, hm1, hm2, hb⟩ := hrel
    obtain ⟨q, hq⟩ : ∃ q : Nat, pre.length + j - 1 = q := ⟨_, rfl⟩
    rw [hq]
    have hqL : q < (pre ++ f ++ rest).length := by rw [← HL.out]; omega
    have hqL2 : q < L := by omega
    obtain ⟨bb, off, e1, c0, c1⟩ := (H.out.stay (kpB hb)).at hqL
    subst e1
    have hel : (pre ++ f ++ rest)[q] = f[j - 1]'(by omega) := by
      rw [List.getElem_append_left (by simp; omega), List.getElem_append_right (by omega)]
      congr 1; omega
    rw [hel] at c0 c1
    have hok := HP.out _ (List.getElem_mem (show j - 1 < f.length by omega))
    have hdr : f.drop (j - 1) = f[j - 1]'(by omega) :: f.drop j := by
      rw [List.drop_eq_getElem_cons (by omega)]; congr 2; omega
    have hsm : sm (f.drop (j - 1)) = (pNeeds (f[j - 1]'(by omega)).1 : Int) - 1 + sm (f.drop j) := by rw [hdr, sm]
    generalize f[j - 1]'(by omega) = p at *
    have Hok := Lib.hid hok
    have Hsm := Lib.hid hsm
    clear hel hdr hok hsm hqL
    go_wp2_with fail
    refine (sPartNeeds_c p.1 p.2 wr).mono ?_
    rintro e w1 ⟨k, rfl, hb1, hk⟩
    have hB := hb.trans (hb1.mono hb.size)
    clear c0 c1
    rcases hk.out with ⟨_, hk, hk0, hk2⟩ | ⟨hk, _⟩
    · have Hk := Lib.hid hk
      clear hk
      have hnew : Hid (m - 1 + k = 1 + sm (f.drop (j - 1))) := Lib.hid (by rw [Hsm.out, ← Hk.out, hm.out]; omega)
      rcases Nat.eq_or_lt_of_le hj0 with h1 | h1
      · -- the first part
        have h0 : Hid (m - 1 + k = 0) := Lib.hid (by rw [hnew.out, show j - 1 = 0 by omega, List.drop_zero, HT.out.1]; rfl)
        have hz : m - 1 + k = 0 := h0.out
        have hqp : q = pre.length := by omega
        have Hqp := Lib.hid hqp; clear hqp
        obtain rfl : k = 1 - m := by omega
        have hz2 : m - 1 + (1 - m) = 0 := by omega
        clear hz
        go_wp2
        go_ret
        exact RIn.mk hB (by rw [Hqp.out])
      · have hge := HT.out.2 (j - 1) (by omega)
        have hge2 : 1 ≤ m - 1 + k := by rw [hnew.out]; omega
        have hne : (m - 1 + k == 0) = false := by simp; omega
        have hq1 : 1 ≤ q := by omega
        have hqs : ((pre.length + (j - 1) - 1 : Nat) : Int) = (q : Int) - 1 := by omega
        have Hqs := Lib.hid hqs; clear hqs
        go_wp2
        go_roundw
        case rel => exact ⟨j - 1, m - 1 + k, by omega, by omega, rfl, by rw [Hqs.out], hnew, hge2, by omega, hB⟩
        case measure => simp [intOf]; omega
    · exact absurd Hok.out hk
/-- Two lists of parts, to be read. -/
def R2P (S : Nat → Prop) (w : World) (x y : List (Int × Int)) (e : Ending) (w' : World) : Prop := ∃ va vb, e = .returned (.tuple #[va, vb]) ∧ Below w.heap.size w w' ∧ Hid (Pairs S w' va x) ∧ Hid (Pairs S w' vb y)
theorem pairs0 (w : World) (b : Nat) : Pairs S w (.slice (some ⟨b, 0, none⟩) 0 0) [] := ⟨_, _, rfl, ⟨Nat.zero_le _, Nat.le_refl _, nofun⟩, fun i hi => absurd hi (Nat.not_lt_zero _)⟩
theorem pairsSub {w : World} {b off n m cap c : Nat} {pre mid rest : List (Int × Int)} (h : Pairs S w (.slice (some ⟨b, off, none⟩) n cap) (pre ++ mid ++ rest)) (hm : m = mid.length) (hc : m ≤ c) (hl : (pre ++ mid ++ rest).length ≤ 1000) :
    Pairs S w (.slice (some ⟨b, off + pre.length * 2, none⟩) m c) mid := by
  obtain ⟨a, cp, e, hh, hcell⟩ := h
  cases e
  subst hm
  refine ⟨_, _, rfl, ⟨by unfold maxLen; simp at hl; omega, hc, nofun⟩, fun i hi => ?_⟩
  have hi2 : i < 2 * mid.length := by rw [length_cells2] at hi; exact hi
  obtain ⟨b', off', e, hs, hv⟩ := hcell (pre.length * 2 + i) (by rw [length_cells2]; simp; omega)
  cases e
  refine ⟨b, _, rfl, hs, ?_⟩
  rw [Nat.add_assoc, hv]
  congr 1
  have e1 : cells2 (pre ++ mid ++ rest) = cells2 pre ++ (cells2 mid ++ cells2 rest) := by simp [cells2]
  simp only [e1]
  rw [List.getElem_append_right (by rw [length_cells2]; omega)]
  rw [List.getElem_append_left (by rw [length_cells2, length_cells2]; omega)]
  congr 1
  rw [length_cells2]; omega
set_option maxHeartbeats 800000 in
theorem l2Split0_c (v : Value) (x y : Int) (w : World) (h : Pairs S w v [(x, y)]) (hp : pOk x y) (h0 : pNeeds x = 0) : Calls Try.prog 124 #[v] w (R2P S w [] []) := by
  obtain ⟨a, cap, rfl, _⟩ := h.shape
  obtain ⟨b, off, rfl, c0, c1⟩ := h.at (k := 0) (by simp)
  simp at c0 c1
  clear h
  have HP := Lib.hid hp; clear hp
  have H0 := Lib.hid h0; clear h0
  go_enter Try.func124, Try.ntmps124
  go_wp2_with fail
  refine (sPartNeeds_c x y w).mono ?_
  rintro e w1 ⟨k, rfl, hb1, hk⟩
  rcases hk.out with ⟨_, hk, _, _⟩ | ⟨hk, _⟩
  · rw [H0.out] at hk
    obtain rfl : k = 0 := hk
    clear c0 c1
    go_wp2
    refine bodyPost_ret (results_tmp2 rfl _ _ _) rfl ⟨_, _, rfl, (hb1.alloc hb1.size _).alloc (by simp; have := hb1.size; omega) _, ?_, ?_⟩
    · exact pairs0 _ _
    · exact pairs0 _ _
  · exact absurd HP.out hk
set_option maxHeartbeats 800000 in
theorem l2Split1_c (v : Value) (f : List (Int × Int)) (x y : Int) (w : World) (h : Pairs S w v (f ++ [(x, y)])) (hp : pOk x y) (h0 : pNeeds x = 1) (hl : f.length ≤ 900) (hf : 0 < f.length) : Calls Try.prog 124 #[v] w (R2P S w f []) := by
  obtain ⟨a, cap, rfl, _⟩ := h.shape
  have hcap := Fl.cap h
  rw [List.length_append, List.length_singleton] at hcap
  obtain ⟨b, off, rfl, c0, c1⟩ := h.at (k := f.length) (by simp)
  simp at c0 c1
  have hsub : Pairs S w (.slice (some ⟨b, off, none⟩) f.length cap) f := by
    have := pairsSub (pre := []) (mid := f) (rest := [(x, y)]) (m := f.length) (c := cap) (by simpa using h) rfl (by omega) (by simp; omega)
    simpa using this
  have HS := Lib.hid hsub; clear hsub h
  have HP := Lib.hid hp; clear hp
  have H0 := Lib.hid h0; clear h0
  obtain ⟨n, hn⟩ : ∃ n, n = f.length := ⟨_, rfl⟩
  rw [List.length_append, List.length_singleton, ← hn]
  rw [← hn] at hcap c0 c1 hl hf HS
  have Hn := Lib.hid hn; clear hn
  have hcne : ¬ cap = 0 := by omega
  have hn0 : (0 : Int) ≤ (n : Int) := by omega
  have hn1 : (n : Int) ≤ (cap : Int) := by omega
  go_enter Try.func124, Try.ntmps124
  go_wp2_with fail
  refine (sPartNeeds_c x y w).mono ?_
  rintro e w1 ⟨k, rfl, hb1, hk⟩
  rcases hk.out with ⟨_, hk, _, _⟩ | ⟨hk, _⟩
  · rw [H0.out] at hk
    obtain rfl : k = 1 := hk
    clear c0 c1
    go_wp2
    refine bodyPost_ret (results_tmp2 rfl _ _ _) rfl ⟨_, _, rfl, hb1.alloc hb1.size _, ?_, ?_⟩
    · exact Lib.hid ((Pairs.stay HS.out (kpB hb1)).stay kpAlloc)
    · exact pairs0 _ _
  · exact absurd HP.out hk
set_option maxHeartbeats 1600000 in
theorem l2Split2_c (v : Value) (f : List (Int × Int)) (t : Re) (x y : Int) (w : World) (ht : t.wf) (h : Pairs S w v (f ++ t.flat ++ [(x, y)])) (hp : pOk x y) (h0 : pNeeds x = 2) (hl : (f ++ t.flat).length ≤ 900) (hf : 0 < f.length) :
    Calls Try.prog 124 #[v] w (R2P S w f t.flat) := by
  obtain ⟨a, cap, rfl, _⟩ := h.shape
  have hcap := Fl.cap h
  have hH := h
  obtain ⟨b, off, rfl, c0, c1⟩ := h.at (k := f.length + t.flat.length) (by simp)
  have hlast : (f ++ t.flat ++ [(x, y)])[f.length + t.flat.length]'(by simp) = (x, y) := by
    rw [List.getElem_append_right (by simp)]; simp
  rw [hlast] at c0 c1
  have hs1 : Pairs S w (.slice (some ⟨b, off, none⟩) f.length cap) f := by
    have := pairsSub (pre := []) (mid := f) (rest := t.flat ++ [(x, y)]) (m := f.length) (c := cap) (by simpa using h) rfl (by simp at hcap; omega) (by simp at hl ⊢; omega)
    simpa using this
  have hs2 : ∀ c, t.flat.length ≤ c → Pairs S w (.slice (some ⟨b, off + f.length * 2, none⟩) t.flat.length c) t.flat := fun c hc =>
    pairsSub (pre := f) (mid := t.flat) (rest := [(x, y)]) (m := t.flat.length) (c := c) h rfl hc (by simp at hl ⊢; omega)
  have HS1 := Lib.hid hs1; have HS2 := Lib.hid hs2; have HH := Lib.hid hH; have HT := Lib.hid ht
  clear hs1 hs2 h hH hlast ht
  have HP := Lib.hid hp; clear hp
  have H0 := Lib.hid h0; clear h0
  have hg := t.flat_pos
  have hlen : (f ++ t.flat ++ [(x, y)]).length = f.length + t.flat.length + 1 := by simp; omega
  have hl2 : f.length + t.flat.length ≤ 900 := by simpa using hl
  have HL : Hid ((f ++ t.flat ++ [(x, y)]).length ≤ 1000) := Lib.hid (by rw [hlen]; omega)
  rw [hlen] at hcap ⊢
  rw [hlen] at HH
  obtain ⟨n, hn⟩ : ∃ n, n = f.length := ⟨_, rfl⟩
  obtain ⟨m, hm⟩ : ∃ m, m = t.flat.length := ⟨_, rfl⟩
  have Hn := Lib.hid hn; have Hm := Lib.hid hm
  rw [← hn] at hcap c0 c1 hl2 hf HS1 HS2 HH ⊢
  rw [← hm] at hcap c0 c1 hl2 hg HS2 HH ⊢
  clear hn hm hlen hl
  obtain ⟨N, hN⟩ : ∃ N, n + m = N := ⟨_, rfl⟩
  rw [hN] at hcap c0 c1 hl2 HH ⊢
  have hmN : Hid (N - n = m) := Lib.hid (by omega)
  have hnN : n < N := by omega
  have HN := Lib.hid hN; clear hN
  have hcne : ¬ cap = 0 := by omega
  have hcne2 : ¬ cap = n := by omega
  have hn0 : (0 : Int) ≤ (n : Int) := by omega
  have hn1 : (n : Int) ≤ (cap : Int) := by omega
  have hn2 : (n : Int) ≤ (N : Int) := by omega
  have hn3 : (N : Int) ≤ (cap : Int) := by omega
  have hn4 : (1 : Int) ≤ (N : Int) := by omega
  go_enter Try.func124, Try.ntmps124
  go_wp2_with fail
  refine (sPartNeeds_c x y w).mono ?_
  rintro e w1 ⟨k, rfl, hb1, hk⟩
  rcases hk.out with ⟨_, hk, _, _⟩ | ⟨hk, _⟩
  · rw [H0.out] at hk
    obtain rfl : k = 2 := hk
    clear c0 c1 hk
    go_wp2_with fail
    refine (l2Start_c _ f [(x, y)] t HT.out ((N : Int) - 1) w1 (HH.out.stay (kpB hb1)) (by rw [← Hn.out, ← Hm.out, HN.out]) HL.out).mono ?_
    rintro e w2 ⟨k, rfl, hb2, hk⟩
    have hk' : k = (n : Int) := by rw [hk.out, ← Hn.out]
    subst hk'
    clear hk
    have hB := hb1.trans (hb2.mono hb1.size)
    go_wp2_with fail
    go_quiet (fail)
    go_wp2
    refine bodyPost_ret (results_tmp2 rfl _ _ _) rfl ⟨_, _, rfl, belDrewN hB _, ?_, ?_⟩
    · exact Lib.hid (Pairs.stay HS1.out (kpB (belDrewN hB _)))
    · have := Pairs.stay (HS2.out (cap - n) (by have := HN.out; omega)) (kpB (belDrewN hB nq))
      rw [← hmN.out] at this
      exact Lib.hid this
  · exact absurd HP.out hk
end Go.Proofs.Ytbcjhiponbfbnaa

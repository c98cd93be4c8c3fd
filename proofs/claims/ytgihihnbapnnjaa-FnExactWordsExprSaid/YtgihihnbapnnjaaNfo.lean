/- Automata with choices that a call made: three lists of its own. -/
import Derived.Test.YtgihihnbapnnjaaNfx
import Derived.Test.YtgihihnbapnnjaaRov
namespace Go.Proofs.Ytgihihnbapnnjaa
open Go.RowKit
set_option maxRecDepth 100000
variable {S T : Nat → Prop}
theorem ownCase {w : World} {base : Nat} {e : TypeId} {sz n : Nat} {v : Value} {cs : List Value} (h : w.ownsRow base e sz v n cs) {b : Nat} (hb : v.ownBlock = some b) : ∃ cur, w.heap[b]? = some (.cells cur e (0, 0)) ∧ base ≤ b := by
  rcases h.2 with ⟨rfl, _⟩ | ⟨g, cap, cur, rfl, hg, hh, _⟩
  · cases hb
  · cases hb; exact ⟨cur, hh, hg⟩
/-- A list's block is none of another type. -/
theorem ownNe {w : World} {base : Nat} {e t : TypeId} {sz n : Nat} {v : Value} {cs : List Value} {c : Array Value} {b : Nat} {fz : Nat × Nat} (h : w.ownsRow base e sz v n cs) (hb : w.heap[b]? = some (.cells c t fz)) (hne : t ≠ e) : v.ownBlock ≠ some b := fun hv => by
  obtain ⟨cur, hh, _⟩ := ownCase h hv
  rw [hb] at hh
  cases hh
  exact hne rfl
theorem ownNe2 {w : World} {base base' : Nat} {e e' : TypeId} {sz sz' n n' : Nat} {v v' : Value} {cs cs' : List Value} (h : w.ownsRow base e sz v n cs) (h' : w.ownsRow base' e' sz' v' n' cs') (hne : e ≠ e') (b : Nat) (hb : v.ownBlock = some b) : v'.ownBlock ≠ some b := by
  obtain ⟨cur, hh, _⟩ := ownCase h hb
  exact ownNe h' hh hne
theorem ownSetNe {w : World} {base b o : Nat} {e : TypeId} {sz n : Nat} {v : Value} {cs : List Value} (h : w.ownsRow base e sz v n cs) (hb : v.ownBlock ≠ some b) (u : Value) : (w.setCell ⟨b, o, none⟩ u).ownsRow base e sz v n cs :=
  h.kept (row := some b) (grownSet w b o u) (.inr hb)
theorem ownF {w : World} {base f : Nat} {e : TypeId} {sz n : Nat} {v : Value} {cs : List Value} (h : w.ownsRow base e sz v n cs) (hf : ∀ b, v.ownBlock = some b → f = b) : FlW (· = f) w v n cs := by
  rcases h.2 with ⟨rfl, rfl⟩ | ⟨g, cap, cur, rfl, _⟩
  · have hl := h.1
    obtain rfl : cs = [] := List.eq_nil_of_length_eq_zero (by simpa using hl)
    exact ⟨none, 0, rfl, ⟨by simp [maxLen], Nat.le_refl _, fun _ => rfl⟩, fun i hi => absurd hi (Nat.not_lt_zero _)⟩
  · obtain rfl := hf g rfl
    exact ownAt h
/-- The call made the three lists of the automaton. -/
def NfaO (base : Nat) (w : World) (vm vf ve : Value) (D : NfaD) : Prop :=
  Own3 w base 89 vm D.moves ∧ OwnI w base vf D.firsts ∧ OwnI w base ve D.ends ∧ ∀ b, vf.ownBlock = some b → ve.ownBlock ≠ some b
theorem NfaO.stay {w w' : World} {base : Nat} {vm vf ve : Value} {D : NfaD} (h : NfaO base w vm vf ve D) (k : Below w.heap.size w w') : NfaO base w' vm vf ve D := ⟨h.1.stay k, h.2.1.stay k, h.2.2.1.stay k, h.2.2.2⟩
theorem NfaO.base {w : World} {base base' : Nat} {vm vf ve : Value} {D : NfaD} (h : NfaO base w vm vf ve D) (k : base' ≤ base) : NfaO base' w vm vf ve D := ⟨ownBase h.1 k, ownBase h.2.1 k, ownBase h.2.2.1 k, h.2.2.2⟩
theorem NfaO.w {w : World} {base : Nat} {vm vf ve : Value} {D : NfaD} (h : NfaO base w vm vf ve D) : NfaW (base ≤ ·) w vm vf ve D := by
  obtain ⟨h1, h2, h3, h4⟩ := h
  have hty : 89 ≠ 3 := by decide
  have n12 := ownNe2 h1 h2 hty
  have n13 := ownNe2 h1 h3 hty
  have key : ∀ {e : TypeId} {sz n : Nat} {v : Value} {cs : List Value}, w.ownsRow base e sz v n cs → ∀ d : Nat, ∃ p, (∀ b, v.ownBlock = some b → p = b) ∧ base ≤ p ∧ ((v.ownBlock = some p ∧ p < w.heap.size) ∨ p = base + w.heap.size + d) := by
    intro e sz n v cs h d
    rcases hv : v.ownBlock with _ | b
    · exact ⟨base + w.heap.size + d, ⟨nofun, by omega, .inr rfl⟩⟩
    · have := World.ownsRow.lt h _ hv
      exact ⟨b, ⟨fun b' hb => by cases hb; rfl, this.1, .inl ⟨rfl, this.2⟩⟩⟩
  obtain ⟨p, p1, p2, p3⟩ := key h1 0
  obtain ⟨q, q1, q2, q3⟩ := key h2 1
  obtain ⟨r, r1, r2, r3⟩ := key h3 2
  refine ⟨p, q, r, ⟨p2, q2, r2⟩, ⟨?_, ?_, ?_⟩, ownF h1 p1, ownF h2 q1, ownF h3 r1⟩
  · rintro rfl
    rcases p3 with ⟨a, b⟩ | a <;> rcases q3 with ⟨c, d⟩ | c
    · exact n12 _ a c
    all_goals omega
  · rintro rfl
    rcases p3 with ⟨a, b⟩ | a <;> rcases r3 with ⟨c, d⟩ | c
    · exact n13 _ a c
    all_goals omega
  · rintro rfl
    rcases q3 with ⟨a, b⟩ | a <;> rcases r3 with ⟨c, d⟩ | c
    · exact h4 _ a c
    all_goals omega
def nfa0 : NfaD := ⟨0, [], [], []⟩
theorem NfaO.nil (base : Nat) (w : World) : NfaO base w (.slice none 0 0) (.slice none 0 0) (.slice none 0 0) nfa0 := ⟨Own3.nil _ _ _, ⟨rfl, .inl ⟨rfl, rfl⟩⟩, ⟨rfl, .inl ⟨rfl, rfl⟩⟩, nofun⟩
/-- The call answers an automaton with choices that it made. -/
def RNf (w : World) (D : NfaD) (e : Ending) (w' : World) : Prop := ∃ vm vf ve, e = .returned (.agg #[.int .i64 D.states, vm, vf, ve]) ∧ Below w.heap.size w w' ∧ Hid (NfaO w.heap.size w' vm vf ve D)
def RNb (w : World) (D : NfaD) (b : Bool) (e : Ending) (w' : World) : Prop := ∃ vm vf ve, e = .returned (.tuple #[.agg #[.int .i64 D.states, vm, vf, ve], .bool b]) ∧ Below w.heap.size w w' ∧ Hid (NfaO w.heap.size w' vm vf ve D)
/-- An automaton with choices under way: its header in a block, its lists. -/
structure NSt (w wr : World) (g BE : Nat) (n : Int) (vm vf ve : Value) (ms : List (Int × Int × Int)) (fs es : List Int) : Prop where
  bel : Below w.heap.size w wr
  gB : w.heap.size ≤ g
  hd : wr.heap[g]? = some (.cells #[.int .i64 n, vm, vf, ve] 46 (0, 0))
  mv : Own3 wr w.heap.size 89 vm ms
  fs : OwnI wr w.heap.size vf fs
  en : OwnI wr BE ve es
  eB : w.heap.size ≤ BE ∧ BE ≤ wr.heap.size
  ne : ∀ b, vf.ownBlock = some b → ve.ownBlock ≠ some b
theorem NSt.sz {w wr : World} {g BE : Nat} {n : Int} {vm vf ve : Value} {ms : List (Int × Int × Int)} {fs es : List Int} (h : NSt w wr g BE n vm vf ve ms fs es) : w.heap.size ≤ wr.heap.size := h.bel.size
theorem NSt.stay {w wr w' : World} {g BE : Nat} {n : Int} {vm vf ve : Value} {ms : List (Int × Int × Int)} {fs es : List Int} (h : NSt w wr g BE n vm vf ve ms fs es) (k : Below wr.heap.size wr w') : NSt w w' g BE n vm vf ve ms fs es :=
  ⟨h.bel.trans (k.mono h.sz), h.gB, blkBel k h.hd, h.mv.stay k, h.fs.stay k, h.en.stay k, ⟨h.eB.1, Nat.le_trans h.eB.2 k.size⟩, h.ne⟩
theorem NSt.o {w wr : World} {g BE : Nat} {n : Int} {vm vf ve : Value} {ms : List (Int × Int × Int)} {fs es : List Int} (h : NSt w wr g BE n vm vf ve ms fs es) : NfaO w.heap.size wr vm vf ve ⟨n, ms, fs, es⟩ :=
  ⟨h.mv, h.fs, ownBase h.en h.eB.1, h.ne⟩
theorem nfNe : 46 ≠ 89 ∧ 46 ≠ 3 ∧ 89 ≠ 3 := by decide
/-- The header behind an append to the moves. -/
theorem NSt.hdM {w wr w' : World} {g BE : Nat} {n : Int} {vm vf ve : Value} {ms : List (Int × Int × Int)} {fs es : List Int} (h : NSt w wr g BE n vm vf ve ms fs es) (hg : wr.grownBy w' vm.ownBlock) : w'.heap[g]? = some (.cells #[.int .i64 n, vm, vf, ve] 46 (0, 0)) :=
  blkGrow hg h.hd (fun e => ownNe h.mv h.hd nfNe.1 e.symm)
theorem NSt.hdE {w wr w' : World} {g BE : Nat} {n : Int} {vm vf ve : Value} {ms : List (Int × Int × Int)} {fs es : List Int} (h : NSt w wr g BE n vm vf ve ms fs es) (hg : wr.grownBy w' ve.ownBlock) : w'.heap[g]? = some (.cells #[.int .i64 n, vm, vf, ve] 46 (0, 0)) :=
  blkGrow hg h.hd (fun e => ownNe h.en h.hd nfNe.2.1 e.symm)
theorem ownOr {w : World} {base : Nat} {e e' : TypeId} {base' sz sz' n n' : Nat} {v v' : Value} {cs cs' : List Value} (h : w.ownsRow base e sz v n cs) (h' : w.ownsRow base' e' sz' v' n' cs') (hne : ∀ b, v.ownBlock = some b → v'.ownBlock ≠ some b) : v.ownBlock = none ∨ v.ownBlock ≠ v'.ownBlock := by
  rcases hv : v.ownBlock with _ | b
  · exact .inl rfl
  · exact .inr (fun e => hne b hv (e.symm))
/-- Moves appended and stored. -/
theorem NSt.addM {w wr w' : World} {g BE : Nat} {n : Int} {vm vf ve v' : Value} {ms ms' : List (Int × Int × Int)} {fs es : List Int} (h : NSt w wr g BE n vm vf ve ms fs es) (hg : wr.grownBy w' vm.ownBlock) (hv : Own3 w' w.heap.size 89 v' ms') :
    NSt w (w'.setCell ⟨g, 1, none⟩ v') g BE n v' vf ve ms' fs es := by
  have hh := h.hdM hg
  have hfs := World.ownsRow.kept h.fs hg (ownOr h.fs h.mv (ownNe2 h.fs h.mv nfNe.2.2.symm))
  have hen := World.ownsRow.kept h.en hg (ownOr h.en h.mv (ownNe2 h.en h.mv nfNe.2.2.symm))
  refine ⟨(h.bel.grown hg h.sz (fun k hk => (World.ownsRow.lt h.mv k hk).1)).setCell h.gB _, h.gB, heap_set hh 1 _, ownSetNe hv (ownNe hv hh nfNe.1) _, ownSetNe hfs (ownNe hfs hh nfNe.2.1) _, ownSetNe hen (ownNe hen hh nfNe.2.1) _, ⟨h.eB.1, ?_⟩, h.ne⟩
  have := hg.size
  have := h.eB.2
  simp [World.setCell]; omega
/-- Ends appended and stored. -/
theorem NSt.addE {w wr w' : World} {g BE : Nat} {n : Int} {vm vf ve v' : Value} {ms : List (Int × Int × Int)} {fs es es' : List Int} (h : NSt w wr g BE n vm vf ve ms fs es) (hB : ∀ b, vf.ownBlock = some b → b < BE) (hg : wr.grownBy w' ve.ownBlock) (hv : OwnI w' BE v' es') :
    NSt w (w'.setCell ⟨g, 3, none⟩ v') g BE n vm vf v' ms fs es' := by
  have hh := h.hdE hg
  have hfs := World.ownsRow.kept h.fs hg (ownOr h.fs h.en h.ne)
  have hmv := World.ownsRow.kept h.mv hg (ownOr h.mv h.en (ownNe2 h.mv h.en nfNe.2.2))
  refine ⟨(h.bel.grown hg h.sz (fun k hk => Nat.le_trans h.eB.1 (World.ownsRow.lt h.en k hk).1)).setCell h.gB _, h.gB, heap_set hh 3 _, ownSetNe hmv (ownNe hmv hh nfNe.1) _, ownSetNe hfs (ownNe hfs hh nfNe.2.1) _, ownSetNe hv (ownNe hv hh nfNe.2.1) _, ⟨h.eB.1, ?_⟩, ?_⟩
  · have := hg.size
    have := h.eB.2
    simp [World.setCell]; omega
  · intro b hb hb'
    have h1 := hB b hb
    have h2 := (World.ownsRow.lt hv b hb').1
    omega
/-- Four cells of a block of another type set. -/
theorem NfaO.set4 {w : World} {base : Nat} {vm vf ve : Value} {D : NfaD} (h : NfaO base w vm vf ve D) (c : Nat) {cs : Array Value} {t : TypeId} (_ : base ≤ c + w.heap.size) (hc : w.heap[c]? = some (.cells cs t (0, 0))) (ht : t ≠ 89 ∧ t ≠ 3) (x y z u : Value) :
    NfaO base ((((w.setCell ⟨c, 0, none⟩ x).setCell ⟨c, 1, none⟩ y).setCell ⟨c, 2, none⟩ z).setCell ⟨c, 3, none⟩ u) vm vf ve D := by
  have n1 := ownNe h.1 hc ht.1
  have n2 := ownNe h.2.1 hc ht.2
  have n3 := ownNe h.2.2.1 hc ht.2
  exact ⟨ownSetNe (ownSetNe (ownSetNe (ownSetNe h.1 n1 _) n1 _) n1 _) n1 _, ownSetNe (ownSetNe (ownSetNe (ownSetNe h.2.1 n2 _) n2 _) n2 _) n2 _, ownSetNe (ownSetNe (ownSetNe (ownSetNe h.2.2.1 n3 _) n3 _) n3 _) n3 _, h.2.2.2⟩
theorem Own3.sl {w : World} {base : Nat} {e : TypeId} {v : Value} {xs : List (Int × Int × Int)} (h : Own3 w base e v xs) : ∃ a n c, v = .slice a n c := let ⟨a, c, e, _⟩ := h.shape; ⟨a, _, c, e⟩
theorem OwnI.sl {w : World} {base : Nat} {v : Value} {xs : List Int} (h : OwnI w base v xs) : ∃ a n c, v = .slice a n c := let ⟨a, c, e, _⟩ := h.shape; ⟨a, _, c, e⟩
end Go.Proofs.Ytgihihnbapnnjaa

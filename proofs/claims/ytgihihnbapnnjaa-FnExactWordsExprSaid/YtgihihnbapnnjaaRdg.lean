/- What memory holds, as data: slices of ints, bools, bytes, strings, parts, moves, spans, tokens, slices of slices of ints, automata. No condition. -/
import Derived.Test.YtgihihnbapnnjaaBas
import Derived.Test.YtgihihnbapnnjaaAut
namespace Go.Proofs.Ytgihihnbapnnjaa
open Go.RowKit

/-- The slice v has n elements, whose cells are cs; they lie in blocks of S. -/
def Fl (S : Nat → Prop) (w : World) (v : Value) (n : Nat) (cs : List Value) : Prop :=
  ∃ a cap, v = .slice a n cap ∧ (n ≤ maxLen ∧ n ≤ cap ∧ (a = none → cap = 0)) ∧ ∀ i (h : i < cs.length), ∃ b off, a = some ⟨b, off, none⟩ ∧ S b ∧ w.cell? ⟨b, off + i, none⟩ = some cs[i]

/-- Every cell of w in a block of S reads the same in w'. -/
def Kp (S : Nat → Prop) (w w' : World) : Prop := ∀ ad v, S ad.block → w.cell? ad = some v → w'.cell? ad = some v

variable {S T : Nat → Prop}
theorem Kp.refl (w : World) : Kp S w w := fun _ _ _ h => h
theorem Kp.trans {a b c : World} (h : Kp S a b) (k : Kp S b c) : Kp S a c := fun ad v s e => k ad v s (h ad v s e)
theorem Kp.mono {w w' : World} (h : Kp T w w') (k : ∀ b, S b → T b) : Kp S w w' := fun ad v s e => h ad v (k _ s) e
theorem kpB {w w' : World} (h : Below w.heap.size w w') : Kp S w w' := fun ad v _ e => by
  rw [h.cell (World.block_lt_of_cell? w ad e)]; exact e
/-- Below a number. -/
theorem kpL {B : Nat} {w w' : World} (h : Below B w w') : Kp (· < B) w w' := fun ad v s e => by
  rw [h.cell s]; exact e
theorem kpG {w w' : World} {row : Option Nat} (h : w.grownBy w' row) : Kp (fun b => some b ≠ row) w w' := fun ad v s e => h.cell e s
theorem kpSet {w : World} {b o : Nat} {v : Value} : Kp (· ≠ b) w (w.setCell ⟨b, o, none⟩ v) := fun a u s e => by
  rw [World.cell?_of_block (Below.heap_setCell w ⟨b, o, none⟩ v a.block s)]; exact e
theorem kpAlloc {w : World} {o : Obj} : Kp S w (w.alloc o) := kpB ((Below.refl _ _).alloc (Nat.le_refl _) o)

theorem Fl.stay {w w' : World} {v : Value} {n : Nat} {cs : List Value} (h : Fl S w v n cs) (k : Kp S w w') : Fl S w' v n cs := by
  obtain ⟨a, cap, rfl, hn, hc⟩ := h
  exact ⟨a, cap, rfl, hn, fun i hi => let ⟨b, off, e, s, c⟩ := hc i hi; ⟨b, off, e, s, k _ _ s c⟩⟩
theorem Fl.mono {w : World} {v : Value} {n : Nat} {cs : List Value} (h : Fl S w v n cs) (k : ∀ b, S b → T b) : Fl T w v n cs := by
  obtain ⟨a, cap, rfl, hn, hc⟩ := h
  exact ⟨a, cap, rfl, hn, fun i hi => let ⟨b, off, e, s, c⟩ := hc i hi; ⟨b, off, e, k _ s, c⟩⟩
/-- Every cell that is read lies in the heap. -/
theorem Fl.inHeap {w : World} {v : Value} {n : Nat} {cs : List Value} (h : Fl S w v n cs) : Fl (fun b => S b ∧ b < w.heap.size) w v n cs := by
  obtain ⟨a, cap, rfl, hn, hc⟩ := h
  exact ⟨a, cap, rfl, hn, fun i hi => let ⟨b, off, e, s, c⟩ := hc i hi; ⟨b, off, e, ⟨s, World.block_lt_of_cell? w _ c⟩, c⟩⟩

theorem Fl.shape {w : World} {v : Value} {n : Nat} {cs : List Value} (h : Fl S w v n cs) : ∃ a cap, v = .slice a n cap ∧ n ≤ 9223372036854775807 := by
  obtain ⟨a, cap, rfl, hn, hc⟩ := h
  exact ⟨a, cap, rfl, by simpa [maxLen] using hn.1⟩
theorem Fl.cap {w : World} {a : Option Addr} {n m cap : Nat} {cs : List Value} (h : Fl S w (.slice a n cap) m cs) : n ≤ cap := by
  obtain ⟨a, cap, e, hn, hc⟩ := h
  cases e
  exact hn.2.1
theorem Fl.nocap {w : World} {n m cap : Nat} {cs : List Value} (h : Fl S w (.slice none n cap) m cs) : cap = 0 ∧ n = 0 ∧ m = 0 := by
  obtain ⟨a, cap, e, hn, hc⟩ := h
  cases e
  have := hn.2.2 rfl
  have := hn.2.1
  exact ⟨by omega, by omega, by omega⟩

theorem Fl.at {w : World} {a : Option Addr} {n m cap : Nat} {cs : List Value} (h : Fl S w (.slice a n cap) m cs) {i : Nat} (hi : i < cs.length) :
    ∃ b off, a = some ⟨b, off, none⟩ ∧ w.cell? ⟨b, off + i, none⟩ = some cs[i] := by
  obtain ⟨a', cap', e, hn, hc⟩ := h
  cases e
  obtain ⟨b, off, e, _, c⟩ := hc i hi
  exact ⟨b, off, e, c⟩

theorem Fl.nil (w : World) : Fl S w (.slice none 0 0) 0 [] := ⟨none, 0, rfl, ⟨Nat.zero_le _, Nat.le_refl _, fun _ => rfl⟩, fun i hi => absurd hi (Nat.not_lt_zero _)⟩

/-- Two cells of one slice. -/
theorem Fl.at2 {w : World} {a : Option Addr} {n m cap : Nat} {cs : List Value} (h : Fl S w (.slice a n cap) m cs) {i : Nat} (hi : i + 1 < cs.length) :
    ∃ b off, a = some ⟨b, off, none⟩ ∧ w.cell? ⟨b, off + i, none⟩ = some cs[i] ∧ w.cell? ⟨b, off + i + 1, none⟩ = some cs[i+1] := by
  obtain ⟨b, off, rfl, h0⟩ := h.at (i := i) (by omega)
  obtain ⟨b', off', e, h1⟩ := h.at (i := i + 1) hi
  cases e
  exact ⟨b, off, rfl, h0, h1⟩

theorem Fl.at3 {w : World} {a : Option Addr} {n m cap : Nat} {cs : List Value} (h : Fl S w (.slice a n cap) m cs) {i : Nat} (hi : i + 2 < cs.length) :
    ∃ b off, a = some ⟨b, off, none⟩ ∧ w.cell? ⟨b, off + i, none⟩ = some cs[i] ∧ w.cell? ⟨b, off + i + 1, none⟩ = some cs[i+1] ∧ w.cell? ⟨b, off + i + 2, none⟩ = some cs[i+2] := by
  obtain ⟨b, off, rfl, h0⟩ := h.at (i := i) (by omega)
  obtain ⟨b', off', e, h1⟩ := h.at (i := i + 1) (by omega)
  cases e
  obtain ⟨b', off', e, h2⟩ := h.at (i := i + 2) (by omega)
  cases e
  exact ⟨b, off, rfl, h0, h1, h2⟩

/-- The same, and the block may be written. -/
def FlW (S : Nat → Prop) (w : World) (v : Value) (n : Nat) (cs : List Value) : Prop :=
  ∃ a cap, v = .slice a n cap ∧ (n ≤ maxLen ∧ n ≤ cap ∧ (a = none → cap = 0)) ∧ ∀ i (h : i < cs.length), ∃ b off, a = some ⟨b, off, none⟩ ∧ S b ∧ w.cell? ⟨b, off + i, none⟩ = some cs[i] ∧ ∀ o, w.frozen? ⟨b, o, none⟩ = false
theorem FlW.fl {w : World} {v : Value} {n : Nat} {cs : List Value} (h : FlW S w v n cs) : Fl S w v n cs := by
  obtain ⟨a, cap, rfl, hn, hc⟩ := h
  exact ⟨a, cap, rfl, hn, fun i hi => let ⟨b, off, e, s, c, _⟩ := hc i hi; ⟨b, off, e, s, c⟩⟩
theorem FlW.shape {w : World} {v : Value} {n : Nat} {cs : List Value} (h : FlW S w v n cs) : ∃ a cap, v = .slice a n cap ∧ n ≤ 9223372036854775807 := h.fl.shape
theorem FlW.mono {w : World} {v : Value} {n : Nat} {cs : List Value} (h : FlW S w v n cs) (k : ∀ b, S b → T b) : FlW T w v n cs := by
  obtain ⟨a, cap, rfl, hn, hc⟩ := h
  exact ⟨a, cap, rfl, hn, fun i hi => let ⟨b, off, e, s, c⟩ := hc i hi; ⟨b, off, e, k _ s, c⟩⟩
theorem FlW.at {w : World} {a : Option Addr} {n m cap : Nat} {cs : List Value} (h : FlW S w (.slice a n cap) m cs) {i : Nat} (hi : i < cs.length) :
    ∃ b off, a = some ⟨b, off, none⟩ ∧ S b ∧ w.cell? ⟨b, off + i, none⟩ = some cs[i] ∧ ∀ o, w.frozen? ⟨b, o, none⟩ = false := by
  obtain ⟨a', cap', e, hn, hc⟩ := h
  cases e
  exact hc i hi
/-- Blocks of S stay as they are. -/
def Ks (S : Nat → Prop) (w w' : World) : Prop := ∀ b, S b → b < w.heap.size → w'.heap[b]? = w.heap[b]?
theorem Ks.kp {w w' : World} (h : Ks S w w') : Kp S w w' := fun ad v s e => by
  rw [World.cell?_of_block (h ad.block s (World.block_lt_of_cell? w ad e))]; exact e
theorem ksB {w w' : World} (h : Below w.heap.size w w') : Ks S w w' := fun b _ hb => h.block b hb
theorem ksG {w w' : World} {row : Option Nat} (h : w.grownBy w' row) : Ks (fun b => some b ≠ row) w w' := fun b s hb => h.block b hb s
theorem Ks.mono {w w' : World} (h : Ks T w w') (k : ∀ b, S b → T b) : Ks S w w' := fun b s hb => h b (k _ s) hb
theorem FlW.stay {w w' : World} {v : Value} {n : Nat} {cs : List Value} (h : FlW S w v n cs) (k : Ks S w w') : FlW S w' v n cs := by
  obtain ⟨a, cap, rfl, hn, hc⟩ := h
  refine ⟨a, cap, rfl, hn, fun i hi => ?_⟩
  obtain ⟨b, off, e, s, c, f⟩ := hc i hi
  have hb := k b s (World.block_lt_of_cell? w _ c)
  exact ⟨b, off, e, s, by rw [World.cell?_of_block hb]; exact c, fun o => by rw [World.frozen?_of_block hb]; exact f o⟩
theorem cell_setOther {w : World} {b o o' : Nat} {u v : Value} (h : w.cell? ⟨b, o', none⟩ = some v) (hne : o' ≠ o) : (w.setCell ⟨b, o, none⟩ u).cell? ⟨b, o', none⟩ = some v := by
  unfold World.cell? at h ⊢
  simp only [World.setCell, Array.getElem?_modify, if_true] at h ⊢
  cases hb : w.heap[b]? with
  | none => simp [hb] at h
  | some ob =>
    cases ob <;> simp_all
    rw [Array.getElem?_setIfInBounds_ne (Ne.symm hne)]
    exact h
theorem cell_setSame {w : World} {b o : Nat} {u v : Value} (h : w.cell? ⟨b, o, none⟩ = some v) : (w.setCell ⟨b, o, none⟩ u).cell? ⟨b, o, none⟩ = some u := by
  unfold World.cell? at h ⊢
  simp only [World.setCell, Array.getElem?_modify, if_true] at h ⊢
  cases hb : w.heap[b]? with
  | none => simp [hb] at h
  | some ob =>
    cases ob <;> simp_all
    obtain ⟨hlt, _⟩ := Array.getElem?_eq_some_iff.1 h
    rw [Array.getElem?_setIfInBounds_self_of_lt hlt]
theorem frozen_set {w : World} {a : Addr} {u : Value} (p : Addr) : (w.setCell a u).frozen? p = w.frozen? p := by
  by_cases h : p.block = a.block
  · unfold World.frozen?
    simp only [World.setCell, Array.getElem?_modify, h, if_true]
    cases hb : w.heap[a.block]? with
    | none => rfl
    | some ob => cases ob <;> rfl
  · exact World.frozen?_of_block (Below.heap_setCell w a u p.block h)
theorem FlW.set {w : World} {b off n m cap : Nat} {cs : List Value} (h : FlW S w (.slice (some ⟨b, off, none⟩) n cap) m cs) (i : Nat) (u : Value) (hi : i < cs.length) :
    FlW S (w.setCell ⟨b, off + i, none⟩ u) (.slice (some ⟨b, off, none⟩) n cap) m (cs.set i u) := by
  obtain ⟨a, cap, e, hn, hc⟩ := h
  cases e
  refine ⟨_, _, rfl, hn, fun j hj => ?_⟩
  obtain ⟨b', off', e, s, c, f⟩ := hc j (by simpa using hj)
  cases e
  refine ⟨b, off, rfl, s, ?_, fun o => by rw [frozen_set]; exact f o⟩
  by_cases hij : i = j
  · subst hij; simp; exact cell_setSame c
  · rw [List.getElem_set_ne hij]; exact cell_setOther c (by omega)
theorem grownSet (w : World) (b o : Nat) (u : Value) : w.grownBy (w.setCell ⟨b, o, none⟩ u) (some b) :=
  ⟨rfl, rfl, rfl, by simp [World.setCell], fun k _ hne => Below.heap_setCell _ _ _ _ (by simpa using hne)⟩
theorem grownRefl (w : World) (r : Option Nat) : w.grownBy w r := ⟨rfl, rfl, rfl, Nat.le_refl _, fun _ _ _ => rfl⟩
theorem grownTrans {a b c : World} {r : Option Nat} (h : a.grownBy b r) (k : b.grownBy c r) : a.grownBy c r :=
  ⟨k.os.trans h.os, k.tape.trans h.tape, k.output.trans h.output, Nat.le_trans h.size k.size, fun i hi hr => (k.block i (Nat.lt_of_lt_of_le hi h.size) hr).trans (h.block i hi hr)⟩
theorem grownBel {a b : World} {r : Option Nat} (h : Below a.heap.size a b) : a.grownBy b r := ⟨h.os, h.tape, h.output, h.size, fun i hi _ => h.block i hi⟩
theorem grownLow {w w' : World} {row : Option Nat} {B : Nat} (h : w.grownBy w' row) (hk : ∀ k, row = some k → B ≤ k) (hB : B ≤ w.heap.size) : Below B w w' :=
  ⟨h.os, h.tape, h.output, h.size, fun i hi => h.block i (by omega) (fun e => by have := hk i e.symm; omega)⟩
/-- The first m cells turned. -/
def mkd (cs : List Value) (f : Nat → Value) (m : Nat) : List Value := (List.range m).map f ++ cs.drop m
theorem mkd_zero (cs : List Value) (f : Nat → Value) : mkd cs f 0 = cs := by simp [mkd]
theorem mkd_length (cs : List Value) (f : Nat → Value) (m : Nat) (h : m ≤ cs.length) : (mkd cs f m).length = cs.length := by simp [mkd]; omega
theorem mkd_set (cs : List Value) (f : Nat → Value) (m : Nat) (h : m < cs.length) : (mkd cs f m).set m (f m) = mkd cs f (m + 1) := by
  unfold mkd
  rw [List.set_append_right _ _ (by simp), List.length_map, List.length_range, Nat.sub_self, List.drop_eq_getElem_cons h, List.set_cons_zero, List.range_succ, List.map_append, List.append_assoc]
  rfl
theorem mkd_all (cs : List Value) (f : Nat → Value) (m : Nat) (h : cs.length = m) : mkd cs f m = (List.range m).map f := by
  unfold mkd; rw [List.drop_of_length_le (by omega)]; simp

def Ints (S : Nat → Prop) (w : World) (v : Value) (xs : List Int) : Prop := Fl S w v xs.length (xs.map (.int .i64 ·))
def Bools (S : Nat → Prop) (w : World) (v : Value) (xs : List Bool) : Prop := Fl S w v xs.length (xs.map .bool)
def Bytes (S : Nat → Prop) (w : World) (v : Value) (xs : List UInt8) : Prop := Fl S w v xs.length (xs.map fun b => .int .u8 b.toNat)
def Strs (S : Nat → Prop) (w : World) (v : Value) (xs : List ByteArray) : Prop := Fl S w v xs.length (xs.map .string) ∧ ∀ s ∈ xs, s.size ≤ maxLen
def cells2 (xs : List (Int × Int)) : List Value := xs.flatMap fun p => [.int .i64 p.1, .int .i64 p.2]
def cells3 (xs : List (Int × Int × Int)) : List Value := xs.flatMap fun p => [.int .i64 p.1, .int .i64 p.2.1, .int .i64 p.2.2]
def Pairs (S : Nat → Prop) (w : World) (v : Value) (xs : List (Int × Int)) : Prop := Fl S w v xs.length (cells2 xs)
def Trips (S : Nat → Prop) (w : World) (v : Value) (xs : List (Int × Int × Int)) : Prop := Fl S w v xs.length (cells3 xs)
/-- A slice whose elements, a cell each, read as the xs. -/
def Nest {α : Type} (R : World → Value → α → Prop) (S : Nat → Prop) (w : World) (v : Value) (xs : List α) : Prop :=
  ∃ vs : List Value, Fl S w v xs.length vs ∧ vs.length = xs.length ∧ ∀ i (h : i < xs.length), R w (vs.getD i undef) xs[i]
theorem Nest.at {α : Type} {R : World → Value → α → Prop} {w : World} {a : Option Addr} {n cap : Nat} {xs : List α} (h : Nest R S w (.slice a n cap) xs) {k : Nat} (hk : k < xs.length) :
    ∃ b off v, a = some ⟨b, off, none⟩ ∧ w.cell? ⟨b, off + k, none⟩ = some v ∧ R w v xs[k] := by
  obtain ⟨vs, h1, h2, h3⟩ := h
  obtain ⟨b, off, e, c⟩ := Fl.at h1 (i := k) (by omega)
  refine ⟨b, off, _, e, c, ?_⟩
  have := h3 k hk
  rwa [List.getD_eq_getElem?_getD, List.getElem?_eq_getElem (by omega)] at this
theorem Nest.shape {α : Type} {R : World → Value → α → Prop} {w : World} {v : Value} {xs : List α} (h : Nest R S w v xs) : ∃ a cap, v = .slice a xs.length cap ∧ xs.length ≤ 9223372036854775807 := let ⟨_, h1, _⟩ := h; Fl.shape h1
theorem Nest.stay {α : Type} {R : World → Value → α → Prop} {w w' : World} {v : Value} {xs : List α} (h : Nest R S w v xs) (k : Kp S w w') (hR : ∀ v x, R w v x → R w' v x) : Nest R S w' v xs := by
  obtain ⟨vs, h1, h2, h3⟩ := h
  exact ⟨vs, h1.stay k, h2, fun i hi => hR _ _ (h3 i hi)⟩
def IntSS (S : Nat → Prop) (w : World) (v : Value) (xss : List (List Int)) : Prop :=
  ∃ vs : List Value, Fl S w v xss.length vs ∧ vs.length = xss.length ∧ ∀ i (h : i < xss.length), Ints S w (vs.getD i undef) xss[i]
def DfaR (S : Nat → Prop) (w : World) (vn ve : Value) (D : DfaD) : Prop := IntSS S w vn D.1 ∧ Bools S w ve D.2
structure NfaD where
  states : Int
  moves : List (Int × Int × Int)
  firsts : List Int
  ends : List Int
def NfaR (S : Nat → Prop) (w : World) (vm vf ve : Value) (D : NfaD) : Prop := Trips S w vm D.moves ∧ Ints S w vf D.firsts ∧ Ints S w ve D.ends
/-- A slice of automata: two cells each. -/
def DfaS (S : Nat → Prop) (w : World) (v : Value) (Ds : List DfaD) : Prop :=
  ∃ vs : List (Value × Value), Fl S w v Ds.length (vs.flatMap fun p => [p.1, p.2]) ∧ vs.length = Ds.length ∧ ∀ i (h : i < Ds.length), DfaR S w (vs.getD i (undef, undef)).1 (vs.getD i (undef, undef)).2 Ds[i]

theorem IntSS.stay {w w' : World} {v : Value} {x : List (List Int)} (h : IntSS S w v x) (k : Kp S w w') : IntSS S w' v x := by
  obtain ⟨vs, h1, h2, h3⟩ := h
  exact ⟨vs, h1.stay k, h2, fun i hi => Fl.stay (h3 i hi) k⟩
theorem DfaR.stay {w w' : World} {vn ve : Value} {D : DfaD} (h : DfaR S w vn ve D) (k : Kp S w w') : DfaR S w' vn ve D := ⟨h.1.stay k, Fl.stay h.2 k⟩
theorem NfaR.stay {w w' : World} {a b c : Value} {D : NfaD} (h : NfaR S w a b c D) (k : Kp S w w') : NfaR S w' a b c D := ⟨Fl.stay h.1 k, Fl.stay h.2.1 k, Fl.stay h.2.2 k⟩
theorem Ints.stay {w w' : World} {v : Value} {x : List Int} (h : Ints S w v x) (k : Kp S w w') : Ints S w' v x := Fl.stay h k
theorem Bools.stay {w w' : World} {v : Value} {x : List Bool} (h : Bools S w v x) (k : Kp S w w') : Bools S w' v x := Fl.stay h k
theorem Pairs.stay {w w' : World} {v : Value} {x : List (Int × Int)} (h : Pairs S w v x) (k : Kp S w w') : Pairs S w' v x := Fl.stay h k
theorem Trips.stay {w w' : World} {v : Value} {x : List (Int × Int × Int)} (h : Trips S w v x) (k : Kp S w w') : Trips S w' v x := Fl.stay h k
theorem Bytes.stay {w w' : World} {v : Value} {x : List UInt8} (h : Bytes S w v x) (k : Kp S w w') : Bytes S w' v x := Fl.stay h k
theorem Strs.stay {w w' : World} {v : Value} {x : List ByteArray} (h : Strs S w v x) (k : Kp S w w') : Strs S w' v x := ⟨Fl.stay h.1 k, h.2⟩
theorem DfaS.stay {w w' : World} {v : Value} {x : List DfaD} (h : DfaS S w v x) (k : Kp S w w') : DfaS S w' v x := by
  obtain ⟨vs, h1, h2, h3⟩ := h
  exact ⟨vs, h1.stay k, h2, fun i hi => (h3 i hi).stay k⟩

theorem IntSS.mono {w : World} {v : Value} {x : List (List Int)} (h : IntSS S w v x) (k : ∀ b, S b → T b) : IntSS T w v x := by
  obtain ⟨vs, h1, h2, h3⟩ := h
  exact ⟨vs, h1.mono k, h2, fun i hi => Fl.mono (h3 i hi) k⟩
theorem DfaR.mono {w : World} {vn ve : Value} {D : DfaD} (h : DfaR S w vn ve D) (k : ∀ b, S b → T b) : DfaR T w vn ve D := ⟨h.1.mono k, Fl.mono h.2 k⟩
theorem NfaR.mono {w : World} {a b c : Value} {D : NfaD} (h : NfaR S w a b c D) (k : ∀ b, S b → T b) : NfaR T w a b c D := ⟨Fl.mono h.1 k, Fl.mono h.2.1 k, Fl.mono h.2.2 k⟩
theorem Ints.mono {w : World} {v : Value} {x : List Int} (h : Ints S w v x) (k : ∀ b, S b → T b) : Ints T w v x := Fl.mono h k
theorem Bools.mono {w : World} {v : Value} {x : List Bool} (h : Bools S w v x) (k : ∀ b, S b → T b) : Bools T w v x := Fl.mono h k
theorem Pairs.mono {w : World} {v : Value} {x : List (Int × Int)} (h : Pairs S w v x) (k : ∀ b, S b → T b) : Pairs T w v x := Fl.mono h k
theorem Trips.mono {w : World} {v : Value} {x : List (Int × Int × Int)} (h : Trips S w v x) (k : ∀ b, S b → T b) : Trips T w v x := Fl.mono h k
theorem Bytes.mono {w : World} {v : Value} {x : List UInt8} (h : Bytes S w v x) (k : ∀ b, S b → T b) : Bytes T w v x := Fl.mono h k
theorem Strs.mono {w : World} {v : Value} {x : List ByteArray} (h : Strs S w v x) (k : ∀ b, S b → T b) : Strs T w v x := ⟨Fl.mono h.1 k, h.2⟩
theorem Ints.inHeap {w : World} {v : Value} {x : List Int} (h : Ints S w v x) : Ints (fun b => S b ∧ b < w.heap.size) w v x := Fl.inHeap h
theorem Bools.inHeap {w : World} {v : Value} {x : List Bool} (h : Bools S w v x) : Bools (fun b => S b ∧ b < w.heap.size) w v x := Fl.inHeap h
theorem Pairs.inHeap {w : World} {v : Value} {x : List (Int × Int)} (h : Pairs S w v x) : Pairs (fun b => S b ∧ b < w.heap.size) w v x := Fl.inHeap h
theorem Trips.inHeap {w : World} {v : Value} {x : List (Int × Int × Int)} (h : Trips S w v x) : Trips (fun b => S b ∧ b < w.heap.size) w v x := Fl.inHeap h
theorem Strs.inHeap {w : World} {v : Value} {x : List ByteArray} (h : Strs S w v x) : Strs (fun b => S b ∧ b < w.heap.size) w v x := ⟨Fl.inHeap h.1, h.2⟩
theorem IntSS.inHeap {w : World} {v : Value} {x : List (List Int)} (h : IntSS S w v x) : IntSS (fun b => S b ∧ b < w.heap.size) w v x := by
  obtain ⟨vs, h1, h2, h3⟩ := h
  exact ⟨vs, h1.inHeap, h2, fun i hi => Fl.inHeap (h3 i hi)⟩
theorem DfaR.inHeap {w : World} {vn ve : Value} {D : DfaD} (h : DfaR S w vn ve D) : DfaR (fun b => S b ∧ b < w.heap.size) w vn ve D := ⟨h.1.inHeap, Fl.inHeap h.2⟩
theorem Ints.at {w : World} {a : Option Addr} {n cap : Nat} {xs : List Int} (h : Ints S w (.slice a n cap) xs) {k : Nat} (hk : k < xs.length) :
    ∃ b off, a = some ⟨b, off, none⟩ ∧ w.cell? ⟨b, off + k, none⟩ = some (.int .i64 xs[k]) := by
  obtain ⟨b, off, e, c⟩ := Fl.at h (i := k) (by simpa using hk)
  exact ⟨b, off, e, by simpa using c⟩
theorem Bools.at {w : World} {a : Option Addr} {n cap : Nat} {xs : List Bool} (h : Bools S w (.slice a n cap) xs) {k : Nat} (hk : k < xs.length) :
    ∃ b off, a = some ⟨b, off, none⟩ ∧ w.cell? ⟨b, off + k, none⟩ = some (.bool xs[k]) := by
  obtain ⟨b, off, e, c⟩ := Fl.at h (i := k) (by simpa using hk)
  exact ⟨b, off, e, by simpa using c⟩
theorem Bytes.at {w : World} {a : Option Addr} {n cap : Nat} {xs : List UInt8} (h : Bytes S w (.slice a n cap) xs) {k : Nat} (hk : k < xs.length) :
    ∃ b off, a = some ⟨b, off, none⟩ ∧ w.cell? ⟨b, off + k, none⟩ = some (.int .u8 xs[k].toNat) := by
  obtain ⟨b, off, e, c⟩ := Fl.at h (i := k) (by simpa using hk)
  exact ⟨b, off, e, by simpa using c⟩
theorem Strs.at {w : World} {a : Option Addr} {n cap : Nat} {xs : List ByteArray} (h : Strs S w (.slice a n cap) xs) {k : Nat} (hk : k < xs.length) :
    ∃ b off, a = some ⟨b, off, none⟩ ∧ w.cell? ⟨b, off + k, none⟩ = some (.string xs[k]) := by
  obtain ⟨b, off, e, c⟩ := Fl.at h.1 (i := k) (by simpa using hk)
  exact ⟨b, off, e, by simpa using c⟩
theorem IntSS.at {w : World} {a : Option Addr} {n cap : Nat} {xss : List (List Int)} (h : IntSS S w (.slice a n cap) xss) {k : Nat} (hk : k < xss.length) :
    ∃ b off v, a = some ⟨b, off, none⟩ ∧ w.cell? ⟨b, off + k, none⟩ = some v ∧ Ints S w v xss[k] := by
  obtain ⟨vs, h1, h2, h3⟩ := h
  obtain ⟨b, off, e, c⟩ := Fl.at h1 (i := k) (by omega)
  refine ⟨b, off, _, e, c, ?_⟩
  have := h3 k hk
  rwa [List.getD_eq_getElem?_getD, List.getElem?_eq_getElem (by omega)] at this

theorem length_cells2 (xs : List (Int × Int)) : (cells2 xs).length = 2 * xs.length := by
  unfold cells2; induction xs with
  | nil => rfl
  | cons p t ih => simp only [List.flatMap_cons, List.length_append, ih, List.length_cons, List.length_nil]; omega
theorem length_cells3 (xs : List (Int × Int × Int)) : (cells3 xs).length = 3 * xs.length := by
  unfold cells3; induction xs with
  | nil => rfl
  | cons p t ih => simp only [List.flatMap_cons, List.length_append, ih, List.length_cons, List.length_nil]; omega
theorem length_flat2 (xs : List (Value × Value)) : (xs.flatMap fun p => [p.1, p.2]).length = 2 * xs.length := by
  induction xs with
  | nil => rfl
  | cons p t ih => simp only [List.flatMap_cons, List.length_append, ih, List.length_cons, List.length_nil]; omega
theorem flat2_at {α β : Type} (f g : α → β) (xs : List α) (k : Nat) (h : k < xs.length) :
    (xs.flatMap fun p => [f p, g p])[2 * k]? = some (f xs[k]) ∧ (xs.flatMap fun p => [f p, g p])[2 * k + 1]? = some (g xs[k]) := by
  induction xs generalizing k with
  | nil => simp at h
  | cons p t ih =>
    cases k with
    | zero => simp
    | succ k =>
      have := ih k (by simpa using h)
      simp only [List.flatMap_cons, show 2 * (k + 1) = 2 * k + 2 by omega, show 2 * k + 2 + 1 = (2 * k + 1) + 2 by omega]
      simpa using this
theorem flat3_at {α β : Type} (f g i : α → β) (xs : List α) (k : Nat) (h : k < xs.length) :
    (xs.flatMap fun p => [f p, g p, i p])[3 * k]? = some (f xs[k]) ∧ (xs.flatMap fun p => [f p, g p, i p])[3 * k + 1]? = some (g xs[k]) ∧ (xs.flatMap fun p => [f p, g p, i p])[3 * k + 2]? = some (i xs[k]) := by
  induction xs generalizing k with
  | nil => simp at h
  | cons p t ih =>
    cases k with
    | zero => simp
    | succ k =>
      have := ih k (by simpa using h)
      simp only [List.flatMap_cons, show 3 * (k + 1) = 3 * k + 3 by omega, show 3 * k + 3 + 1 = (3 * k + 1) + 3 by omega, show 3 * k + 3 + 2 = (3 * k + 2) + 3 by omega]
      simpa using this

theorem Pairs.at {w : World} {a : Option Addr} {n cap : Nat} {xs : List (Int × Int)} (h : Pairs S w (.slice a n cap) xs) {k : Nat} (hk : k < xs.length) :
    ∃ b off, a = some ⟨b, off, none⟩ ∧ w.cell? ⟨b, off + k * 2, none⟩ = some (.int .i64 xs[k].1) ∧ w.cell? ⟨b, off + k * 2 + 1, none⟩ = some (.int .i64 xs[k].2) := by
  have hl := length_cells2 xs
  obtain ⟨b, off, e, c0, c1⟩ := Fl.at2 h (i := 2 * k) (by omega)
  obtain ⟨e0, e1⟩ := flat2_at (fun p : Int × Int => Value.int .i64 p.1) (fun p => Value.int .i64 p.2) xs k hk
  refine ⟨b, off, e, ?_, ?_⟩
  · rw [Nat.mul_comm k 2, c0]; rw [← e0]; exact (List.getElem?_eq_getElem _).symm
  · rw [Nat.mul_comm k 2, c1]; rw [← e1]; exact (List.getElem?_eq_getElem _).symm
theorem Trips.at {w : World} {a : Option Addr} {n cap : Nat} {xs : List (Int × Int × Int)} (h : Trips S w (.slice a n cap) xs) {k : Nat} (hk : k < xs.length) :
    ∃ b off, a = some ⟨b, off, none⟩ ∧ w.cell? ⟨b, off + k * 3, none⟩ = some (.int .i64 xs[k].1) ∧ w.cell? ⟨b, off + k * 3 + 1, none⟩ = some (.int .i64 xs[k].2.1) ∧ w.cell? ⟨b, off + k * 3 + 2, none⟩ = some (.int .i64 xs[k].2.2) := by
  have hl := length_cells3 xs
  obtain ⟨b, off, e, c0, c1, c2⟩ := Fl.at3 h (i := 3 * k) (by omega)
  obtain ⟨e0, e1, e2⟩ := flat3_at (fun p : Int × Int × Int => Value.int .i64 p.1) (fun p => Value.int .i64 p.2.1) (fun p => Value.int .i64 p.2.2) xs k hk
  refine ⟨b, off, e, ?_, ?_, ?_⟩
  · rw [Nat.mul_comm k 3, c0]; rw [← e0]; exact (List.getElem?_eq_getElem _).symm
  · rw [Nat.mul_comm k 3, c1]; rw [← e1]; exact (List.getElem?_eq_getElem _).symm
  · rw [Nat.mul_comm k 3, c2]; rw [← e2]; exact (List.getElem?_eq_getElem _).symm
theorem DfaS.at {w : World} {a : Option Addr} {n cap : Nat} {xs : List DfaD} (h : DfaS S w (.slice a n cap) xs) {k : Nat} (hk : k < xs.length) :
    ∃ b off vn ve, a = some ⟨b, off, none⟩ ∧ w.cell? ⟨b, off + k * 2, none⟩ = some vn ∧ w.cell? ⟨b, off + k * 2 + 1, none⟩ = some ve ∧ DfaR S w vn ve xs[k] := by
  obtain ⟨vs, h1, h2, h3⟩ := h
  have hl := length_flat2 vs
  obtain ⟨b, off, e, c0, c1⟩ := Fl.at2 h1 (i := 2 * k) (by omega)
  obtain ⟨e0, e1⟩ := flat2_at (fun p : Value × Value => p.1) (fun p => p.2) vs k (by omega)
  have hk' : k < vs.length := by omega
  refine ⟨b, off, vs[k].1, vs[k].2, e, ?_, ?_, ?_⟩
  · rw [Nat.mul_comm k 2, c0]; rw [← e0]; exact (List.getElem?_eq_getElem _).symm
  · rw [Nat.mul_comm k 2, c1]; rw [← e1]; exact (List.getElem?_eq_getElem _).symm
  · have := h3 k hk
    rwa [List.getD_eq_getElem?_getD, List.getElem?_eq_getElem hk'] at this

theorem Ints.shape {w : World} {v : Value} {xs : List Int} (h : Ints S w v xs) : ∃ a cap, v = .slice a xs.length cap ∧ xs.length ≤ 9223372036854775807 := Fl.shape h
theorem Bools.shape {w : World} {v : Value} {xs : List Bool} (h : Bools S w v xs) : ∃ a cap, v = .slice a xs.length cap ∧ xs.length ≤ 9223372036854775807 := Fl.shape h
theorem Bytes.shape {w : World} {v : Value} {xs : List UInt8} (h : Bytes S w v xs) : ∃ a cap, v = .slice a xs.length cap ∧ xs.length ≤ 9223372036854775807 := Fl.shape h
theorem Strs.shape {w : World} {v : Value} {xs : List ByteArray} (h : Strs S w v xs) : ∃ a cap, v = .slice a xs.length cap ∧ xs.length ≤ 9223372036854775807 := Fl.shape h.1
theorem Pairs.shape {w : World} {v : Value} {xs : List (Int × Int)} (h : Pairs S w v xs) : ∃ a cap, v = .slice a xs.length cap ∧ xs.length ≤ 9223372036854775807 := Fl.shape h
theorem Trips.shape {w : World} {v : Value} {xs : List (Int × Int × Int)} (h : Trips S w v xs) : ∃ a cap, v = .slice a xs.length cap ∧ xs.length ≤ 9223372036854775807 := Fl.shape h
theorem IntSS.shape {w : World} {v : Value} {xs : List (List Int)} (h : IntSS S w v xs) : ∃ a cap, v = .slice a xs.length cap ∧ xs.length ≤ 9223372036854775807 := let ⟨_, h1, _⟩ := h; Fl.shape h1
theorem DfaS.shape {w : World} {v : Value} {xs : List DfaD} (h : DfaS S w v xs) : ∃ a cap, v = .slice a xs.length cap ∧ xs.length ≤ 9223372036854775807 := let ⟨_, h1, _⟩ := h; Fl.shape h1
end Go.Proofs.Ytgihihnbapnnjaa

/- What memory holds, as data: slices of ints, bools, bytes, strings, parts, moves, spans, tokens, slices of slices of ints, automata. No condition. -/
import Derived.Test.YtdkneilgaoaajaaBas
namespace Go.Proofs.Ytdkneilgaoaajaa
open Go.RowKit

/-- The slice v has n elements, whose cells are cs. -/
def Fl (w : World) (v : Value) (n : Nat) (cs : List Value) : Prop :=
  ∃ a cap, v = .slice a n cap ∧ n ≤ maxLen ∧ ∀ i (h : i < cs.length), ∃ b off, a = some ⟨b, off, none⟩ ∧ w.cell? ⟨b, off + i, none⟩ = some cs[i]

/-- Every cell of w reads the same in w'. -/
def Kp (w w' : World) : Prop := ∀ ad v, w.cell? ad = some v → w'.cell? ad = some v

theorem Kp.refl (w : World) : Kp w w := fun _ _ h => h
theorem Kp.trans {a b c : World} (h : Kp a b) (k : Kp b c) : Kp a c := fun ad v e => k ad v (h ad v e)
theorem kpB {w w' : World} (h : Below w.heap.size w w') : Kp w w' := fun ad v e => by
  rw [h.cell (World.block_lt_of_cell? w ad e)]; exact e

theorem Fl.stay {w w' : World} {v : Value} {n : Nat} {cs : List Value} (h : Fl w v n cs) (k : Kp w w') : Fl w' v n cs := by
  obtain ⟨a, cap, rfl, hn, hc⟩ := h
  exact ⟨a, cap, rfl, hn, fun i hi => let ⟨b, off, e, c⟩ := hc i hi; ⟨b, off, e, k _ _ c⟩⟩

theorem Fl.shape {w : World} {v : Value} {n : Nat} {cs : List Value} (h : Fl w v n cs) : ∃ a cap, v = .slice a n cap ∧ n ≤ 9223372036854775807 := by
  obtain ⟨a, cap, rfl, hn, hc⟩ := h
  exact ⟨a, cap, rfl, by simpa [maxLen] using hn⟩

theorem Fl.at {w : World} {a : Option Addr} {n m cap : Nat} {cs : List Value} (h : Fl w (.slice a n cap) m cs) {i : Nat} (hi : i < cs.length) :
    ∃ b off, a = some ⟨b, off, none⟩ ∧ w.cell? ⟨b, off + i, none⟩ = some cs[i] := by
  obtain ⟨a', cap', e, hn, hc⟩ := h
  cases e
  exact hc i hi

theorem Fl.nil (w : World) : Fl w (.slice none 0 0) 0 [] := ⟨none, 0, rfl, Nat.zero_le _, fun i hi => absurd hi (Nat.not_lt_zero _)⟩

/-- Two cells of one slice. -/
theorem Fl.at2 {w : World} {a : Option Addr} {n m cap : Nat} {cs : List Value} (h : Fl w (.slice a n cap) m cs) {i : Nat} (hi : i + 1 < cs.length) :
    ∃ b off, a = some ⟨b, off, none⟩ ∧ w.cell? ⟨b, off + i, none⟩ = some cs[i] ∧ w.cell? ⟨b, off + i + 1, none⟩ = some cs[i+1] := by
  obtain ⟨b, off, rfl, h0⟩ := h.at (i := i) (by omega)
  obtain ⟨b', off', e, h1⟩ := h.at (i := i + 1) hi
  cases e
  exact ⟨b, off, rfl, h0, h1⟩

theorem Fl.at3 {w : World} {a : Option Addr} {n m cap : Nat} {cs : List Value} (h : Fl w (.slice a n cap) m cs) {i : Nat} (hi : i + 2 < cs.length) :
    ∃ b off, a = some ⟨b, off, none⟩ ∧ w.cell? ⟨b, off + i, none⟩ = some cs[i] ∧ w.cell? ⟨b, off + i + 1, none⟩ = some cs[i+1] ∧ w.cell? ⟨b, off + i + 2, none⟩ = some cs[i+2] := by
  obtain ⟨b, off, rfl, h0⟩ := h.at (i := i) (by omega)
  obtain ⟨b', off', e, h1⟩ := h.at (i := i + 1) (by omega)
  cases e
  obtain ⟨b', off', e, h2⟩ := h.at (i := i + 2) (by omega)
  cases e
  exact ⟨b, off, rfl, h0, h1, h2⟩

def Ints (w : World) (v : Value) (xs : List Int) : Prop := Fl w v xs.length (xs.map (.int .i64 ·))
def Bools (w : World) (v : Value) (xs : List Bool) : Prop := Fl w v xs.length (xs.map .bool)
def Bytes (w : World) (v : Value) (xs : List UInt8) : Prop := Fl w v xs.length (xs.map fun b => .int .u8 b.toNat)
def Strs (w : World) (v : Value) (xs : List ByteArray) : Prop := Fl w v xs.length (xs.map .string) ∧ ∀ s ∈ xs, s.size ≤ maxLen
def cells2 (xs : List (Int × Int)) : List Value := xs.flatMap fun p => [.int .i64 p.1, .int .i64 p.2]
def cells3 (xs : List (Int × Int × Int)) : List Value := xs.flatMap fun p => [.int .i64 p.1, .int .i64 p.2.1, .int .i64 p.2.2]
def Pairs (w : World) (v : Value) (xs : List (Int × Int)) : Prop := Fl w v xs.length (cells2 xs)
def Trips (w : World) (v : Value) (xs : List (Int × Int × Int)) : Prop := Fl w v xs.length (cells3 xs)
def IntSS (w : World) (v : Value) (xss : List (List Int)) : Prop :=
  ∃ vs : List Value, Fl w v xss.length vs ∧ vs.length = xss.length ∧ ∀ i (h : i < xss.length), Ints w (vs.getD i undef) xss[i]
abbrev DfaD := List (List Int) × List Bool
def DfaR (w : World) (vn ve : Value) (D : DfaD) : Prop := IntSS w vn D.1 ∧ Bools w ve D.2
structure NfaD where
  states : Int
  moves : List (Int × Int × Int)
  firsts : List Int
  ends : List Int
def NfaR (w : World) (vm vf ve : Value) (D : NfaD) : Prop := Trips w vm D.moves ∧ Ints w vf D.firsts ∧ Ints w ve D.ends
/-- A slice of automata: two cells each. -/
def DfaS (w : World) (v : Value) (Ds : List DfaD) : Prop :=
  ∃ vs : List (Value × Value), Fl w v Ds.length (vs.flatMap fun p => [p.1, p.2]) ∧ vs.length = Ds.length ∧ ∀ i (h : i < Ds.length), DfaR w (vs.getD i (undef, undef)).1 (vs.getD i (undef, undef)).2 Ds[i]

theorem IntSS.stay {w w' : World} {v : Value} {x : List (List Int)} (h : IntSS w v x) (k : Kp w w') : IntSS w' v x := by
  obtain ⟨vs, h1, h2, h3⟩ := h
  exact ⟨vs, h1.stay k, h2, fun i hi => Fl.stay (h3 i hi) k⟩
theorem DfaR.stay {w w' : World} {vn ve : Value} {D : DfaD} (h : DfaR w vn ve D) (k : Kp w w') : DfaR w' vn ve D := ⟨h.1.stay k, Fl.stay h.2 k⟩
theorem NfaR.stay {w w' : World} {a b c : Value} {D : NfaD} (h : NfaR w a b c D) (k : Kp w w') : NfaR w' a b c D := ⟨Fl.stay h.1 k, Fl.stay h.2.1 k, Fl.stay h.2.2 k⟩
theorem Ints.stay {w w' : World} {v : Value} {x : List Int} (h : Ints w v x) (k : Kp w w') : Ints w' v x := Fl.stay h k
theorem Bools.stay {w w' : World} {v : Value} {x : List Bool} (h : Bools w v x) (k : Kp w w') : Bools w' v x := Fl.stay h k
theorem Pairs.stay {w w' : World} {v : Value} {x : List (Int × Int)} (h : Pairs w v x) (k : Kp w w') : Pairs w' v x := Fl.stay h k
theorem Trips.stay {w w' : World} {v : Value} {x : List (Int × Int × Int)} (h : Trips w v x) (k : Kp w w') : Trips w' v x := Fl.stay h k
theorem Bytes.stay {w w' : World} {v : Value} {x : List UInt8} (h : Bytes w v x) (k : Kp w w') : Bytes w' v x := Fl.stay h k
theorem Strs.stay {w w' : World} {v : Value} {x : List ByteArray} (h : Strs w v x) (k : Kp w w') : Strs w' v x := ⟨Fl.stay h.1 k, h.2⟩
theorem DfaS.stay {w w' : World} {v : Value} {x : List DfaD} (h : DfaS w v x) (k : Kp w w') : DfaS w' v x := by
  obtain ⟨vs, h1, h2, h3⟩ := h
  exact ⟨vs, h1.stay k, h2, fun i hi => (h3 i hi).stay k⟩

theorem Ints.at {w : World} {a : Option Addr} {n cap : Nat} {xs : List Int} (h : Ints w (.slice a n cap) xs) {k : Nat} (hk : k < xs.length) :
    ∃ b off, a = some ⟨b, off, none⟩ ∧ w.cell? ⟨b, off + k, none⟩ = some (.int .i64 xs[k]) := by
  obtain ⟨b, off, e, c⟩ := Fl.at h (i := k) (by simpa using hk)
  exact ⟨b, off, e, by simpa using c⟩
theorem Bools.at {w : World} {a : Option Addr} {n cap : Nat} {xs : List Bool} (h : Bools w (.slice a n cap) xs) {k : Nat} (hk : k < xs.length) :
    ∃ b off, a = some ⟨b, off, none⟩ ∧ w.cell? ⟨b, off + k, none⟩ = some (.bool xs[k]) := by
  obtain ⟨b, off, e, c⟩ := Fl.at h (i := k) (by simpa using hk)
  exact ⟨b, off, e, by simpa using c⟩
theorem Bytes.at {w : World} {a : Option Addr} {n cap : Nat} {xs : List UInt8} (h : Bytes w (.slice a n cap) xs) {k : Nat} (hk : k < xs.length) :
    ∃ b off, a = some ⟨b, off, none⟩ ∧ w.cell? ⟨b, off + k, none⟩ = some (.int .u8 xs[k].toNat) := by
  obtain ⟨b, off, e, c⟩ := Fl.at h (i := k) (by simpa using hk)
  exact ⟨b, off, e, by simpa using c⟩
theorem Strs.at {w : World} {a : Option Addr} {n cap : Nat} {xs : List ByteArray} (h : Strs w (.slice a n cap) xs) {k : Nat} (hk : k < xs.length) :
    ∃ b off, a = some ⟨b, off, none⟩ ∧ w.cell? ⟨b, off + k, none⟩ = some (.string xs[k]) := by
  obtain ⟨b, off, e, c⟩ := Fl.at h.1 (i := k) (by simpa using hk)
  exact ⟨b, off, e, by simpa using c⟩
theorem IntSS.at {w : World} {a : Option Addr} {n cap : Nat} {xss : List (List Int)} (h : IntSS w (.slice a n cap) xss) {k : Nat} (hk : k < xss.length) :
    ∃ b off v, a = some ⟨b, off, none⟩ ∧ w.cell? ⟨b, off + k, none⟩ = some v ∧ Ints w v xss[k] := by
  obtain ⟨vs, h1, h2, h3⟩ := h
  obtain ⟨b, off, e, c⟩ := Fl.at h1 (i := k) (by omega)
  refine ⟨b, off, _, e, c, ?_⟩
  have := h3 k hk
  rwa [List.getD_eq_getElem?_getD, List.getElem?_eq_getElem (by omega)] at this

theorem length_cells2 (xs : List (Int × Int)) : (cells2 xs).length = 2 * xs.length := by
  unfold cells2; induction xs with
  | nil => rfl
  | cons p t ih => simp only [List.flatMap_cons, List.length_append, ih, List.length_cons, List.length_nil]; omega
theorem length_cells3 (xs : List (Int × Int × Int)) : (cells3 xs).length = 3 * xs.length := by
  unfold cells3; induction xs with
  | nil => rfl
  | cons p t ih => simp only [List.flatMap_cons, List.length_append, ih, List.length_cons, List.length_nil]; omega
theorem length_flat2 (xs : List (Value × Value)) : (xs.flatMap fun p => [p.1, p.2]).length = 2 * xs.length := by
  induction xs with
  | nil => rfl
  | cons p t ih => simp only [List.flatMap_cons, List.length_append, ih, List.length_cons, List.length_nil]; omega
theorem flat2_at {α β : Type} (f g : α → β) (xs : List α) (k : Nat) (h : k < xs.length) :
    (xs.flatMap fun p => [f p, g p])[2 * k]? = some (f xs[k]) ∧ (xs.flatMap fun p => [f p, g p])[2 * k + 1]? = some (g xs[k]) := by
  induction xs generalizing k with
  | nil => simp at h
  | cons p t ih =>
    cases k with
    | zero => simp
    | succ k =>
      have := ih k (by simpa using h)
      simp only [List.flatMap_cons, show 2 * (k + 1) = 2 * k + 2 by omega, show 2 * k + 2 + 1 = (2 * k + 1) + 2 by omega]
      simpa using this
theorem flat3_at {α β : Type} (f g i : α → β) (xs : List α) (k : Nat) (h : k < xs.length) :
    (xs.flatMap fun p => [f p, g p, i p])[3 * k]? = some (f xs[k]) ∧ (xs.flatMap fun p => [f p, g p, i p])[3 * k + 1]? = some (g xs[k]) ∧ (xs.flatMap fun p => [f p, g p, i p])[3 * k + 2]? = some (i xs[k]) := by
  induction xs generalizing k with
  | nil => simp at h
  | cons p t ih =>
    cases k with
    | zero => simp
    | succ k =>
      have := ih k (by simpa using h)
      simp only [List.flatMap_cons, show 3 * (k + 1) = 3 * k + 3 by omega, show 3 * k + 3 + 1 = (3 * k + 1) + 3 by omega, show 3 * k + 3 + 2 = (3 * k + 2) + 3 by omega]
      simpa using this

theorem Pairs.at {w : World} {a : Option Addr} {n cap : Nat} {xs : List (Int × Int)} (h : Pairs w (.slice a n cap) xs) {k : Nat} (hk : k < xs.length) :
    ∃ b off, a = some ⟨b, off, none⟩ ∧ w.cell? ⟨b, off + k * 2, none⟩ = some (.int .i64 xs[k].1) ∧ w.cell? ⟨b, off + k * 2 + 1, none⟩ = some (.int .i64 xs[k].2) := by
  have hl := length_cells2 xs
  obtain ⟨b, off, e, c0, c1⟩ := Fl.at2 h (i := 2 * k) (by omega)
  obtain ⟨e0, e1⟩ := flat2_at (fun p : Int × Int => Value.int .i64 p.1) (fun p => Value.int .i64 p.2) xs k hk
  refine ⟨b, off, e, ?_, ?_⟩
  · rw [Nat.mul_comm k 2, c0]; rw [← e0]; exact (List.getElem?_eq_getElem _).symm
  · rw [Nat.mul_comm k 2, c1]; rw [← e1]; exact (List.getElem?_eq_getElem _).symm
theorem Trips.at {w : World} {a : Option Addr} {n cap : Nat} {xs : List (Int × Int × Int)} (h : Trips w (.slice a n cap) xs) {k : Nat} (hk : k < xs.length) :
    ∃ b off, a = some ⟨b, off, none⟩ ∧ w.cell? ⟨b, off + k * 3, none⟩ = some (.int .i64 xs[k].1) ∧ w.cell? ⟨b, off + k * 3 + 1, none⟩ = some (.int .i64 xs[k].2.1) ∧ w.cell? ⟨b, off + k * 3 + 2, none⟩ = some (.int .i64 xs[k].2.2) := by
  have hl := length_cells3 xs
  obtain ⟨b, off, e, c0, c1, c2⟩ := Fl.at3 h (i := 3 * k) (by omega)
  obtain ⟨e0, e1, e2⟩ := flat3_at (fun p : Int × Int × Int => Value.int .i64 p.1) (fun p => Value.int .i64 p.2.1) (fun p => Value.int .i64 p.2.2) xs k hk
  refine ⟨b, off, e, ?_, ?_, ?_⟩
  · rw [Nat.mul_comm k 3, c0]; rw [← e0]; exact (List.getElem?_eq_getElem _).symm
  · rw [Nat.mul_comm k 3, c1]; rw [← e1]; exact (List.getElem?_eq_getElem _).symm
  · rw [Nat.mul_comm k 3, c2]; rw [← e2]; exact (List.getElem?_eq_getElem _).symm
theorem DfaS.at {w : World} {a : Option Addr} {n cap : Nat} {xs : List DfaD} (h : DfaS w (.slice a n cap) xs) {k : Nat} (hk : k < xs.length) :
    ∃ b off vn ve, a = some ⟨b, off, none⟩ ∧ w.cell? ⟨b, off + k * 2, none⟩ = some vn ∧ w.cell? ⟨b, off + k * 2 + 1, none⟩ = some ve ∧ DfaR w vn ve xs[k] := by
  obtain ⟨vs, h1, h2, h3⟩ := h
  have hl := length_flat2 vs
  obtain ⟨b, off, e, c0, c1⟩ := Fl.at2 h1 (i := 2 * k) (by omega)
  obtain ⟨e0, e1⟩ := flat2_at (fun p : Value × Value => p.1) (fun p => p.2) vs k (by omega)
  have hk' : k < vs.length := by omega
  refine ⟨b, off, vs[k].1, vs[k].2, e, ?_, ?_, ?_⟩
  · rw [Nat.mul_comm k 2, c0]; rw [← e0]; exact (List.getElem?_eq_getElem _).symm
  · rw [Nat.mul_comm k 2, c1]; rw [← e1]; exact (List.getElem?_eq_getElem _).symm
  · have := h3 k hk
    rwa [List.getD_eq_getElem?_getD, List.getElem?_eq_getElem hk'] at this

theorem Ints.shape {w : World} {v : Value} {xs : List Int} (h : Ints w v xs) : ∃ a cap, v = .slice a xs.length cap ∧ xs.length ≤ 9223372036854775807 := Fl.shape h
theorem Bools.shape {w : World} {v : Value} {xs : List Bool} (h : Bools w v xs) : ∃ a cap, v = .slice a xs.length cap ∧ xs.length ≤ 9223372036854775807 := Fl.shape h
theorem Bytes.shape {w : World} {v : Value} {xs : List UInt8} (h : Bytes w v xs) : ∃ a cap, v = .slice a xs.length cap ∧ xs.length ≤ 9223372036854775807 := Fl.shape h
theorem Strs.shape {w : World} {v : Value} {xs : List ByteArray} (h : Strs w v xs) : ∃ a cap, v = .slice a xs.length cap ∧ xs.length ≤ 9223372036854775807 := Fl.shape h.1
theorem Pairs.shape {w : World} {v : Value} {xs : List (Int × Int)} (h : Pairs w v xs) : ∃ a cap, v = .slice a xs.length cap ∧ xs.length ≤ 9223372036854775807 := Fl.shape h
theorem Trips.shape {w : World} {v : Value} {xs : List (Int × Int × Int)} (h : Trips w v xs) : ∃ a cap, v = .slice a xs.length cap ∧ xs.length ≤ 9223372036854775807 := Fl.shape h
theorem IntSS.shape {w : World} {v : Value} {xs : List (List Int)} (h : IntSS w v xs) : ∃ a cap, v = .slice a xs.length cap ∧ xs.length ≤ 9223372036854775807 := let ⟨_, h1, _⟩ := h; Fl.shape h1
theorem DfaS.shape {w : World} {v : Value} {xs : List DfaD} (h : DfaS w v xs) : ∃ a cap, v = .slice a xs.length cap ∧ xs.length ≤ 9223372036854775807 := let ⟨_, h1, _⟩ := h; Fl.shape h1
end Go.Proofs.Ytdkneilgaoaajaa

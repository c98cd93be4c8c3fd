/- append of one element to a slice of the call's own. Slices of at most 10^9 elements. -/
import Derived.Test.YtgihihnbapnnjaaRdg
import Derived.Lib.AppendZeros
import Derived.Laws.AppendOwnNone
import Derived.OwnWalk
namespace Go.Proofs.Ytgihihnbapnnjaa
open Go.RowKit
set_option maxRecDepth 100000

/-- Slice type t has elements e of sz cells and by bytes. -/
structure ElemT (t e : TypeId) (sz bytes : Nat) : Prop where
  ul : Try.prog.underlying t = some (.slice e)
  inf : ∃ i z, Try.prog.info? e = some i ∧ i.zero = some z ∧ i.size = sz ∧ i.bytes = bytes ∧ z.cells.size = sz
  pos : 0 < sz

theorem ElemT.of {t e : TypeId} {sz bytes : Nat} {z : Value} (ul : Try.prog.underlying t = some (.slice e)) (h : (Try.prog.info? e).map (fun i => (i.zero, i.size, i.bytes)) = some (some z, sz, bytes)) (hz : z.cells.size = sz) (hp : 0 < sz) : ElemT t e sz bytes := by
  refine ⟨ul, ?_, hp⟩
  cases hi : Try.prog.info? e with
  | none => rw [hi] at h; simp at h
  | some i =>
    rw [hi] at h
    simp at h
    exact ⟨i, z, rfl, h.1, h.2.1, h.2.2, hz⟩

theorem appOne {t e : TypeId} {sz bytes : Nat} (E : ElemT t e sz bytes) (hby : bytes ≤ 100) {ops : Array Oper} {rest : List Oper} {o : Oper} {a : Act} {Q : Exit → Act → World → Prop} (hgd : o.guard = none) (s x : Operand)
    (ho : o.op = .call { callee := .builtin .append, args := #[s, x], argTypes := #[t, t] })
    (base : Nat) (v : Value) (n : Nat) (xs news : List Value) (w : World) (hs : a.eval s = v) (hx : a.eval x = .slice (some ⟨w.heap.size, 0, none⟩) 1 1)
    (hown : w.ownsRow base e sz v n xs) (hl : news.length = sz) (h1 : ∀ u ∈ news, u.oneCell' = true) (hn : n ≤ 1000000000) (hbase : base ≤ w.heap.size)
    (h : ∀ v' w', w'.ownsRow base e sz v' (n + 1) (xs ++ news) → (w.alloc (.cells news.toArray e)).grownBy w' v.ownBlock → v' ≠ .slice none 0 0 → wpList Try.prog ops Q rest (a.put o.dst v') w') :
    wpList Try.prog ops Q (o :: rest) a (w.alloc (.cells news.toArray e)) := by
  obtain ⟨i, z, hi, hz, h2, h3, h4⟩ := E.inf
  refine wpList_append_own (P := Try.prog) _ hgd s x t ho base e i z sz bytes E.ul hi hz h2 h3 h4 E.pos v n xs hs (hown.alloc _) ⟨w.heap.size, 0, none⟩ 1 1 news hx (by omega) ?_ h1 ?_ ?_ ?_ ?_
  · intro j u hu
    rw [Addr.add_lit, Nat.zero_add]
    rw [World.cell?_alloc_mark]
    simpa using hu
  · unfold maxLen; omega
  · have : (n + 1) * bytes ≤ 1000000001 * 100 := Nat.mul_le_mul (by omega) hby
    omega
  · simp; omega
  · intro v' w' k1 k2 k3
    exact h v' w' k1 k2 (fun e => by have := (k3.1 e).2; omega)

/-- What a call owns can be read, and written. -/
theorem ownFl {w : World} {base : Nat} {e : TypeId} {sz : Nat} {v : Value} {n : Nat} {cs : List Value} (h : w.ownsRow base e sz v n cs) : FlW (base ≤ ·) w v n cs := by
  obtain ⟨hl, h⟩ := h
  rcases h with ⟨rfl, rfl⟩ | ⟨g, cap, cur, rfl, hb, hg, hnc, hcm, hcs, ht⟩
  · have : cs = [] := List.eq_nil_of_length_eq_zero (by simpa using hl)
    subst this
    exact ⟨none, 0, rfl, ⟨Nat.zero_le _, Nat.le_refl _, fun _ => rfl⟩, fun i hi => absurd hi (Nat.not_lt_zero _)⟩
  · refine ⟨_, cap, rfl, ⟨by omega, hnc, by simp⟩, fun i hi => ⟨g, 0, rfl, hb, ?_, fun o => ?_⟩⟩
    · rw [Nat.zero_add, cell_of_row w g i cur e (0, 0) hg]
      have hi' : i < cur.size := by
        rw [hcs]; rw [hl] at hi; exact Nat.lt_of_lt_of_le hi (Nat.mul_le_mul_right _ hnc)
      simp only [← ht]
      rw [Array.getElem?_eq_getElem hi', List.getElem_take]
      simp
    · simp [World.frozen?, hg]
theorem ownBase {w : World} {base base' : Nat} {e : TypeId} {sz : Nat} {v : Value} {n : Nat} {cs : List Value} (h : w.ownsRow base e sz v n cs) (hb : base' ≤ base) : w.ownsRow base' e sz v n cs := by
  obtain ⟨hl, h⟩ := h
  refine ⟨hl, ?_⟩
  rcases h with h | ⟨g, cap, cur, hv, hb', r⟩
  · exact .inl h
  · exact .inr ⟨g, cap, cur, hv, by omega, r⟩
theorem ownStay {w w' : World} {base : Nat} {e : TypeId} {sz : Nat} {v : Value} {n : Nat} {cs : List Value} (h : w.ownsRow base e sz v n cs) (k : Below w.heap.size w w') : w'.ownsRow base e sz v n cs :=
  h.kept (row := none) (grownBel k) (by cases hv : v.ownBlock <;> simp)
/-- In one new block of its own. -/
def Made (B : Nat) (w' : World) (v : Value) (n : Nat) (cs : List Value) : Prop := ∃ g, B ≤ g ∧ g < w'.heap.size ∧ FlW (· = g) w' v n cs
theorem Made.flw {B : Nat} {w : World} {v : Value} {n : Nat} {cs : List Value} (h : Made B w v n cs) : FlW (B ≤ ·) w v n cs := by
  obtain ⟨g, h1, _, h3⟩ := h
  exact h3.mono (fun b e => by subst e; exact h1)
theorem Made.fl {B : Nat} {w : World} {v : Value} {n : Nat} {cs : List Value} (h : Made B w v n cs) : Fl (B ≤ ·) w v n cs := h.flw.fl
theorem Made.stay {B : Nat} {w w' : World} {v : Value} {n : Nat} {cs : List Value} (h : Made B w v n cs) (k : Below w.heap.size w w') : Made B w' v n cs := by
  obtain ⟨g, h1, h2, h3⟩ := h
  exact ⟨g, h1, Nat.lt_of_lt_of_le h2 k.size, h3.stay (ksB k)⟩
theorem Made.base {B B' : Nat} {w : World} {v : Value} {n : Nat} {cs : List Value} (h : Made B w v n cs) (k : B' ≤ B) : Made B' w v n cs := by
  obtain ⟨g, h1, h2, h3⟩ := h
  exact ⟨g, by omega, h2, h3⟩
theorem ownAt {w : World} {base : Nat} {e : TypeId} {sz g m cap n : Nat} {cs : List Value} (h : w.ownsRow base e sz (.slice (some ⟨g, 0, none⟩) m cap) n cs) : FlW (· = g) w (.slice (some ⟨g, 0, none⟩) m cap) n cs := by
  have h1 := ownFl h
  obtain ⟨a, cap', e, hn, hc⟩ := h1
  cases e
  refine ⟨_, _, rfl, hn, fun i hi => ?_⟩
  obtain ⟨b, off, e, s, c, f⟩ := hc i hi
  cases e
  exact ⟨g, 0, rfl, rfl, c, f⟩
theorem makeFull {t e : TypeId} {sz bytes : Nat} (E : ElemT t e sz bytes) (hby : bytes ≤ 100) {ops : Array Oper} {rest : List Oper} {o : Oper} {a : Act} {Q : Exit → Act → World → Prop} (hgd : o.guard = none) (l c : Operand)
    (ho : o.op = .makeSlice t l c) (n : Nat) (w : World) (hl : a.eval l = .int .i64 n) (hc : a.eval c = .int .i64 n) (hn : n ≤ 1000000000)
    (h : ∀ w' cs, Hid (w'.ownsRow w.heap.size e sz (.slice (some ⟨w.heap.size, 0, none⟩) n n) n cs) → Hid (cs.length = n * sz) → Below w.heap.size w w' → w.heap.size < w'.heap.size →
      (∀ z, (∃ i, Try.prog.info? e = some i ∧ i.zero = some z) → Hid (cs = (madeCells z.cells (n * sz)).toList)) → wpList Try.prog ops Q rest (a.put o.dst (.slice (some ⟨w.heap.size, 0, none⟩) n n)) w') :
    wpList Try.prog ops Q (o :: rest) a w := by
  obtain ⟨i, z, hi, hz, h2, h3, h4⟩ := E.inf
  refine wpList_make_full w hgd l c t ho w.heap.size e i z sz E.ul hi hz h2 .i64 .i64 n n n hl hc rfl rfl ?_ (by unfold maxLen; omega) (Nat.le_refl _) ?_
  · rw [h3]; have := Nat.mul_le_mul hby hn; omega
  · intro w' k1 k2
    have hlt := (World.ownsRow.lt k1 w.heap.size rfl).2
    refine h w' _ k1 k1.1 ⟨k2.os, k2.tape, k2.output, k2.size, fun b hb => k2.block b hb (by simp)⟩ hlt ?_
    rintro z' ⟨i', hi', hz'⟩
    rw [hi] at hi'
    cases hi'
    rw [hz] at hz'
    cases hz'
    rfl

/-- A slice literal of the call's own. -/
theorem ownLit {w : World} {base : Nat} {e : TypeId} {sz n : Nat} (cs : List Value) (hb : base ≤ w.heap.size) (hn : n ≤ 1000000000) (hl : cs.length = n * sz) :
    (w.alloc (.cells cs.toArray e)).ownsRow base e sz (.slice (some ⟨w.heap.size, 0, none⟩) n n) n cs :=
  ⟨hl, .inr ⟨w.heap.size, n, cs.toArray, rfl, hb, heap_alloc_new w _, Nat.le_refl _, by unfold maxLen; omega, by simpa using hl, by rw [← hl]; simp⟩⟩
/-- append(dst, xs...): whatever the source. -/
theorem appMany {S : Nat → Prop} {t e : TypeId} {sz bytes : Nat} (E : ElemT t e sz bytes) (hby : bytes ≤ 100) {ops : Array Oper} {rest : List Oper} {o : Oper} {a : Act} {Q : Exit → Act → World → Prop} (hgd : o.guard = none) (s x : Operand)
    (ho : o.op = .call { callee := .builtin .append, args := #[s, x], argTypes := #[t, t] })
    (base : Nat) (v u : Value) (n m : Nat) (xs news : List Value) (w : World) (hs : a.eval s = v) (hx : a.eval x = u)
    (hown : w.ownsRow base e sz v n xs) (hu : Fl S w u m news) (hl : news.length = m * sz) (h1 : ∀ u ∈ news, u.oneCell' = true) (hn : n + m ≤ 1000000000) (hbase : base ≤ w.heap.size)
    (h : ∀ v' w', Hid (w'.ownsRow base e sz v' (n + m) (xs ++ news)) → w.grownBy w' v.ownBlock → wpList Try.prog ops Q rest (a.put o.dst v') w') :
    wpList Try.prog ops Q (o :: rest) a w := by
  obtain ⟨i, z, hi, hz, h2, h3, h4⟩ := E.inf
  obtain ⟨ad, cap, rfl, hh, hc⟩ := hu
  cases ad with
  | none =>
    have hm : m = 0 := by have := hh.2.2 rfl; have := hh.2.1; omega
    subst hm
    have hcap := hh.2.2 rfl
    subst hcap
    have : news = [] := List.eq_nil_of_length_eq_zero (by simpa using hl)
    subst this
    refine wpList_append_own_none hgd s x t ho base e i sz E.ul hi v n xs hs hown hx ?_
    exact h v w (Lib.hid (by simpa using hown)) (grownRefl _ _)
  | some ad =>
    have hcell : ∀ j u, news[j]? = some u → w.cell? (ad.add j) = some u := by
      intro j u hj
      obtain ⟨hlt, rfl⟩ := List.getElem?_eq_some_iff.1 hj
      obtain ⟨b, off, e, _, c⟩ := hc j hlt
      cases e
      rw [Addr.add_lit]; exact c
    refine wpList_append_own (P := Try.prog) _ hgd s x t ho base e i z sz bytes E.ul hi hz h2 h3 h4 E.pos v n xs hs hown ad m cap news hx hl hcell h1 ?_ ?_ hbase ?_
    · unfold maxLen; omega
    · have : (n + m) * bytes ≤ 1000000000 * 100 := Nat.mul_le_mul hn hby
      omega
    · intro v' w' k1 k2 k3
      exact h v' w' k1 k2

/-- A literal of two elements, a cell each. -/
theorem nestTwo {α : Type} {R : World → Value → α → Prop} {S : Nat → Prop} {w : World} {t : TypeId} {v1 v2 : Value} {x1 x2 : α} {b : Nat} (hb : b = w.heap.size) (hS : S b)
    (h1 : R (w.alloc (.cells #[v1, v2] t)) v1 x1) (h2 : R (w.alloc (.cells #[v1, v2] t)) v2 x2) :
    Nest R S (w.alloc (.cells #[v1, v2] t)) (.slice (some ⟨b, 0, none⟩) 2 2) [x1, x2] := by
  subst hb
  refine ⟨[v1, v2], ⟨_, 2, rfl, ⟨by simp [maxLen], Nat.le_refl _, by simp⟩, fun i hi => ⟨w.heap.size, 0, rfl, hS, ?_⟩⟩, rfl, ?_⟩
  · rw [Nat.zero_add, World.cell?_alloc_mark]
    simp at hi
    rcases (by omega : i = 0 ∨ i = 1) with rfl | rfl <;> rfl
  · intro i hi
    simp at hi
    rcases (by omega : i = 0 ∨ i = 1) with rfl | rfl
    · exact h1
    · exact h2
/-- A slice of rows, each in a block of its own, all writable. -/
def IntSSW (S : Nat → Prop) (w : World) (v : Value) (xss : List (List Int)) : Prop :=
  ∃ (o : Nat) (g : Nat → Nat) (vs : Nat → Value), S o ∧ FlW (· = o) w v xss.length ((List.range xss.length).map vs) ∧
    (∀ i (h : i < xss.length), S (g i) ∧ g i ≠ o ∧ FlW (· = g i) w (vs i) (xss[i]).length ((xss[i]).map (.int .i64 ·))) ∧ ∀ i j, i < j → j < xss.length → g i ≠ g j
theorem IntSSW.rd {S : Nat → Prop} {w : World} {v : Value} {xss : List (List Int)} (h : IntSSW S w v xss) : IntSS S w v xss := by
  obtain ⟨o, g, vs, hS, h1, h2, _⟩ := h
  refine ⟨(List.range xss.length).map vs, h1.fl.mono (fun b e => by subst e; exact hS), by simp, fun i hi => ?_⟩
  obtain ⟨k1, _, k3⟩ := h2 i hi
  have e : ((List.range xss.length).map vs).getD i undef = vs i := by simp [List.getD, hi]
  rw [e]
  exact k3.fl.mono (fun b e => by subst e; exact k1)
theorem IntSSW.mono {S T : Nat → Prop} {w : World} {v : Value} {xss : List (List Int)} (h : IntSSW S w v xss) (k : ∀ b, S b → T b) : IntSSW T w v xss := by
  obtain ⟨o, g, vs, hS, h1, h2, h3⟩ := h
  exact ⟨o, g, vs, k _ hS, h1, fun i hi => ⟨k _ (h2 i hi).1, (h2 i hi).2⟩, h3⟩
theorem IntSSW.stay {S : Nat → Prop} {w w' : World} {v : Value} {xss : List (List Int)} (h : IntSSW S w v xss) (k : Ks S w w') : IntSSW S w' v xss := by
  obtain ⟨o, g, vs, hS, h1, h2, h3⟩ := h
  exact ⟨o, g, vs, hS, h1.stay (k.mono fun b e => by subst e; exact hS), fun i hi => ⟨(h2 i hi).1, (h2 i hi).2.1, (h2 i hi).2.2.stay (k.mono fun b e => by subst e; exact (h2 i hi).1)⟩, h3⟩
/-- An automaton whose memory may be written. -/
def DfaW (S : Nat → Prop) (w : World) (vn ve : Value) (D : DfaD) : Prop :=
  ∃ q, S q ∧ IntSSW (fun b => S b ∧ b ≠ q) w vn D.1 ∧ FlW (· = q) w ve D.2.length (D.2.map .bool)
theorem DfaW.rd {S : Nat → Prop} {w : World} {vn ve : Value} {D : DfaD} (h : DfaW S w vn ve D) : DfaR S w vn ve D := by
  obtain ⟨q, hS, h1, h2⟩ := h
  exact ⟨h1.rd.mono (fun b h => h.1), h2.fl.mono (fun b e => by subst e; exact hS)⟩
theorem DfaW.mono {S T : Nat → Prop} {w : World} {vn ve : Value} {D : DfaD} (h : DfaW S w vn ve D) (k : ∀ b, S b → T b) : DfaW T w vn ve D := by
  obtain ⟨q, hS, h1, h2⟩ := h
  exact ⟨q, k _ hS, h1.mono (fun b h => ⟨k _ h.1, h.2⟩), h2⟩
theorem DfaW.stay {S : Nat → Prop} {w w' : World} {vn ve : Value} {D : DfaD} (h : DfaW S w vn ve D) (k : Ks S w w') : DfaW S w' vn ve D := by
  obtain ⟨q, hS, h1, h2⟩ := h
  exact ⟨q, hS, h1.stay (k.mono fun b h => h.1), h2.stay (k.mono fun b e => by subst e; exact hS)⟩
theorem elInt : ElemT 24 3 1 8 := ElemT.of (z := .int .i64 0) Try.underlying24 (by kernel_rfl) rfl (by decide)
theorem elBool : ElemT 57 4 1 1 := ElemT.of (z := .bool false) Try.underlying57 (by kernel_rfl) rfl (by decide)
theorem elInts : ElemT 56 24 1 24 := ElemT.of (z := .slice none 0 0) Try.underlying56 (by kernel_rfl) rfl (by decide)
theorem elPart : ElemT 26 71 2 16 := ElemT.of (z := .agg #[.int .i64 0, .int .i64 0]) Try.underlying26 (by kernel_rfl) rfl (by decide)
/-- A list of parts that the call made. -/
def OwnP (w : World) (base : Nat) (v : Value) (xs : List (Int × Int)) : Prop := w.ownsRow base 71 2 v xs.length (cells2 xs)
theorem cells2_one (xs : List (Int × Int)) : ∀ u ∈ cells2 xs, u.oneCell' = true := by
  intro u hu
  unfold cells2 at hu
  obtain ⟨p, _, hp⟩ := List.mem_flatMap.1 hu
  simp at hp
  rcases hp with rfl | rfl <;> rfl
theorem cells2_append (xs ys : List (Int × Int)) : cells2 (xs ++ ys) = cells2 xs ++ cells2 ys := by simp [cells2]
theorem OwnP.rd {w : World} {base : Nat} {v : Value} {xs : List (Int × Int)} (h : OwnP w base v xs) : Pairs (base ≤ ·) w v xs := (ownFl h).fl
theorem OwnP.stay {w w' : World} {base : Nat} {v : Value} {xs : List (Int × Int)} (h : OwnP w base v xs) (k : Below w.heap.size w w') : OwnP w' base v xs := ownStay h k
theorem appPart {ops : Array Oper} {rest : List Oper} {o : Oper} {a : Act} {Q : Exit → Act → World → Prop} (hgd : o.guard = none) (s x : Operand)
    (ho : o.op = .call { callee := .builtin .append, args := #[s, x], argTypes := #[26, 26] })
    (base : Nat) (v : Value) (xs : List (Int × Int)) (y1 y2 : Int) (w : World) (hs : a.eval s = v) (hx : a.eval x = .slice (some ⟨w.heap.size, 0, none⟩) 1 1)
    (hown : OwnP w base v xs) (hn : xs.length ≤ 1000000000) (hbase : base ≤ w.heap.size)
    (h : ∀ v' w', Hid (OwnP w' base v' (xs ++ [(y1, y2)])) → w.grownBy w' v.ownBlock → wpList Try.prog ops Q rest (a.put o.dst v') w') :
    wpList Try.prog ops Q (o :: rest) a (w.alloc (.cells #[.int .i64 y1, .int .i64 y2] 71)) :=
  appOne elPart (by decide) hgd s x ho base v _ _ [.int .i64 y1, .int .i64 y2] w hs hx hown rfl (by simp [Value.oneCell']) hn hbase fun v' w' k1 k2 _ =>
    h v' w' (by unfold OwnP; rw [List.length_append, cells2_append]; exact k1) (grownTrans (grownBel ((Below.refl _ _).alloc (Nat.le_refl _) _)) k2)
end Go.Proofs.Ytgihihnbapnnjaa

/- Which parts of a word an expression accepts: the program's spansOf, accepts and ExprAccepts. -/
import Derived.Test.YtbcjhiponbfbnaaSpn
import Derived.Test.YtbcjhiponbfbnaaIpl
set_option linter.unusedSimpArgs false
set_option linter.unusedVariables false
set_option linter.unusedSectionVars false
namespace Go.Proofs.Ytbcjhiponbfbnaa
open Go.RowKit
set_option maxRecDepth 100000
variable {S T : Nat → Prop}
abbrev Tb := Nat → Nat → Bool
/-- The table of an expression, for a word w of n letters. -/
noncomputable def spT (w : List Int) : Re → Tb
  | .none => fun _ _ => false
  | .empty => up w.length fun i j => decide (i = j)
  | .letter c => up w.length fun i j => decide (j = i + 1) && decide (w.getD i 0 = c)
  | .join a b => up w.length (jnS (spT w a) (spT w b))
  | .either a b => up w.length fun i j => spT w a i j || spT w b i j
  | .both a b => up w.length fun i j => spT w a i j && spT w b i j
  | .not a => up w.length fun i j => !spT w a i j
  | .star a => stT w.length (spT w a) w.length
theorem jnS_iff {A B : Tb} {i j : Nat} : jnS A B i j = true ↔ ∃ k, i ≤ k ∧ k ≤ j ∧ A i k = true ∧ B k j = true := by unfold jnS; simp only [decide_eq_true_eq]
theorem strR_congr {A B : Nat → Nat → Prop} {n : Nat} (h : ∀ i j, i ≤ j → j ≤ n → (A i j ↔ B i j)) : ∀ (r : Nat) {i j : Nat}, i ≤ j → j ≤ n → (strR A r i j ↔ strR B r i j) := by
  intro r
  induction r with
  | zero => intro i j _ _; exact Iff.rfl
  | succ r ih =>
    intro i j hij hj
    refine or_congr (ih hij hj) ⟨?_, ?_⟩
    · rintro ⟨k, h1, h2, h3, h4⟩; exact ⟨k, h1, h2, (ih h1 (by omega)).1 h3, (h k j h2 hj).1 h4⟩
    · rintro ⟨k, h1, h2, h3, h4⟩; exact ⟨k, h1, h2, (ih h1 (by omega)).2 h3, (h k j h2 hj).2 h4⟩
theorem stT_iff {n : Nat} {A : Tb} : ∀ (r : Nat) {i j : Nat}, i ≤ j → j ≤ n → (stT n A r i j = true ↔ strR (fun i j => A i j = true) r i j) := by
  intro r
  induction r with
  | zero => intro i j hij hj; unfold stT; rw [up_at hij hj]; simp [strR]
  | succ r ih =>
    intro i j hij hj
    unfold stT
    rw [up_at hij hj, up_at hij hj, Bool.or_eq_true, jnS_iff]
    refine or_congr (ih hij hj) ⟨?_, ?_⟩
    · rintro ⟨k, h1, h2, h3, h4⟩; exact ⟨k, h1, h2, (ih h1 (by omega)).1 h3, h4⟩
    · rintro ⟨k, h1, h2, h3, h4⟩; exact ⟨k, h1, h2, (ih h1 (by omega)).2 h3, h4⟩
theorem spT_lang (w : List Int) (t : Re) : ∀ {i j : Nat}, i ≤ j → j ≤ w.length → (spT w t i j = true ↔ spL t.lang w i j) := by
  induction t with
  | none => intro i j _ _; simp [spT, spL, Re.lang]
  | empty =>
    intro i j hij hj
    unfold spT
    rw [up_at hij hj, decide_eq_true_eq]
    show i = j ↔ spn w i j = []
    constructor
    · rintro rfl; exact spn_self w i
    · intro h; have := spn_len hij hj; rw [h] at this; simp at this; omega
  | letter c =>
    intro i j hij hj
    unfold spT
    rw [up_at hij hj, Bool.and_eq_true, decide_eq_true_eq, decide_eq_true_eq]
    show _ ↔ spn w i j = [c]
    constructor
    · rintro ⟨rfl, h⟩
      rw [spn_one (by omega)]
      rw [List.getD_eq_getElem?_getD, List.getElem?_eq_getElem (by omega), Option.getD_some] at h
      rw [h]
    · intro h
      have hl := spn_len hij hj
      rw [h] at hl
      have hj1 : j = i + 1 := by simp at hl; omega
      subst hj1
      rw [spn_one (by omega)] at h
      injection h with h _
      exact ⟨rfl, by rw [List.getD_eq_getElem?_getD, List.getElem?_eq_getElem (by omega), Option.getD_some]; exact h⟩
  | join a b iha ihb =>
    intro i j hij hj
    unfold spT
    rw [up_at hij hj, jnS_iff, spL_join a b hij hj]
    constructor
    · rintro ⟨k, h1, h2, h3, h4⟩; exact ⟨k, h1, h2, (iha h1 (by omega)).1 h3, (ihb h2 hj).1 h4⟩
    · rintro ⟨k, h1, h2, h3, h4⟩; exact ⟨k, h1, h2, (iha h1 (by omega)).2 h3, (ihb h2 hj).2 h4⟩
  | either a b iha ihb =>
    intro i j hij hj
    unfold spT
    rw [up_at hij hj, Bool.or_eq_true, iha hij hj, ihb hij hj]; exact Iff.rfl
  | both a b iha ihb =>
    intro i j hij hj
    unfold spT
    rw [up_at hij hj, Bool.and_eq_true, iha hij hj, ihb hij hj]; exact Iff.rfl
  | not a iha =>
    intro i j hij hj
    unfold spT
    rw [up_at hij hj, Bool.not_eq_true', ← Bool.not_eq_true, iha hij hj]; exact Iff.rfl
  | star a iha =>
    intro i j hij hj
    unfold spT
    rw [stT_iff _ hij hj, spL_star a hij hj]
    exact strR_congr (fun i j h1 h2 => iha h1 h2) _ hij hj
/-- The letters of a text. -/
def ltrs (s : ByteArray) : List Int := s.data.toList.map fun c => (c.toNat : Int) - 97
theorem ltrs_len (s : ByteArray) : (ltrs s).length = s.size := by unfold ltrs; rw [List.length_map]; rfl
theorem ltrs_at {s : ByteArray} {k : Nat} (h : k < s.size) : (ltrs s).getD k 0 = (s[k].toNat : Int) - 97 := by
  have h' : k < s.data.toList.length := h
  unfold ltrs
  rw [List.getD_eq_getElem?_getD, List.getElem?_map, List.getElem?_eq_getElem h']
  rfl
/-- The tables of a stack, the last one last. -/
noncomputable def tbs (w : List Int) : List Re → List Tb
  | [] => []
  | a :: r => tbs w r ++ [spT w a]
theorem tbs_len (w : List Int) (s : List Re) : (tbs w s).length = s.length := by
  induction s with
  | nil => rfl
  | cons a r ih => simp [tbs, ih]
theorem push_tbs (w : List Int) {s s' : List Re} {x y : Int} (h : push (some s) (x, y) = some s') :
    (x = 1 ∧ tbs w s' = tbs w s ++ [fun _ _ => false]) ∨ (x = 2 ∧ tbs w s' = tbs w s ++ [up w.length fun i j => decide (i = j)]) ∨ (x = 3 ∧ tbs w s' = tbs w s ++ [up w.length fun i j => decide (j = i + 1) && decide (w.getD i 0 = y)]) ∨
    (x = 4 ∧ ∃ (m : List Tb) (a b : Tb), tbs w s = m ++ [a, b] ∧ tbs w s' = m ++ [up w.length (jnS a b)]) ∨
    (x = 5 ∧ ∃ (m : List Tb) (a b : Tb), tbs w s = m ++ [a, b] ∧ tbs w s' = m ++ [up w.length fun i j => a i j || b i j]) ∨
    (x = 6 ∧ ∃ (m : List Tb) (a b : Tb), tbs w s = m ++ [a, b] ∧ tbs w s' = m ++ [up w.length fun i j => a i j && b i j]) ∨
    (x = 7 ∧ ∃ (m : List Tb) (a : Tb), tbs w s = m ++ [a] ∧ tbs w s' = m ++ [up w.length fun i j => !a i j]) ∨
    (x = 8 ∧ ∃ (m : List Tb) (a : Tb), tbs w s = m ++ [a] ∧ tbs w s' = m ++ [stT w.length a w.length]) := by
  obtain ⟨hok, h⟩ := push_some h
  rcases pNeeds_cases x y hok with ⟨rfl, _⟩ | ⟨rfl, _⟩ | ⟨rfl, _⟩ | ⟨rfl, _⟩ | ⟨rfl, _⟩ | ⟨rfl, _⟩ | ⟨rfl, _⟩ | ⟨rfl, _⟩
  all_goals
    rcases h with ⟨h0, h⟩ | ⟨h0, h⟩ | ⟨h0, h⟩
    all_goals first | (exfalso; simp [pNeeds] at h0; done) | skip
  · obtain ⟨rfl, _⟩ := h
    exact .inl ⟨rfl, rfl⟩
  · obtain ⟨rfl, _⟩ := h
    exact .inr (.inl ⟨rfl, rfl⟩)
  · obtain ⟨rfl, _⟩ := h
    exact .inr (.inr (.inl ⟨rfl, rfl⟩))
  · obtain ⟨a, b, r, rfl, rfl, _⟩ := h
    exact .inr (.inr (.inr (.inl ⟨rfl, tbs w r, spT w a, spT w b, by simp [tbs], rfl⟩)))
  · obtain ⟨a, b, r, rfl, rfl, _⟩ := h
    exact .inr (.inr (.inr (.inr (.inl ⟨rfl, tbs w r, spT w a, spT w b, by simp [tbs], rfl⟩))))
  · obtain ⟨a, b, r, rfl, rfl, _⟩ := h
    exact .inr (.inr (.inr (.inr (.inr (.inl ⟨rfl, tbs w r, spT w a, spT w b, by simp [tbs], rfl⟩)))))
  · obtain ⟨a, r, rfl, rfl, _⟩ := h
    exact .inr (.inr (.inr (.inr (.inr (.inr (.inl ⟨rfl, tbs w r, spT w a, rfl, rfl⟩))))))
  · obtain ⟨a, r, rfl, rfl, _⟩ := h
    exact .inr (.inr (.inr (.inr (.inr (.inr (.inr ⟨rfl, tbs w r, spT w a, rfl, rfl⟩))))))
/-- The cells of tables. -/
def tbCells (ts : List Tb) : List Value := ts.flatMap fun f => (tab9 f).toList
theorem tbCells_len (ts : List Tb) : (tbCells ts).length = ts.length * 81 := by
  unfold tbCells
  induction ts with
  | nil => rfl
  | cons f ts ih => rw [List.flatMap_cons, List.length_append, ih, Array.length_toList, tab9_size, List.length_cons]; omega
theorem tbCells_take (ts : List Tb) (m : Nat) (hm : m ≤ ts.length) : (tbCells ts).take (m * 81) = tbCells (ts.take m) := by
  conv => lhs; rw [← List.take_append_drop m ts, show tbCells (ts.take m ++ ts.drop m) = tbCells (ts.take m) ++ tbCells (ts.drop m) from List.flatMap_append]
  rw [List.take_append_of_le_length (by rw [tbCells_len, List.length_take]; omega), List.take_of_length_le (by rw [tbCells_len, List.length_take]; omega)]
theorem tbCells_get (ts : List Tb) {k j : Nat} (hk : k < ts.length) (hj : j < 81) : (tbCells ts)[k * 81 + j]? = (tab9 ts[k]).toList[j]? := by
  unfold tbCells
  induction ts generalizing k with
  | nil => exact absurd hk (Nat.not_lt_zero _)
  | cons f ts ih =>
    cases k with
    | zero =>
      rw [List.flatMap_cons, Nat.zero_mul, Nat.zero_add, List.getElem?_append_left (by rw [Array.length_toList, tab9_size]; exact hj)]
      rfl
    | succ k =>
      rw [List.flatMap_cons, List.getElem?_append_right (by rw [Array.length_toList, tab9_size]; omega), Array.length_toList, tab9_size]
      rw [show (k + 1) * 81 + j - 81 = k * 81 + j by omega]
      exact ih (by simpa using hk)
/-- A stack of tables of the call's own. -/
def OwnT (w : World) (base : Nat) (v : Value) (ts : List Tb) : Prop := w.ownsRow base 107 81 v ts.length (tbCells ts)
theorem OwnT.nil (w : World) (base : Nat) : OwnT w base (.slice none 0 0) [] := ⟨rfl, .inl ⟨rfl, rfl⟩⟩
theorem OwnT.stay {w w' : World} {base : Nat} {v : Value} {ts : List Tb} (h : OwnT w base v ts) (k : Below w.heap.size w w') : OwnT w' base v ts := ownStay h k
theorem OwnT.shape {w : World} {base : Nat} {v : Value} {ts : List Tb} (h : OwnT w base v ts) : ∃ a cap, v = .slice a ts.length cap ∧ ts.length ≤ 9223372036854775807 := (ownFl h).shape
theorem OwnT.take {w : World} {base m : Nat} {a : Option Addr} {n cap : Nat} {ts : List Tb} (h : OwnT w base (.slice a n cap) ts) (hn : n = ts.length) (hm : m ≤ ts.length) : OwnT w base (.slice a m cap) (ts.take m) := by
  subst hn
  have := ownTake h hm
  unfold OwnT
  rw [List.length_take, Nat.min_eq_left hm, ← tbCells_take ts m hm]; exact this
theorem OwnT.blk {w : World} {base : Nat} {v : Value} {ts : List Tb} (h : OwnT w base v ts) (hn : 0 < ts.length) : ∃ g cap, v = .slice (some ⟨g, 0, none⟩) ts.length cap ∧ base ≤ g ∧ g < w.heap.size ∧ ts.length ≤ cap ∧ ∀ k (hk : k < ts.length), w.rangeAt g (k * 81) (tab9 ts[k]).toList := by
  have hf := (ownFl h).fl
  obtain ⟨hl, ⟨h1, h2⟩ | ⟨g, cap, cur, hv, hb, hh, hc, _⟩⟩ := h
  · omega
  · refine ⟨g, cap, hv, hb, (Array.getElem?_eq_some_iff.1 hh).1, hc, fun k hk j v hj => ?_⟩
    subst hv
    have hj81 : j < 81 := by have := (List.getElem?_eq_some_iff.1 hj).1; rw [Array.length_toList, tab9_size] at this; exact this
    have hi : k * 81 + j < (tbCells ts).length := by rw [tbCells_len]; omega
    obtain ⟨b, off, e, c⟩ := hf.at hi
    cases e
    have h3 := tbCells_get ts hk hj81
    rw [List.getElem?_eq_getElem hi, hj] at h3
    injection h3 with h3
    rw [h3] at c
    simpa using c
theorem elSpans : ElemT 138 107 81 81 := ElemT.of (z := .agg (Array.replicate 81 (.bool false))) Try.underlying138 (by kernel_rfl) (by simp [Value.cells]) (by decide)
theorem appSpans {ops : Array Oper} {rest : List Oper} {o : Oper} {a : Act} {Q : Exit → Act → World → Prop} (hgd : o.guard = none) (s x : Operand)
    (ho : o.op = .call { callee := .builtin .append, args := #[s, x], argTypes := #[138, 138] })
    (base : Nat) (v : Value) (ts : List Tb) (f : Tb) (w : World) (hs : a.eval s = v) (hx : a.eval x = .slice (some ⟨w.heap.size, 0, none⟩) 1 1)
    (hown : OwnT w base v ts) (hn : ts.length ≤ 1000000000) (hbase : base ≤ w.heap.size)
    (h : ∀ v' w', Hid (OwnT w' base v' (ts ++ [f])) → w.grownBy w' v.ownBlock → wpList Try.prog ops Q rest (a.put o.dst v') w') :
    wpList Try.prog ops Q (o :: rest) a (w.alloc (.cells (tab9 f) 107)) := by
  have key := appOne elSpans (by decide) hgd s x ho base v _ _ (tab9 f).toList w hs hx hown (by rw [Array.length_toList, tab9_size]) (fun u hu => (Array.all_eq_true_iff_forall_mem.1 (tab9_one f)) u (by simpa using hu)) hn hbase (rest := rest) (ops := ops) (Q := Q) fun v' w' k1 k2 _ =>
    h v' w' (by
      unfold OwnT
      rw [List.length_append, show tbCells (ts ++ [f]) = tbCells ts ++ (tab9 f).toList by unfold tbCells; rw [List.flatMap_append]; simp]
      exact k1) (grownTrans (grownBel ((Below.refl _ _).alloc (Nat.le_refl _) _)) k2)
  simpa using key
/-- A whole table read in a prefix that changes nothing. -/
theorem still_load_mid {ops : Array Oper} {w : World} {Q : Act → Prop} {a : Act} {op : Oper} {rest : List Oper} (hgd : op.guard = none) (ty : TypeId) (x : Operand) (ho : op.op = .load ty x)
    (b o : Nat) (hx : a.eval x = .pointer (some ⟨b, o, none⟩)) (cs : List Value) (d : TypeDesc) (hc : w.rangeAt b o cs)
    (hu : Try.prog.underlying ty = some d) (hd : d.isRow = true) (hi : (Try.prog.info? ty).map (·.size) = some cs.length)
    (h : wpStill Try.prog ops w Q rest (a.put op.dst (.agg cs.toArray))) : wpStill Try.prog ops w Q (op :: rest) a := by
  refine wpStill_step (fun K hK => ?_)
  rw [if_pos (by simp [Region.wanted, hgd])]
  unfold Oper.still execOp
  simp only [ho, hx, Instr.loadAt, Instr.sureAddr, Sem.run_bind, Sem.run_pure, Result.andThen_ok, run_loadVar_mid w b o ty cs d hc hu hd hi]
  exact ⟨rfl, hK _ h⟩
theorem range9 {w : World} {b : Nat} {f : Tb} (h : w.heap[b]? = some (.cells (tab9 f) 107 (0, 0))) : w.rangeAt b 0 (tab9 f).toList := fun j v hv => by
  rw [Nat.zero_add, cell_of_row w b j _ _ _ h]
  simpa using hv
theorem bodyS1 : HasBody 128 := by
  intro args w
  kernel_rfl
theorem eqS_c (i j : Nat) (w : World) : Calls Try.prog 128 #[.int .i64 i, .int .i64 j] w (fun e w' => e = .returned (.bool (decide (i = j))) ∧ w' = w) := by
  go_enter Try.func128, Try.ntmps128
  by_cases h : i = j
  · subst h
    go_wp2
    go_ret
    exact ⟨by simp, rfl⟩
  · have hne : (i : Int) ≠ (j : Int) := by omega
    go_wp2
    go_ret
    exact ⟨by simp [h]; omega, rfl⟩

theorem bodyS3 : HasBody 131 := by
  intro args w
  kernel_rfl
theorem orS_c {P1 P2 : Nat} {A B : Nat → Nat → Bool} {w : World} (h1 : w.heap[P1]? = some (.cells (tab9 A) 107 (0, 0))) (h2 : w.heap[P2]? = some (.cells (tab9 B) 107 (0, 0))) {i j : Nat} (hij : i ≤ j) (hj : j ≤ 8) :
    Calls Try.prog 131 #[.int .i64 i, .int .i64 j, .pointer (some ⟨P1, 0, none⟩), .pointer (some ⟨P2, 0, none⟩)] w (fun e w' => e = .returned (.bool (A i j || B i j)) ∧ w' = w) := by
  have hi9 : (i : Int) < 9 := by omega
  have hj9 : (j : Int) < 9 := by omega
  have ca := cell_of_row w P1 (i * 9 + j) _ _ _ h1
  rw [tab9_at _ (by omega) (by omega)] at ca
  have cb := cell_of_row w P2 (i * 9 + j) _ _ _ h2
  rw [tab9_at _ (by omega) (by omega)] at cb
  clear h1 h2
  generalize A i j = x at *
  generalize B i j = y at *
  go_enter Try.func131, Try.ntmps131
  cases x
  · go_wp2
    go_ret
    exact ⟨by simp, rfl⟩
  · go_wp2
    go_ret
    exact ⟨by simp, rfl⟩
theorem bodyS4 : HasBody 132 := by
  intro args w
  kernel_rfl
theorem andS_c {P1 P2 : Nat} {A B : Nat → Nat → Bool} {w : World} (h1 : w.heap[P1]? = some (.cells (tab9 A) 107 (0, 0))) (h2 : w.heap[P2]? = some (.cells (tab9 B) 107 (0, 0))) {i j : Nat} (hij : i ≤ j) (hj : j ≤ 8) :
    Calls Try.prog 132 #[.int .i64 i, .int .i64 j, .pointer (some ⟨P1, 0, none⟩), .pointer (some ⟨P2, 0, none⟩)] w (fun e w' => e = .returned (.bool (A i j && B i j)) ∧ w' = w) := by
  have hi9 : (i : Int) < 9 := by omega
  have hj9 : (j : Int) < 9 := by omega
  have ca := cell_of_row w P1 (i * 9 + j) _ _ _ h1
  rw [tab9_at _ (by omega) (by omega)] at ca
  have cb := cell_of_row w P2 (i * 9 + j) _ _ _ h2
  rw [tab9_at _ (by omega) (by omega)] at cb
  clear h1 h2
  generalize A i j = x at *
  generalize B i j = y at *
  go_enter Try.func132, Try.ntmps132
  cases x
  · go_wp2
    go_ret
    exact ⟨by simp, rfl⟩
  · go_wp2
    go_ret
    exact ⟨by simp, rfl⟩
theorem bodyS5 : HasBody 133 := by
  intro args w
  kernel_rfl
theorem notS_c {P1 : Nat} {A : Nat → Nat → Bool} {w : World} (h1 : w.heap[P1]? = some (.cells (tab9 A) 107 (0, 0))) {i j : Nat} (hij : i ≤ j) (hj : j ≤ 8) :
    Calls Try.prog 133 #[.int .i64 i, .int .i64 j, .pointer (some ⟨P1, 0, none⟩)] w (fun e w' => e = .returned (.bool (!A i j)) ∧ w' = w) := by
  have hi9 : (i : Int) < 9 := by omega
  have hj9 : (j : Int) < 9 := by omega
  have ca := cell_of_row w P1 (i * 9 + j) _ _ _ h1
  rw [tab9_at _ (by omega) (by omega)] at ca
  clear h1
  generalize A i j = x at *
  go_enter Try.func133, Try.ntmps133
  go_wp2
  go_ret
  exact ⟨by cases x <;> rfl, rfl⟩
theorem bodyS2 : HasBody 129 := by
  intro args w
  kernel_rfl
theorem ltrS_c {P3 P8 : Nat} {s : ByteArray} {y z : Int} {w : World} (h1 : w.heap[P3]? = some (.cells #[.string s] 9 (0, 0))) (h2 : w.heap[P8]? = some (.cells #[.int .i64 z, .int .i64 y] 67 (0, 0))) (hl : letS s) (hs : s.size ≤ 8) {i j : Nat} (hij : i ≤ j) (hj : j ≤ s.size) :
    Calls Try.prog 129 #[.int .i64 i, .int .i64 j, .pointer (some ⟨P3, 0, none⟩), .pointer (some ⟨P8, 0, none⟩)] w (fun e w' => e = .returned (.bool (decide (j = i + 1) && decide ((ltrs s).getD i 0 = y))) ∧ ∃ n, w' = w.drewN n) := by
  have c3 := cell_of_row w P3 0 _ _ _ h1
  obtain ⟨d0, d1, _, _⟩ := blk2 h2
  simp only [List.getElem?_toArray, List.getElem?_cons_zero] at c3
  have hwr : IntKind.i64.wrap ((i : Int) + 1) = (i : Int) + 1 := IntWalk.i64_in _ (by omega)
  have c3D : w.drew.cell? ⟨P3, 0, none⟩ = _ := c3
  have d1D : w.drew.cell? ⟨P8, 1, none⟩ = _ := d1
  clear h1 h2
  go_enter Try.func129, Try.ntmps129
  by_cases h : j = i + 1
  · have hi : i < s.size := by omega
    have HY := Lib.hid (ltrs_at hi)
    have HL : Hid (∀ w', Calls Try.prog 44 #[.string s, .int .i64 i] w' (fun e w'' => e = .returned (.int .i64 ((ltrs s).getD i 0)) ∧ w'' = w')) := Lib.hid (fun w' => (letter_c s i w' (by unfold maxLen; omega) hi (hl i hi)).mono fun e w'' ⟨n, h1, h2, h3⟩ => ⟨by rw [h1, h3.out.1, HY.out], h2.symm⟩)
    have hjj : (j : Int) = (i : Int) + 1 := by omega
    have H := Lib.hid h; clear h
    obtain ⟨L, hL⟩ : ∃ L, L = (ltrs s).getD i 0 := ⟨_, rfl⟩
    rw [← hL] at HL ⊢
    clear hL HY
    by_cases hy : L = y
    · subst hy
      go_wp2_with fail
      go_quiet ((go_at_call 44; exact Calls.quiet_of_same (HL.out _)))
      go_wp2_with fail
      go_ret
      exact ⟨by rw [H.out]; simp, _, rfl⟩
    · have hyb : (L == y) = false := by simpa using hy
      go_wp2_with fail
      go_quiet ((go_at_call 44; exact Calls.quiet_of_same (HL.out _)))
      go_wp2_with fail
      go_ret
      exact ⟨by rw [H.out]; simp [hy], _, rfl⟩
  · have hne : ((j : Int) == (i : Int) + 1) = false := by simp; omega
    have H := Lib.hid h; clear h
    go_wp2_with fail
    go_quiet (fail)
    go_wp2_with fail
    go_ret
    exact ⟨by rw [show decide (j = i + 1) = false from by simpa using H.out]; rfl, _, rfl⟩
end Go.Proofs.Ytbcjhiponbfbnaa

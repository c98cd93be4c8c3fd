/- An append of one element: the row behind it lies in the old block, or in a new one. -/
import Derived.Deep.AppendLies
import Derived.Test.YtbcjhiponbfbnaaGA
set_option linter.unusedSimpArgs false
set_option linter.unusedVariables false
set_option linter.unusedSectionVars false
namespace Go.Proofs.Ytbcjhiponbfbnaa
open Go.RowKit
set_option maxRecDepth 100000
theorem appOneF {t e : TypeId} {sz bytes : Nat} (E : ElemT t e sz bytes) (hby : bytes ≤ 100) {ops : Array Oper} {rest : List Oper} {o : Oper} {a : Act} {Q : Exit → Act → World → Prop} (hgd : o.guard = none) (s x : Operand)
    (ho : o.op = .call { callee := .builtin .append, args := #[s, x], argTypes := #[t, t] })
    (base : Nat) (v : Value) (n : Nat) (xs news : List Value) (w : World) (hs : a.eval s = v) (hx : a.eval x = .slice (some ⟨w.heap.size, 0, none⟩) 1 1)
    (hown : w.ownsRow base e sz v n xs) (hl : news.length = sz) (h1 : ∀ u ∈ news, u.oneCell' = true) (hn : n ≤ 1000000000) (hbase : base ≤ w.heap.size)
    (h : ∀ g cap w', w'.ownsRow base e sz (.slice (some ⟨g, 0, none⟩) (n + 1) cap) (n + 1) (xs ++ news) → (w.alloc (.cells news.toArray e)).grownBy w' v.ownBlock → (v.ownBlock = some g ∨ g = w.heap.size + 1) → wpList Try.prog ops Q rest (a.put o.dst (.slice (some ⟨g, 0, none⟩) (n + 1) cap)) w') :
    wpList Try.prog ops Q (o :: rest) a (w.alloc (.cells news.toArray e)) := by
  obtain ⟨i, z, hi, hz, h2, h3, h4⟩ := E.inf
  refine wpList_append_lies (P := Try.prog) _ hgd s x t ho base e i z sz bytes E.ul hi hz h2 h3 h4 E.pos v n xs hs (hown.alloc _) ⟨w.heap.size, 0, none⟩ 1 1 news hx (by omega) ?_ h1 (by omega) ?_ ?_ ?_ (w.heap.size + 1) (by simp) ?_
  · intro j u hu
    rw [Addr.add_lit, Nat.zero_add]
    rw [World.cell?_alloc_mark]
    simpa using hu
  · unfold maxLen; omega
  · have : (n + 1) * bytes ≤ 1000000001 * 100 := Nat.mul_le_mul (by omega) hby
    omega
  · simp; omega
  · intro g cap w' k1 k2 k3 _
    exact h g cap w' k1 k2 k3
theorem appIntF {ops : Array Oper} {rest : List Oper} {o : Oper} {a : Act} {Q : Exit → Act → World → Prop} (hgd : o.guard = none) (s x : Operand)
    (ho : o.op = .call { callee := .builtin .append, args := #[s, x], argTypes := #[34, 34] })
    (base : Nat) (v : Value) (xs : List Int) (y : Int) (w : World) (hs : a.eval s = v) (hx : a.eval x = .slice (some ⟨w.heap.size, 0, none⟩) 1 1)
    (hown : OwnI w base v xs) (hn : xs.length ≤ 1000000000) (hbase : base ≤ w.heap.size)
    (h : ∀ g cap w', Hid (OwnI w' base (.slice (some ⟨g, 0, none⟩) (xs.length + 1) cap) (xs ++ [y])) → w.grownBy w' v.ownBlock → Hid (v.ownBlock = some g ∨ w.heap.size ≤ g) → wpList Try.prog ops Q rest (a.put o.dst (.slice (some ⟨g, 0, none⟩) (xs.length + 1) cap)) w') :
    wpList Try.prog ops Q (o :: rest) a (w.alloc (.cells #[.int .i64 y] 3)) :=
  appOneF elInt (by decide) hgd s x ho base v _ _ [.int .i64 y] w hs hx hown rfl (by simp [Value.oneCell']) hn hbase fun g cap w' k1 k2 k3 =>
    h g cap w' (by unfold OwnI; rw [List.length_append, List.map_append]; exact k1) (grownTrans (grownBel ((Below.refl _ _).alloc (Nat.le_refl _) _)) k2) (k3.imp id fun e => by omega)
end Go.Proofs.Ytbcjhiponbfbnaa

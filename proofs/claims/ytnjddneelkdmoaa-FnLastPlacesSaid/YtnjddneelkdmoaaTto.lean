/- Expressions turned round: the program's TurnExpr. -/
import Derived.Deep.RegionHeld3
import Derived.Test.YtnjddneelkdmoaaTtr
set_option linter.unusedSimpArgs false
set_option linter.unusedVariables false
set_option linter.unusedSectionVars false
namespace Go.Proofs.Ytnjddneelkdmoaa
open Go.RowKit
set_option maxRecDepth 100000
variable {S T : Nat → Prop}
theorem plain_len {a b : List (Int × Int)} {n : Nat} (h : a.length + b.length + 1 ≤ n) : ([a, b].map List.length).sum ≤ n := by simp; omega
theorem turned2 {a b : Re} (ha : a.wf) (hb : b.wf) {x y : Int} (hp : pOk x y) (h0 : pNeeds x = 2) (hl : a.flat.length + b.flat.length + 1 ≤ 60)
    (iha : ∀ (T : Nat → Prop) (w : World) (v : Value), Pairs T w v a.flat → Calls Try.prog 95 #[v] w (RVn w fun v w' => OwnP w' w.heap.size v a.trn.flat))
    (ihb : ∀ (T : Nat → Prop) (w : World) (v : Value), Pairs T w v b.flat → Calls Try.prog 95 #[v] w (RVn w fun v w' => OwnP w' w.heap.size v b.trn.flat))
    (zs : List (List (Int × Int))) (hz : zs = if x = 4 then [b.trn.flat, a.trn.flat] else [a.trn.flat, b.trn.flat]) (T : Nat → Prop) (w : World) (v : Value) (h : Pairs T w v (a.flat ++ b.flat ++ [(x, y)])) :
    Calls Try.prog 95 #[v] w (RVn w fun v w' => OwnP w' w.heap.size v (zs.flatten ++ [(x, y)])) := by
  refine turned_gen 2 [a.flat, b.flat] [a.trn.flat, b.trn.flat] zs x y (a.flat ++ b.flat) rfl rfl (Nat.le_refl _) (fun _ => rfl) (by rw [hz]; rfl) ?_ (by rw [List.length_append]; omega) ?_ ?_ v w h
  · have h1 := trn_len a
    have h2 := trn_len b
    rw [hz]; split
    · simp; omega
    · simp; omega
  · intro T w v h
    refine (operands2_c v a b x y w ha hb h hp h0 (by rw [List.length_append]; omega)).mono ?_
    rintro e w1 ⟨v1, rfl, hb1, ho⟩
    obtain ⟨u, u', o1, o2, o3⟩ := ho.out
    refine RVn.mk hb1 ⟨_, o1, fun j hj => ?_⟩
    simp at hj
    rcases (by omega : j = 0 ∨ j = 1) with rfl | rfl
    · exact o2
    · exact o3
  · intro j hj T w v h
    rcases (by omega : j = 0 ∨ j = 1) with rfl | rfl
    · exact iha T w v h
    · exact ihb T w v h
theorem turned1 {a : Re} (ha : a.wf) {x y : Int} (hp : pOk x y) (h0 : pNeeds x = 1) (hx : x ≠ 4) (hl : a.flat.length + 1 ≤ 60)
    (iha : ∀ (T : Nat → Prop) (w : World) (v : Value), Pairs T w v a.flat → Calls Try.prog 95 #[v] w (RVn w fun v w' => OwnP w' w.heap.size v a.trn.flat))
    (T : Nat → Prop) (w : World) (v : Value) (h : Pairs T w v (a.flat ++ [(x, y)])) :
    Calls Try.prog 95 #[v] w (RVn w fun v w' => OwnP w' w.heap.size v (a.trn.flat ++ [(x, y)])) := by
  have := turned_gen 1 [a.flat] [a.trn.flat] [a.trn.flat] x y a.flat rfl rfl (by omega) (fun h => absurd h hx) (by rw [if_neg hx]) (by have h1 := trn_len a; simp; omega) (by omega) ?_ ?_ v w h
  · simpa using this
  · intro T w v h
    refine (operands1_c v a x y w ha h hp h0 (by omega)).mono ?_
    rintro e w1 ⟨v1, rfl, hb1, ho⟩
    obtain ⟨u, o1, o2⟩ := ho.out
    refine RVn.mk hb1 ⟨_, o1, fun j hj => ?_⟩
    simp at hj
    obtain rfl : j = 0 := by omega
    exact o2
  · intro j hj T w v h
    obtain rfl : j = 0 := by omega
    exact iha T w v h
theorem turned0 {x y : Int} (hp : pOk x y) (h0 : pNeeds x = 0) (hx : x ≠ 4) (T : Nat → Prop) (w : World) (v : Value) (h : Pairs T w v [(x, y)]) :
    Calls Try.prog 95 #[v] w (RVn w fun v w' => OwnP w' w.heap.size v [(x, y)]) := by
  refine turned_gen 0 [] [] [] x y [] rfl rfl (by omega) (fun h => absurd h hx) (by rw [if_neg hx]) (by simp) (by simp) ?_ (fun j hj => absurd hj (Nat.not_lt_zero _)) v w h
  intro T w v h
  refine (operands0_c v x y w h hp h0).mono ?_
  rintro e w1 ⟨rfl, hb1⟩
  exact RVn.mk hb1 ⟨[], World.ownsRow_nil _ _ _ _, fun j hj => absurd hj (Nat.not_lt_zero _)⟩
theorem turnedExpr_c (t : Re) : t.wf → t.flat.length ≤ 60 → ∀ (T : Nat → Prop) (w : World) (v : Value), Pairs T w v t.flat → Calls Try.prog 95 #[v] w (RVn w fun v w' => OwnP w' w.heap.size v t.trn.flat) := by
  induction t with
  | none => exact fun _ _ => turned0 (by decide) (by decide) (by decide)
  | empty => exact fun _ _ => turned0 (by decide) (by decide) (by decide)
  | letter c => exact fun ht _ => turned0 (x := 3) (.inl ⟨rfl, ht.1, ht.2⟩) (by decide) (by decide)
  | join a b iha ihb =>
    intro ht hl T w v h
    have hll : (Re.join a b).flat.length = a.flat.length + b.flat.length + 1 := by simp [Re.flat]; omega
    rw [hll] at hl
    have := turned2 (x := 4) (y := 0) ht.1 ht.2 (by decide) (by decide) hl (iha ht.1 (by omega)) (ihb ht.2 (by omega)) [b.trn.flat, a.trn.flat] rfl T w v h
    simpa [Re.trn, Re.flat] using this
  | either a b iha ihb =>
    intro ht hl T w v h
    have hll : (Re.either a b).flat.length = a.flat.length + b.flat.length + 1 := by simp [Re.flat]; omega
    rw [hll] at hl
    have := turned2 (x := 5) (y := 0) ht.1 ht.2 (by decide) (by decide) hl (iha ht.1 (by omega)) (ihb ht.2 (by omega)) [a.trn.flat, b.trn.flat] rfl T w v h
    simpa [Re.trn, Re.flat] using this
  | both a b iha ihb =>
    intro ht hl T w v h
    have hll : (Re.both a b).flat.length = a.flat.length + b.flat.length + 1 := by simp [Re.flat]; omega
    rw [hll] at hl
    have := turned2 (x := 6) (y := 0) ht.1 ht.2 (by decide) (by decide) hl (iha ht.1 (by omega)) (ihb ht.2 (by omega)) [a.trn.flat, b.trn.flat] rfl T w v h
    simpa [Re.trn, Re.flat] using this
  | not a iha =>
    intro ht hl T w v h
    have hll : (Re.not a).flat.length = a.flat.length + 1 := by simp [Re.flat]
    rw [hll] at hl
    exact turned1 (a := a) (x := 7) (y := 0) ht (by decide) (by decide) (by decide) hl (iha ht (by omega)) T w v h
  | star a iha =>
    intro ht hl T w v h
    have hll : (Re.star a).flat.length = a.flat.length + 1 := by simp [Re.flat]
    rw [hll] at hl
    exact turned1 (a := a) (x := 8) (y := 0) ht (by decide) (by decide) (by decide) hl (iha ht (by omega)) T w v h
set_option maxHeartbeats 800000 in
theorem TurnExpr_c (v : Value) (t : Re) (w : World) (ht : t.wf) (hok : ExprOk t.flat) (h : Pairs S w v t.flat) : Calls Try.prog 40 #[v] w (RVn w fun v w' => OwnP w' w.heap.size v t.trn.flat) := by
  obtain ⟨a, cap, rfl, _⟩ := h.shape
  have H := Lib.hid h; clear h
  have HT := Lib.hid ht; have HO := Lib.hid hok; clear ht hok
  go_enter Try.func40, Try.ntmps40
  go_wp2_with fail
  refine (ExprValid_c _ t.flat w H.out).mono ?_
  rintro x w1 ⟨b1, rfl, hb1, hv⟩
  obtain rfl : b1 = true := hv.out.2 HO.out
  clear hv
  have HC := Lib.hid (turnedExpr_c t HT.out HO.out.2 S w1 _ (H.out.stay (kpB hb1)))
  have Hb := Lib.hid hb1; clear hb1 H HT HO
  go_wp2_with fail
  refine HC.out.mono ?_
  rintro x w2 ⟨v2, rfl, hb2, ho2⟩
  have hbs := Hb.out.size
  go_wp2
  go_ret
  exact RVn.mk (Hb.out.trans (hb2.mono hbs)) (ownBase ho2.out hbs)
theorem fpv_trn {t : Re} (ht : t.wf) (hok : ExprOk t.flat) (hp : plainE t.flat) : fpv t.trn.flat = t.trn.fps 0 := by
  have hok' : ExprOk t.trn.flat := (exprOk_iff _).2 ⟨t.trn, trn_wf ht, rfl, by rw [trn_len]; exact hok.2⟩
  refine fpv_some ?_
  unfold plT
  rw [if_pos ⟨hok', trn_plain hp⟩, parse_flat (trn_wf ht)]
end Go.Proofs.Ytnjddneelkdmoaa

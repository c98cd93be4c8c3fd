/- derived: the program's derivative of a whole expression of at most 60 parts by a letter.
Derive and DeriveWord of the program: derivatives by letters and words, as long as they have at most 60 parts. -/
import Derived.Deep.RegionHeld3
import Derived.Lib.SliceRun
import Derived.Test.YtbcjhiponbfbnaaGP
import Derived.Test.YtbcjhiponbfbnaaHem
import Derived.Test.YtbcjhiponbfbnaaAcc
set_option linter.unusedSimpArgs false
set_option linter.unusedVariables false
set_option linter.unusedSectionVars false
namespace Go.Proofs.Ytbcjhiponbfbnaa
open Go.RowKit
set_option maxRecDepth 100000
variable {S T : Nat → Prop}
set_option maxHeartbeats 800000 in
theorem der_none (c : Int) (u : Value) (w : World) (h : PR w u .none) (hm : True) : Calls Try.prog 87 #[u, .int .i64 c] w (RE w .none) := by
  have hmm : (Re.none).flat.length = 1 := rfl
  have ht := h.1
  obtain ⟨bb, off, cap, m, rfl, hm1, hm2, c0, c1⟩ := h.last
  replace c0 : w.cell? ⟨bb, off + m * 2, none⟩ = some (.int .i64 1) := c0
  replace c1 : w.cell? ⟨bb, off + m * 2 + 1, none⟩ = some (.int .i64 0) := c1
  have hI : IntKind.i64.wrap ((m + 1 : Nat) - 1 : Int) = (m : Int) := by rw [show (((m + 1 : Nat) : Int) - 1) = (m : Int) by omega]; exact IntWalk.i64_in _ (by omega)
  have hlt : (m : Int) < (m : Int) + 1 := by omega
  obtain ⟨W, hW⟩ : ∃ W, W = w.alloc (.cells #[.int .i64 1, .int .i64 0] 67) := ⟨_, rfl⟩
  have hBW : Below w.heap.size w W := by rw [hW]; exact (Below.refl _ _).alloc (Nat.le_refl _) _
  have KW : Hid (W.heap[w.heap.size]? = some (.cells #[.int .i64 1, .int .i64 0] 67 (0, 0))) := Lib.hid (by rw [hW]; exact blkNew _ _ rfl)
  have H := Lib.hid (h.stay hBW)
  have HBW := Lib.hid hBW
  have HOP := Lib.hid (operands0_c _ 1 0 W (h.stay hBW).2 (by decide) (by decide))
  have HW := Lib.hid hW
  obtain rfl : m = 0 := by omega
  simp only [Nat.zero_mul, Nat.add_zero] at c0 c1
  clear h hm1 hm2 hBW hW ht
  go_enter Try.func87, Try.ntmps87
  go_wp2_with fail
  rw [← HW.out]
  refine HOP.out.mono ?_
  rintro e w1 ⟨rfl, hb1⟩
  have K1 := Lib.hid (blkBel hb1 KW.out)
  obtain ⟨q0, q1, f0, f1⟩ := blk2 K1.out
  go_wp2_with fail
  refine (leafR_c 1 .none w1 trivial rfl).mono ?_
  rintro e w9 ⟨v9, rfl, hb9, hp9⟩
  have hbw := HBW.out.trans (hb1.mono HBW.out.size)
  go_wp2
  go_ret
  exact RE.mk (hbw.trans (hb9.mono hbw.size)) hp9.out
set_option maxHeartbeats 800000 in
theorem der_empty (c : Int) (u : Value) (w : World) (h : PR w u .empty) (hm : True) : Calls Try.prog 87 #[u, .int .i64 c] w (RE w .none) := by
  have hmm : (Re.empty).flat.length = 1 := rfl
  have ht := h.1
  obtain ⟨bb, off, cap, m, rfl, hm1, hm2, c0, c1⟩ := h.last
  replace c0 : w.cell? ⟨bb, off + m * 2, none⟩ = some (.int .i64 2) := c0
  replace c1 : w.cell? ⟨bb, off + m * 2 + 1, none⟩ = some (.int .i64 0) := c1
  have hI : IntKind.i64.wrap ((m + 1 : Nat) - 1 : Int) = (m : Int) := by rw [show (((m + 1 : Nat) : Int) - 1) = (m : Int) by omega]; exact IntWalk.i64_in _ (by omega)
  have hlt : (m : Int) < (m : Int) + 1 := by omega
  obtain ⟨W, hW⟩ : ∃ W, W = w.alloc (.cells #[.int .i64 2, .int .i64 0] 67) := ⟨_, rfl⟩
  have hBW : Below w.heap.size w W := by rw [hW]; exact (Below.refl _ _).alloc (Nat.le_refl _) _
  have KW : Hid (W.heap[w.heap.size]? = some (.cells #[.int .i64 2, .int .i64 0] 67 (0, 0))) := Lib.hid (by rw [hW]; exact blkNew _ _ rfl)
  have H := Lib.hid (h.stay hBW)
  have HBW := Lib.hid hBW
  have HOP := Lib.hid (operands0_c _ 2 0 W (h.stay hBW).2 (by decide) (by decide))
  have HW := Lib.hid hW
  obtain rfl : m = 0 := by omega
  simp only [Nat.zero_mul, Nat.add_zero] at c0 c1
  clear h hm1 hm2 hBW hW ht
  go_enter Try.func87, Try.ntmps87
  go_wp2_with fail
  rw [← HW.out]
  refine HOP.out.mono ?_
  rintro e w1 ⟨rfl, hb1⟩
  have K1 := Lib.hid (blkBel hb1 KW.out)
  obtain ⟨q0, q1, f0, f1⟩ := blk2 K1.out
  go_wp2_with fail
  refine (leafR_c 1 .none w1 trivial rfl).mono ?_
  rintro e w9 ⟨v9, rfl, hb9, hp9⟩
  have hbw := HBW.out.trans (hb1.mono HBW.out.size)
  go_wp2
  go_ret
  exact RE.mk (hbw.trans (hb9.mono hbw.size)) hp9.out
set_option maxHeartbeats 800000 in
theorem der_letter (d c : Int) (u : Value) (w : World) (h : PR w u (.letter d)) : Calls Try.prog 87 #[u, .int .i64 c] w (RE w (Re.der c (.letter d))) := by
  have hmm : (Re.letter d).flat.length = 1 := rfl
  have ht := h.1
  obtain ⟨bb, off, cap, m, rfl, hm1, hm2, c0, c1⟩ := h.last
  replace c0 : w.cell? ⟨bb, off + m * 2, none⟩ = some (.int .i64 3) := c0
  replace c1 : w.cell? ⟨bb, off + m * 2 + 1, none⟩ = some (.int .i64 d) := c1
  have hI : IntKind.i64.wrap ((m + 1 : Nat) - 1 : Int) = (m : Int) := by rw [show (((m + 1 : Nat) : Int) - 1) = (m : Int) by omega]; exact IntWalk.i64_in _ (by omega)
  have hlt : (m : Int) < (m : Int) + 1 := by omega
  obtain ⟨W, hW⟩ : ∃ W, W = w.alloc (.cells #[.int .i64 3, .int .i64 d] 67) := ⟨_, rfl⟩
  have hBW : Below w.heap.size w W := by rw [hW]; exact (Below.refl _ _).alloc (Nat.le_refl _) _
  have KW : Hid (W.heap[w.heap.size]? = some (.cells #[.int .i64 3, .int .i64 d] 67 (0, 0))) := Lib.hid (by rw [hW]; exact blkNew _ _ rfl)
  have H := Lib.hid (h.stay hBW)
  have HBW := Lib.hid hBW
  have HOP := Lib.hid (operands0_c _ 3 d W (h.stay hBW).2 (.inl ⟨rfl, ht.1, ht.2⟩) (by decide))
  have HW := Lib.hid hW
  obtain rfl : m = 0 := by omega
  simp only [Nat.zero_mul, Nat.add_zero] at c0 c1
  have HE : Hid (Re.der c (.letter d) = if d = c then .empty else .none) := Lib.hid rfl
  clear h hm1 hm2 hBW hW ht
  go_enter Try.func87, Try.ntmps87
  go_wp2_with fail
  rw [← HW.out]
  refine HOP.out.mono ?_
  rintro e w1 ⟨rfl, hb1⟩
  have K1 := Lib.hid (blkBel hb1 KW.out)
  obtain ⟨q0, q1, f0, f1⟩ := blk2 K1.out
  have hbw := HBW.out.trans (hb1.mono HBW.out.size)
  by_cases hdc : d = c
  · have hd : (d == c) = true := by simpa using hdc
    rw [if_pos hdc] at HE
    clear hdc
    go_wp2_with fail
    refine (leafR_c 2 .empty w1 trivial rfl).mono ?_
    rintro e w9 ⟨v9, rfl, hb9, hp9⟩
    go_wp2
    go_ret
    exact RE.mk (hbw.trans (hb9.mono hbw.size)) (by rw [HE.out]; exact hp9.out)
  · have hd : (d == c) = false := by simpa using hdc
    rw [if_neg hdc] at HE
    clear hdc
    go_wp2_with fail
    refine (leafR_c 1 .none w1 trivial rfl).mono ?_
    rintro e w9 ⟨v9, rfl, hb9, hp9⟩
    go_wp2
    go_ret
    exact RE.mk (hbw.trans (hb9.mono hbw.size)) (by rw [HE.out]; exact hp9.out)
set_option maxHeartbeats 800000 in
theorem der_not (a : Re) (hl : a.len ≤ 59) (c : Int) (iha : ∀ (w : World) (v : Value), PR w v a → Calls Try.prog 87 #[v, .int .i64 c] w (RE w (a.der c))) (u : Value) (w : World) (h : PR w u (.not a)) : Calls Try.prog 87 #[u, .int .i64 c] w (RE w (Re.der c (.not a))) := by
  have hla : a.flat.length ≤ 59 := hl
  have hmm : (Re.not a).flat.length = a.flat.length + 1 := len_not a
  have ht := h.1
  obtain ⟨bb, off, cap, m, rfl, hm1, hm2, c0, c1⟩ := h.last
  replace c0 : w.cell? ⟨bb, off + m * 2, none⟩ = some (.int .i64 7) := c0
  replace c1 : w.cell? ⟨bb, off + m * 2 + 1, none⟩ = some (.int .i64 0) := c1
  have hI : IntKind.i64.wrap ((m + 1 : Nat) - 1 : Int) = (m : Int) := by rw [show (((m + 1 : Nat) : Int) - 1) = (m : Int) by omega]; exact IntWalk.i64_in _ (by omega)
  have hlt : (m : Int) < (m : Int) + 1 := by omega
  obtain ⟨W, hW⟩ : ∃ W, W = w.alloc (.cells #[.int .i64 7, .int .i64 0] 67) := ⟨_, rfl⟩
  have hBW : Below w.heap.size w W := by rw [hW]; exact (Below.refl _ _).alloc (Nat.le_refl _) _
  have KW : Hid (W.heap[w.heap.size]? = some (.cells #[.int .i64 7, .int .i64 0] 67 (0, 0))) := Lib.hid (by rw [hW]; exact blkNew _ _ rfl)
  have H := Lib.hid (h.stay hBW)
  have HBW := Lib.hid hBW
  have HOP := Lib.hid (operands1_c _ a 7 0 W h.1 (h.stay hBW).2 (by decide) (by decide) (Nat.le_trans hla (by decide)))
  have HW := Lib.hid hW
  have hm60 : m ≤ 59 := by omega
  have HE : Hid (Re.der c (.not a) = (a.der c).mkNot) := Lib.hid rfl
  have HA : Hid a.wf := Lib.hid ht
  have IA := Lib.hid iha
  have HL : Hid ((a.der c).len ≤ 1000000) := Lib.hid (by have h1 := len_der c a; have h2 : a.len * a.len ≤ 59 * 59 := Nat.mul_le_mul hl hl; omega)
  clear iha hmm hla hl
  clear h hm1 hm2 hBW hW ht
  go_enter Try.func87, Try.ntmps87
  go_wp2_with fail
  rw [← HW.out]
  refine HOP.out.mono ?_
  rintro e w1 ⟨vo, rfl, hb1, ho⟩
  have K1 := Lib.hid (blkBel hb1 KW.out)
  obtain ⟨q0, q1, f0, f1⟩ := blk2 K1.out
  have HB1 := Lib.hid (HBW.out.trans (hb1.mono HBW.out.size))
  obtain ⟨g, cg, ad1, cap1, rfl, _, _, kc1, kf1, hP1⟩ := ho.out.at
  have HP1 : Hid (PR w1 _ a) := Lib.hid (PR.of HA.out hP1 hb1); clear hP1
  have HE1 := Lib.hid (H.out.stay hb1)
  obtain ⟨n1, hn1⟩ : ∃ n1, n1 = a.flat.length := ⟨_, rfl⟩
  rw [← hn1] at kc1 HP1
  clear hn1 ho HOP
  go_wp2_with fail
  refine (IA.out w1 _ HP1.out).mono ?_
  rintro e w2 ⟨va, rfl, hb2, hpa⟩
  clear kc1 kf1 q0 q1 f0 f1
  go_wp2_with fail
  refine (not_c _ _ w2 hpa.out HL.out).mono ?_
  rintro e w3 ⟨vb, rfl, hb3, hpb⟩
  go_wp2
  go_ret
  exact RE.mk ((HB1.out.trans (hb2.mono HB1.out.size)).trans (hb3.mono (Nat.le_trans HB1.out.size hb2.size))) (by rw [HE.out]; exact hpb.out)
set_option maxHeartbeats 800000 in
theorem der_star (a : Re) (hl : a.len ≤ 59) (c : Int) (iha : ∀ (w : World) (v : Value), PR w v a → Calls Try.prog 87 #[v, .int .i64 c] w (RE w (a.der c))) (u : Value) (w : World) (h : PR w u (.star a)) : Calls Try.prog 87 #[u, .int .i64 c] w (RE w (Re.der c (.star a))) := by
  have hla : a.flat.length ≤ 59 := hl
  have hmm : (Re.star a).flat.length = a.flat.length + 1 := len_star a
  have ht := h.1
  obtain ⟨bb, off, cap, m, rfl, hm1, hm2, c0, c1⟩ := h.last
  replace c0 : w.cell? ⟨bb, off + m * 2, none⟩ = some (.int .i64 8) := c0
  replace c1 : w.cell? ⟨bb, off + m * 2 + 1, none⟩ = some (.int .i64 0) := c1
  have hI : IntKind.i64.wrap ((m + 1 : Nat) - 1 : Int) = (m : Int) := by rw [show (((m + 1 : Nat) : Int) - 1) = (m : Int) by omega]; exact IntWalk.i64_in _ (by omega)
  have hlt : (m : Int) < (m : Int) + 1 := by omega
  obtain ⟨W, hW⟩ : ∃ W, W = w.alloc (.cells #[.int .i64 8, .int .i64 0] 67) := ⟨_, rfl⟩
  have hBW : Below w.heap.size w W := by rw [hW]; exact (Below.refl _ _).alloc (Nat.le_refl _) _
  have KW : Hid (W.heap[w.heap.size]? = some (.cells #[.int .i64 8, .int .i64 0] 67 (0, 0))) := Lib.hid (by rw [hW]; exact blkNew _ _ rfl)
  have H := Lib.hid (h.stay hBW)
  have HBW := Lib.hid hBW
  have HOP := Lib.hid (operands1_c _ a 8 0 W h.1 (h.stay hBW).2 (by decide) (by decide) (Nat.le_trans hla (by decide)))
  have HW := Lib.hid hW
  have hm60 : m ≤ 59 := by omega
  have HE : Hid (Re.der c (.star a) = (a.der c).mkJoin (Re.star a).smp) := Lib.hid rfl
  have HA : Hid a.wf := Lib.hid ht
  have HS : Hid ((Re.star a).wf ∧ (Re.star a).len ≤ 60) := Lib.hid ⟨ht, by rw [len_star]; omega⟩
  have IA := Lib.hid iha
  have HL : Hid ((a.der c).len + (Re.star a).smp.len ≤ 1000000) := Lib.hid (by have h1 := len_der c a; have h2 : a.len * a.len ≤ 59 * 59 := Nat.mul_le_mul hl hl; have h3 := len_smp (Re.star a); rw [len_star] at h3; omega)
  clear iha hmm hla hl
  clear h hm1 hm2 hBW hW ht
  go_enter Try.func87, Try.ntmps87
  go_wp2_with fail
  rw [← HW.out]
  refine HOP.out.mono ?_
  rintro e w1 ⟨vo, rfl, hb1, ho⟩
  have K1 := Lib.hid (blkBel hb1 KW.out)
  obtain ⟨q0, q1, f0, f1⟩ := blk2 K1.out
  have HB1 := Lib.hid (HBW.out.trans (hb1.mono HBW.out.size))
  obtain ⟨g, cg, ad1, cap1, rfl, _, _, kc1, kf1, hP1⟩ := ho.out.at
  have HP1 : Hid (PR w1 _ a) := Lib.hid (PR.of HA.out hP1 hb1); clear hP1
  have HE1 := Lib.hid (H.out.stay hb1)
  obtain ⟨n1, hn1⟩ : ∃ n1, n1 = a.flat.length := ⟨_, rfl⟩
  rw [← hn1] at kc1 HP1
  clear hn1 ho HOP
  go_wp2_with fail
  refine (IA.out w1 _ HP1.out).mono ?_
  rintro e w2 ⟨va, rfl, hb2, hpa⟩
  clear kc1 kf1 q0 q1 f0 f1
  have HE2 := Lib.hid (HE1.out.stay hb2)
  obtain ⟨aA, cA, rfl, _⟩ := hpa.out.shape
  go_wp2_with fail
  refine (simplified_c _ HS.out.1 (Nat.le_trans HS.out.2 (by decide)) w2 _ HE2.out).mono ?_
  rintro e w3 ⟨vb, rfl, hb3, hpb⟩
  have hpa3 := Lib.hid (hpa.out.stay hb3)
  go_wp2_with fail
  refine (joined_c _ _ _ _ w3 hpa3.out hpb.out HL.out).mono ?_
  rintro e w4 ⟨vc, rfl, hb4, hpc⟩
  have hb3' := (HB1.out.trans (hb2.mono HB1.out.size)).trans (hb3.mono (Nat.le_trans HB1.out.size hb2.size))
  go_wp2
  go_ret
  exact RE.mk (hb3'.trans (hb4.mono hb3'.size)) (by rw [HE.out]; exact hpc.out)
set_option maxHeartbeats 2000000 in
theorem der_either (a b : Re) (hl : a.len + b.len ≤ 59) (c : Int) (iha : ∀ (w : World) (v : Value), PR w v a → Calls Try.prog 87 #[v, .int .i64 c] w (RE w (a.der c))) (ihb : ∀ (w : World) (v : Value), PR w v b → Calls Try.prog 87 #[v, .int .i64 c] w (RE w (b.der c)))
    (u : Value) (w : World) (h : PR w u (.either a b)) : Calls Try.prog 87 #[u, .int .i64 c] w (RE w (Re.der c (.either a b))) := by
  have hlab : (a.flat ++ b.flat).length ≤ 59 := by rw [List.length_append]; exact hl
  have hmm : (Re.either a b).flat.length = a.flat.length + b.flat.length + 1 := len_either a b
  have hlab2 : a.flat.length + b.flat.length ≤ 59 := hl
  have ht := h.1
  obtain ⟨bb, off, cap, m, rfl, hm1, hm2, c0, c1⟩ := h.last
  replace c0 : w.cell? ⟨bb, off + m * 2, none⟩ = some (.int .i64 5) := c0
  replace c1 : w.cell? ⟨bb, off + m * 2 + 1, none⟩ = some (.int .i64 0) := c1
  have hI : IntKind.i64.wrap ((m + 1 : Nat) - 1 : Int) = (m : Int) := by rw [show (((m + 1 : Nat) : Int) - 1) = (m : Int) by omega]; exact IntWalk.i64_in _ (by omega)
  have hlt : (m : Int) < (m : Int) + 1 := by omega
  obtain ⟨W, hW⟩ : ∃ W, W = w.alloc (.cells #[.int .i64 5, .int .i64 0] 67) := ⟨_, rfl⟩
  have hBW : Below w.heap.size w W := by rw [hW]; exact (Below.refl _ _).alloc (Nat.le_refl _) _
  have KW : Hid (W.heap[w.heap.size]? = some (.cells #[.int .i64 5, .int .i64 0] 67 (0, 0))) := Lib.hid (by rw [hW]; exact blkNew _ _ rfl)
  have H := Lib.hid (h.stay hBW)
  have HBW := Lib.hid hBW
  have HOP := Lib.hid (operands2_c _ a b 5 0 W h.1.1 h.1.2 (h.stay hBW).2 (by decide) (by decide) (Nat.le_trans hlab (by decide)))
  have HW := Lib.hid hW
  have hm60 : m ≤ 59 := by omega
  have HE : Hid (Re.der c (.either a b) = Re.mk3 5 (a.der c) (b.der c)) := Lib.hid rfl
  have HA : Hid a.wf := Lib.hid ht.1
  have HB : Hid b.wf := Lib.hid ht.2
  have IA := Lib.hid iha; have IB := Lib.hid ihb
  have HL : Hid ((a.der c).len + (b.der c).len ≤ 1000000) := Lib.hid (by have h1 := len_der c a; have h2 : a.len * a.len ≤ 59 * 59 := Nat.mul_le_mul (by omega) (by omega); have h3 := len_der c b; have h4 : b.len * b.len ≤ 59 * 59 := Nat.mul_le_mul (by omega) (by omega); omega)
  clear iha ihb hmm hlab hlab2 hl
  clear h hm1 hm2 hBW hW ht
  go_enter Try.func87, Try.ntmps87
  go_wp2_with fail
  rw [← HW.out]
  refine HOP.out.mono ?_
  rintro e w1 ⟨vo, rfl, hb1, ho⟩
  have K1 := Lib.hid (blkBel hb1 KW.out)
  obtain ⟨q0, q1, f0, f1⟩ := blk2 K1.out
  have HB1 := Lib.hid (HBW.out.trans (hb1.mono HBW.out.size))
  obtain ⟨g, cg, ad1, cap1, ad2, cap2, rfl, _, _, kc1, kc2, hP1, hP2⟩ := ho.out.at
  have HP1 : Hid (PR w1 _ a) := Lib.hid (PR.of HA.out hP1 hb1); have HP2 : Hid (PR w1 _ b) := Lib.hid (PR.of HB.out hP2 hb1); clear hP1 hP2
  obtain ⟨n1, hn1⟩ : ∃ n1, n1 = a.flat.length := ⟨_, rfl⟩
  obtain ⟨n2, hn2⟩ : ∃ n2, n2 = b.flat.length := ⟨_, rfl⟩
  rw [← hn1] at kc1 HP1
  rw [← hn2] at kc2 HP2
  have HD1 := Lib.hid (HP1.out.stay (Below.refl _ _).drew); have HD2 := Lib.hid (HP2.out.stay (Below.refl _ _).drew)
  have KD : Hid ((w1.drew.cell? ⟨g, 0, none⟩ = some (.slice ad1 n1 cap1) ∧ w1.drew.cell? ⟨g, 1, none⟩ = some (.slice ad2 n2 cap2)) ∧ w1.drew.cell? ⟨w.heap.size, 0, none⟩ = some (.int .i64 5)) := ⟨⟨kc1, kc2⟩, q0⟩
  clear hn1 hn2 ho HOP HP1 HP2 q1 f1
  go_wp2_with fail
  go_region_held3 (fun w' => (w'.cell? ⟨g, 0, none⟩ = some (.slice ad1 n1 cap1) ∧ w'.cell? ⟨g, 1, none⟩ = some (.slice ad2 n2 cap2)) ∧ w'.cell? ⟨w.heap.size, 0, none⟩ = some (.int .i64 5))
    (first | exact KD.out | exact ⟨⟨kpB (S := fun _ => True) hb2 _ _ trivial KD.out.1.1, kpB (S := fun _ => True) hb2 _ _ trivial KD.out.1.2⟩, kpB (S := fun _ => True) hb2 _ _ trivial KD.out.2⟩ | exact ⟨⟨kpB (S := fun _ => True) hb4 _ _ trivial KD.out.1.1, kpB (S := fun _ => True) hb4 _ _ trivial KD.out.1.2⟩, kpB (S := fun _ => True) hb4 _ _ trivial KD.out.2⟩ | exact ⟨⟨kpB (S := fun _ => True) hb3 _ _ trivial KD.out.1.1, kpB (S := fun _ => True) hb3 _ _ trivial KD.out.1.2⟩, kpB (S := fun _ => True) hb3 _ _ trivial KD.out.2⟩)
    (first
      | (go_at_call 87
         (with_reducible refine (IA.out w1.drew _ HD1.out).mono ?_)
         rintro e w2 ⟨va, rfl, hb2, hpa⟩
         obtain ⟨aA, cA, rfl, _⟩ := hpa.out.shape)
      | (go_at_call 87
         (with_reducible refine (IB.out w2 _ (HD2.out.stay hb2)).mono ?_)
         rintro e w3 ⟨vb, rfl, hb3', hpb⟩
         have hb3 := hb2.trans (hb3'.mono hb2.size)
         obtain ⟨aB, cB, rfl, _⟩ := hpb.out.shape)
      | (go_at_call 122
         (with_reducible refine (made_c _ _ _ _ _ w3 (hpa.out.stay hb3') hpb.out HL.out).mono ?_)
         rintro e w4 ⟨vc, rfl, hb4', hpc⟩
         have hb4 := hb3.trans (hb4'.mono hb3.size)))
  go_wp2
  go_ret
  exact RE.mk (HB1.out.trans (((Below.refl _ _).drew.trans hb4).mono HB1.out.size)) (by rw [HE.out]; exact hpc.out)
set_option maxHeartbeats 2000000 in
theorem der_both (a b : Re) (hl : a.len + b.len ≤ 59) (c : Int) (iha : ∀ (w : World) (v : Value), PR w v a → Calls Try.prog 87 #[v, .int .i64 c] w (RE w (a.der c))) (ihb : ∀ (w : World) (v : Value), PR w v b → Calls Try.prog 87 #[v, .int .i64 c] w (RE w (b.der c)))
    (u : Value) (w : World) (h : PR w u (.both a b)) : Calls Try.prog 87 #[u, .int .i64 c] w (RE w (Re.der c (.both a b))) := by
  have hlab : (a.flat ++ b.flat).length ≤ 59 := by rw [List.length_append]; exact hl
  have hmm : (Re.both a b).flat.length = a.flat.length + b.flat.length + 1 := len_both a b
  have hlab2 : a.flat.length + b.flat.length ≤ 59 := hl
  have ht := h.1
  obtain ⟨bb, off, cap, m, rfl, hm1, hm2, c0, c1⟩ := h.last
  replace c0 : w.cell? ⟨bb, off + m * 2, none⟩ = some (.int .i64 6) := c0
  replace c1 : w.cell? ⟨bb, off + m * 2 + 1, none⟩ = some (.int .i64 0) := c1
  have hI : IntKind.i64.wrap ((m + 1 : Nat) - 1 : Int) = (m : Int) := by rw [show (((m + 1 : Nat) : Int) - 1) = (m : Int) by omega]; exact IntWalk.i64_in _ (by omega)
  have hlt : (m : Int) < (m : Int) + 1 := by omega
  obtain ⟨W, hW⟩ : ∃ W, W = w.alloc (.cells #[.int .i64 6, .int .i64 0] 67) := ⟨_, rfl⟩
  have hBW : Below w.heap.size w W := by rw [hW]; exact (Below.refl _ _).alloc (Nat.le_refl _) _
  have KW : Hid (W.heap[w.heap.size]? = some (.cells #[.int .i64 6, .int .i64 0] 67 (0, 0))) := Lib.hid (by rw [hW]; exact blkNew _ _ rfl)
  have H := Lib.hid (h.stay hBW)
  have HBW := Lib.hid hBW
  have HOP := Lib.hid (operands2_c _ a b 6 0 W h.1.1 h.1.2 (h.stay hBW).2 (by decide) (by decide) (Nat.le_trans hlab (by decide)))
  have HW := Lib.hid hW
  have hm60 : m ≤ 59 := by omega
  have HE : Hid (Re.der c (.both a b) = Re.mk3 6 (a.der c) (b.der c)) := Lib.hid rfl
  have HA : Hid a.wf := Lib.hid ht.1
  have HB : Hid b.wf := Lib.hid ht.2
  have IA := Lib.hid iha; have IB := Lib.hid ihb
  have HL : Hid ((a.der c).len + (b.der c).len ≤ 1000000) := Lib.hid (by have h1 := len_der c a; have h2 : a.len * a.len ≤ 59 * 59 := Nat.mul_le_mul (by omega) (by omega); have h3 := len_der c b; have h4 : b.len * b.len ≤ 59 * 59 := Nat.mul_le_mul (by omega) (by omega); omega)
  clear iha ihb hmm hlab hlab2 hl
  clear h hm1 hm2 hBW hW ht
  go_enter Try.func87, Try.ntmps87
  go_wp2_with fail
  rw [← HW.out]
  refine HOP.out.mono ?_
  rintro e w1 ⟨vo, rfl, hb1, ho⟩
  have K1 := Lib.hid (blkBel hb1 KW.out)
  obtain ⟨q0, q1, f0, f1⟩ := blk2 K1.out
  have HB1 := Lib.hid (HBW.out.trans (hb1.mono HBW.out.size))
  obtain ⟨g, cg, ad1, cap1, ad2, cap2, rfl, _, _, kc1, kc2, hP1, hP2⟩ := ho.out.at
  have HP1 : Hid (PR w1 _ a) := Lib.hid (PR.of HA.out hP1 hb1); have HP2 : Hid (PR w1 _ b) := Lib.hid (PR.of HB.out hP2 hb1); clear hP1 hP2
  obtain ⟨n1, hn1⟩ : ∃ n1, n1 = a.flat.length := ⟨_, rfl⟩
  obtain ⟨n2, hn2⟩ : ∃ n2, n2 = b.flat.length := ⟨_, rfl⟩
  rw [← hn1] at kc1 HP1
  rw [← hn2] at kc2 HP2
  have HD1 := Lib.hid (HP1.out.stay (Below.refl _ _).drew); have HD2 := Lib.hid (HP2.out.stay (Below.refl _ _).drew)
  have KD : Hid ((w1.drew.cell? ⟨g, 0, none⟩ = some (.slice ad1 n1 cap1) ∧ w1.drew.cell? ⟨g, 1, none⟩ = some (.slice ad2 n2 cap2)) ∧ w1.drew.cell? ⟨w.heap.size, 0, none⟩ = some (.int .i64 6)) := ⟨⟨kc1, kc2⟩, q0⟩
  clear hn1 hn2 ho HOP HP1 HP2 q1 f1
  go_wp2_with fail
  go_region_held3 (fun w' => (w'.cell? ⟨g, 0, none⟩ = some (.slice ad1 n1 cap1) ∧ w'.cell? ⟨g, 1, none⟩ = some (.slice ad2 n2 cap2)) ∧ w'.cell? ⟨w.heap.size, 0, none⟩ = some (.int .i64 6))
    (first | exact KD.out | exact ⟨⟨kpB (S := fun _ => True) hb2 _ _ trivial KD.out.1.1, kpB (S := fun _ => True) hb2 _ _ trivial KD.out.1.2⟩, kpB (S := fun _ => True) hb2 _ _ trivial KD.out.2⟩ | exact ⟨⟨kpB (S := fun _ => True) hb4 _ _ trivial KD.out.1.1, kpB (S := fun _ => True) hb4 _ _ trivial KD.out.1.2⟩, kpB (S := fun _ => True) hb4 _ _ trivial KD.out.2⟩ | exact ⟨⟨kpB (S := fun _ => True) hb3 _ _ trivial KD.out.1.1, kpB (S := fun _ => True) hb3 _ _ trivial KD.out.1.2⟩, kpB (S := fun _ => True) hb3 _ _ trivial KD.out.2⟩)
    (first
      | (go_at_call 87
         (with_reducible refine (IA.out w1.drew _ HD1.out).mono ?_)
         rintro e w2 ⟨va, rfl, hb2, hpa⟩
         obtain ⟨aA, cA, rfl, _⟩ := hpa.out.shape)
      | (go_at_call 87
         (with_reducible refine (IB.out w2 _ (HD2.out.stay hb2)).mono ?_)
         rintro e w3 ⟨vb, rfl, hb3', hpb⟩
         have hb3 := hb2.trans (hb3'.mono hb2.size)
         obtain ⟨aB, cB, rfl, _⟩ := hpb.out.shape)
      | (go_at_call 122
         (with_reducible refine (made_c _ _ _ _ _ w3 (hpa.out.stay hb3') hpb.out HL.out).mono ?_)
         rintro e w4 ⟨vc, rfl, hb4', hpc⟩
         have hb4 := hb3.trans (hb4'.mono hb3.size)))
  go_wp2
  go_ret
  exact RE.mk (HB1.out.trans (((Below.refl _ _).drew.trans hb4).mono HB1.out.size)) (by rw [HE.out]; exact hpc.out)
set_option maxHeartbeats 2000000 in
theorem der_join (a b : Re) (hl : a.len + b.len ≤ 59) (c : Int) (iha : ∀ (w : World) (v : Value), PR w v a → Calls Try.prog 87 #[v, .int .i64 c] w (RE w (a.der c))) (ihb : ∀ (w : World) (v : Value), PR w v b → Calls Try.prog 87 #[v, .int .i64 c] w (RE w (b.der c)))
    (u : Value) (w : World) (h : PR w u (.join a b)) : Calls Try.prog 87 #[u, .int .i64 c] w (RE w (Re.der c (.join a b))) := by
  have hlab : (a.flat ++ b.flat).length ≤ 59 := by rw [List.length_append]; exact hl
  have hmm : (Re.join a b).flat.length = a.flat.length + b.flat.length + 1 := len_join a b
  have hlab2 : a.flat.length + b.flat.length ≤ 59 := hl
  have ht := h.1
  obtain ⟨bb, off, cap, m, rfl, hm1, hm2, c0, c1⟩ := h.last
  replace c0 : w.cell? ⟨bb, off + m * 2, none⟩ = some (.int .i64 4) := c0
  replace c1 : w.cell? ⟨bb, off + m * 2 + 1, none⟩ = some (.int .i64 0) := c1
  have hI : IntKind.i64.wrap ((m + 1 : Nat) - 1 : Int) = (m : Int) := by rw [show (((m + 1 : Nat) : Int) - 1) = (m : Int) by omega]; exact IntWalk.i64_in _ (by omega)
  have hlt : (m : Int) < (m : Int) + 1 := by omega
  obtain ⟨W, hW⟩ : ∃ W, W = w.alloc (.cells #[.int .i64 4, .int .i64 0] 67) := ⟨_, rfl⟩
  have hBW : Below w.heap.size w W := by rw [hW]; exact (Below.refl _ _).alloc (Nat.le_refl _) _
  have KW : Hid (W.heap[w.heap.size]? = some (.cells #[.int .i64 4, .int .i64 0] 67 (0, 0))) := Lib.hid (by rw [hW]; exact blkNew _ _ rfl)
  have H := Lib.hid (h.stay hBW)
  have HBW := Lib.hid hBW
  have HOP := Lib.hid (operands2_c _ a b 4 0 W h.1.1 h.1.2 (h.stay hBW).2 (by decide) (by decide) (Nat.le_trans hlab (by decide)))
  have HW := Lib.hid hW
  have hm60 : m ≤ 59 := by omega
  have HE : Hid (Re.der c (.join a b) = if a.nul then ((a.der c).mkJoin b.smp).mkEither (b.der c) else (a.der c).mkJoin b.smp) := Lib.hid rfl
  have HA : Hid a.wf := Lib.hid ht.1
  have HB : Hid b.wf := Lib.hid ht.2
  have HLA : Hid (a.flat.length ≤ 60) := Lib.hid (by omega)
  have HLB : Hid (b.len ≤ 60) := Lib.hid (by omega)
  have IA := Lib.hid iha; have IB := Lib.hid ihb
  have HL : Hid ((a.der c).len + b.smp.len ≤ 1000000 ∧ ((a.der c).mkJoin b.smp).len + (b.der c).len ≤ 1000000) := Lib.hid (by have h1 := len_der c a; have h2 : a.len * a.len ≤ 59 * 59 := Nat.mul_le_mul (by omega) (by omega); have h3 := len_der c b; have h4 : b.len * b.len ≤ 59 * 59 := Nat.mul_le_mul (by omega) (by omega); have h5 := len_smp b; have h6 := len_mkJoin (a.der c) b.smp; omega)
  clear iha ihb hmm hlab hlab2 hl
  clear h hm1 hm2 hBW hW ht
  go_enter Try.func87, Try.ntmps87
  go_wp2_with fail
  rw [← HW.out]
  refine HOP.out.mono ?_
  rintro e w1 ⟨vo, rfl, hb1, ho⟩
  have K1 := Lib.hid (blkBel hb1 KW.out)
  obtain ⟨q0, q1, f0, f1⟩ := blk2 K1.out
  have HB1 := Lib.hid (HBW.out.trans (hb1.mono HBW.out.size))
  obtain ⟨g, cg, ad1, cap1, ad2, cap2, rfl, _, _, kc1, kc2, hP1, hP2⟩ := ho.out.at
  have HP1 : Hid (PR w1 _ a) := Lib.hid (PR.of HA.out hP1 hb1); have HP2 : Hid (PR w1 _ b) := Lib.hid (PR.of HB.out hP2 hb1); clear hP1 hP2
  obtain ⟨n1, hn1⟩ : ∃ n1, n1 = a.flat.length := ⟨_, rfl⟩
  obtain ⟨n2, hn2⟩ : ∃ n2, n2 = b.flat.length := ⟨_, rfl⟩
  rw [← hn1] at kc1 HP1
  rw [← hn2] at kc2 HP2
  have HD1 := Lib.hid (HP1.out.stay (Below.refl _ _).drew); have HD2 := Lib.hid (HP2.out.stay (Below.refl _ _).drew)
  have KD : Hid (w1.drew.cell? ⟨g, 0, none⟩ = some (.slice ad1 n1 cap1) ∧ w1.drew.cell? ⟨g, 1, none⟩ = some (.slice ad2 n2 cap2)) := ⟨kc1, kc2⟩
  clear hn1 hn2 ho HOP HP1 HP2 q1 f0 f1
  go_wp2_with fail
  go_region_held3 (fun w' => w'.cell? ⟨g, 0, none⟩ = some (.slice ad1 n1 cap1) ∧ w'.cell? ⟨g, 1, none⟩ = some (.slice ad2 n2 cap2))
    (first | exact KD.out | exact ⟨kpB (S := fun _ => True) hb2 _ _ trivial KD.out.1, kpB (S := fun _ => True) hb2 _ _ trivial KD.out.2⟩ | exact ⟨kpB (S := fun _ => True) hb4 _ _ trivial KD.out.1, kpB (S := fun _ => True) hb4 _ _ trivial KD.out.2⟩ | exact ⟨kpB (S := fun _ => True) hb3 _ _ trivial KD.out.1, kpB (S := fun _ => True) hb3 _ _ trivial KD.out.2⟩)
    (first
      | (go_at_call 87
         (with_reducible refine (IA.out w1.drew _ HD1.out).mono ?_)
         rintro e w2 ⟨va, rfl, hb2, hpa⟩
         obtain ⟨aA, cA, rfl, _⟩ := hpa.out.shape)
      | (go_at_call 121
         (with_reducible refine (simplified_c b HB.out (Nat.le_trans HLB.out (by decide)) w2 _ (HD2.out.stay hb2)).mono ?_)
         rintro e w3 ⟨vb, rfl, hb3', hpb⟩
         have hb3 := hb2.trans (hb3'.mono hb2.size)
         obtain ⟨aB, cB, rfl, _⟩ := hpb.out.shape)
      | (go_at_call 114
         (with_reducible refine (joined_c _ _ _ _ w3 (hpa.out.stay hb3') hpb.out HL.out.1).mono ?_)
         rintro e w4 ⟨vc, rfl, hb4', hpc⟩
         have hb4 := hb3.trans (hb4'.mono hb3.size)
         obtain ⟨aC, cC, rfl, _⟩ := hpc.out.shape))
  clear q0
  have HB4 := Lib.hid (HB1.out.trans (((Below.refl _ _).drew.trans hb4).mono HB1.out.size))
  have HP1 := Lib.hid (HD1.out.stay hb4); have HP2 := Lib.hid (HD2.out.stay hb4)
  have r1 := kpB (S := fun _ => True) hb4 _ _ trivial KD.out.1
  have r2 := kpB (S := fun _ => True) hb4 _ _ trivial KD.out.2
  clear HD1 HD2 KD kc1 kc2 hb2 hb3 hb3' hb4 hb4' hpa hpb
  go_wp2_with fail
  refine (hasEmpty_c a HA.out HLA.out _ w4 HP1.out.any).mono ?_
  rintro e w5 ⟨rfl, hb5⟩
  have HP2 := Lib.hid (HP2.out.stay hb5)
  have HPC := Lib.hid (hpc.out.stay hb5)
  have HB5 := Lib.hid (HB4.out.trans (hb5.mono HB4.out.size))
  replace r2 := kpB (S := fun _ => True) hb5 _ _ trivial r2
  generalize a.nul = q at *
  cases q
  · rw [if_neg (by decide)] at HE
    go_wp2
    go_ret
    exact RE.mk HB5.out (by rw [HE.out]; exact HPC.out)
  · rw [if_pos rfl] at HE
    go_wp2_with fail
    refine (IB.out w5 _ HP2.out).mono ?_
    rintro e w6 ⟨v6, rfl, hb6, hp6⟩
    have HP6 := Lib.hid (HPC.out.stay hb6)
    have HB6 := Lib.hid (HB5.out.trans (hb6.mono HB5.out.size))
    go_wp2_with fail
    refine (either_c _ _ _ _ w6 HP6.out hp6.out HL.out.2).mono ?_
    rintro e w7 ⟨v7, rfl, hb7, hp7⟩
    go_wp2
    go_ret
    exact RE.mk (HB6.out.trans (hb7.mono HB6.out.size)) (by rw [HE.out]; exact hp7.out)
theorem derived_c (t : Re) (c : Int) : t.wf → t.len ≤ 60 → ∀ (w : World) (v : Value), PR w v t → Calls Try.prog 87 #[v, .int .i64 c] w (RE w (t.der c)) := by
  induction t with
  | none => exact fun _ _ w v h => der_none c v w h trivial
  | empty => exact fun _ _ w v h => der_empty c v w h trivial
  | letter d => exact fun _ _ w v h => der_letter d c v w h
  | join a b iha ihb => exact fun ht hl w v h => der_join a b (by rw [len_join] at hl; omega) c (iha ht.1 (by rw [len_join] at hl; omega)) (ihb ht.2 (by rw [len_join] at hl; omega)) v w h
  | either a b iha ihb => exact fun ht hl w v h => der_either a b (by rw [len_either] at hl; omega) c (iha ht.1 (by rw [len_either] at hl; omega)) (ihb ht.2 (by rw [len_either] at hl; omega)) v w h
  | both a b iha ihb => exact fun ht hl w v h => der_both a b (by rw [len_both] at hl; omega) c (iha ht.1 (by rw [len_both] at hl; omega)) (ihb ht.2 (by rw [len_both] at hl; omega)) v w h
  | not a iha => exact fun ht hl w v h => der_not a (by rw [len_not] at hl; omega) c (iha ht (by rw [len_not] at hl; omega)) v w h
  | star a iha => exact fun ht hl w v h => der_star a (by rw [len_star] at hl; omega) c (iha ht (by rw [len_star] at hl; omega)) v w h
end Go.Proofs.Ytbcjhiponbfbnaa
namespace Go.Proofs.Ytbcjhiponbfbnaa
open Go.RowKit
set_option maxRecDepth 100000
variable {S T : Nat → Prop}
theorem cells2_ones (xs : List (Int × Int)) : ∀ u ∈ cells2 xs, u.oneCell' = true := by
  intro u hu
  unfold cells2 at hu
  rw [List.mem_flatMap] at hu
  obtain ⟨p, _, h⟩ := hu
  simp at h
  rcases h with rfl | rfl <;> rfl
set_option maxHeartbeats 400000 in
theorem clonePart_c (v : Value) (xs : List (Int × Int)) (w : World) (h : Pairs S w v xs) (hn : xs.length ≤ 100000000) : Calls Try.prog 42 #[v] w (RVn w fun v w' => OwnP w' w.heap.size v xs) := by
  obtain ⟨a, cap, rfl, _⟩ := h.shape
  rcases a with _ | ad
  · obtain ⟨hc, _, hl⟩ := Fl.nocap h
    have hx : xs = [] := List.eq_nil_of_length_eq_zero hl
    subst hx
    subst hc
    clear h
    have qT : ∀ (w : World) (a : Option Addr) (n c n' c' : Nat), (binOp .eql 23 (.slice a n c) (.slice none n' c')).run Try.prog w = .ok (.bool a.isNone) w := fun w a n c n' c' => Lib.run_eql_slice_nil w _ _ a n c n' c' Try.underlying23
    go_enter Try.func42, Try.ntmps42
    go_wp2
    go_ret
    exact RVn.mk (Below.refl _ _) (World.ownsRow_nil _ _ _ _)
  · obtain ⟨W, hW⟩ : ∃ W, W = w.alloc (.cells #[] 67) := ⟨_, rfl⟩
    have Hb0 : Hid (Below w.heap.size w W) := by rw [hW]; exact (Below.refl _ _).alloc (Nat.le_refl _) _
    have HO : Hid (OwnP W w.heap.size (.slice (some ⟨w.heap.size, 0, none⟩) 0 0) []) := by rw [hW]; exact ownLit (n := 0) [] (Nat.le_refl _) (by omega) rfl
    have H := Lib.hid (h.stay (kpB Hb0.out)); clear h
    have HW := Lib.hid hW; clear hW
    have hbs := Hb0.out.size
    have qT : ∀ (w : World) (a : Option Addr) (n c n' c' : Nat), (binOp .eql 23 (.slice a n c) (.slice none n' c')).run Try.prog w = .ok (.bool a.isNone) w := fun w a n c n' c' => Lib.run_eql_slice_nil w _ _ a n c n' c' Try.underlying23
    go_enter Try.func42, Try.ntmps42
    go_wp2_with (rw [← HW.out]; at_builtin; refine appMany (S := S) elPart (by decide) rfl (.tmp 5) (.tmp 6) rfl w.heap.size _ _ 0 xs.length [] (cells2 xs) W rfl rfl HO.out H.out (by rw [length_cells2]; omega) (cells2_ones _) (by omega) hbs ?_; intro v2 w2 h2 hg2)
    go_ret
    refine RVn.mk (Hb0.out.grown hg2 hbs (fun k hk => (World.ownsRow.lt HO.out k hk).1)) ?_
    have := h2.out
    rw [Nat.zero_add, List.nil_append] at this
    exact this
/-- The call answers an expression and that it is possible, or nothing. -/
def REo (w : World) (o : Option Re) (e : Ending) (w' : World) : Prop := ∃ (v : Value) (b : Bool), e = .returned (.tuple #[v, .bool b]) ∧ Below w.heap.size w w' ∧ Hid (b = o.isSome) ∧ Hid (∀ t, o = some t → PR w' v t) ∧ Hid (o = none → v = .slice none 0 0)
theorem derW_app (l m : List Int) : ∀ t, derW (l ++ m) t = (derW l t).bind (derW m) := by
  induction l with
  | nil => intro t; rfl
  | cons c l ih =>
    intro t
    simp only [List.cons_append, derW]
    split
    · exact ih _
    · rfl
/-- One letter. -/
def der1 (c : Int) (t : Re) : Option Re := if (t.der c).len ≤ 60 then some (t.der c) else none
theorem derW_one (c : Int) (t : Re) : derW [c] t = der1 c t := by unfold derW der1; rfl
set_option maxHeartbeats 800000 in
theorem Derive_c (t : Re) (c : Int) (hc : 0 ≤ c ∧ c ≤ 2) (ht : t.len ≤ 60) (u : Value) (w : World) (h : PR w u t) : Calls Try.prog 43 #[u, .int .i64 c] w (REo w (der1 c t)) := by
  obtain ⟨a, cap, rfl, hn⟩ := h.shape
  have hok : ExprOk t.flat := (exprOk_iff _).2 ⟨t, h.1, rfl, ht⟩
  have HDL : Hid ((t.der c).len ≤ 1000000) := Lib.hid (by have h1 := len_der c t; have h2 : t.len * t.len ≤ 60 * 60 := Nat.mul_le_mul ht ht; omega)
  have H := Lib.hid h; have HT := Lib.hid ht; have HO := Lib.hid hok; have HC := Lib.hid hc
  clear h ht hok hc
  go_enter Try.func43, Try.ntmps43
  go_wp2_with fail
  refine (ExprValid_c _ t.flat w H.out.2).mono ?_
  rintro x w1 ⟨b1, rfl, hb1, hv⟩
  obtain rfl : b1 = true := hv.out.2 HO.out
  clear hv
  have H1 := Lib.hid (H.out.stay hb1)
  have HB1 := Lib.hid hb1; clear hb1
  go_wp2_with fail
  refine (isLetter_c c w1).mono ?_
  rintro x w2 ⟨b2, rfl, rfl, hv⟩
  obtain rfl : b2 = true := hv.out.2 HC.out
  clear hv
  go_wp2_with fail
  refine (derived_c t c H1.out.1 HT.out w1 _ H1.out).mono ?_
  rintro x w2 ⟨v2, rfl, hb2, hp2⟩
  have HB2 := Lib.hid (HB1.out.trans (hb2.mono HB1.out.size))
  obtain ⟨a2, c2, rfl, hn2⟩ := hp2.out.shape
  have hD : Hid (der1 c t = if (t.der c).len ≤ 60 then some (t.der c) else none) := Lib.hid rfl
  have hq : (t.der c).len = (t.der c).flat.length := rfl
  obtain ⟨q, hq2⟩ : ∃ q, q = (t.der c).flat.length := ⟨_, rfl⟩
  rw [hq] at hD HDL
  rw [← hq2] at hD HDL hn2 hp2 ⊢
  have HQ := Lib.hid hq2
  clear hb2 hq hq2
  by_cases hl : q ≤ 60
  · rw [if_pos hl] at hD
    have hlI : ¬ ((60 : Int) < (q : Int)) := by omega
    have hl1 := HDL.out
    clear HDL
    go_wp2_with fail
    refine (clonePart_c _ _ w2 hp2.out.2 (by rw [← HQ.out]; omega)).mono ?_
    rintro x w3 ⟨v3, rfl, hb3, ho3⟩
    go_wp2
    refine bodyPost_ret (results_tmp2 rfl _ _ _) rfl ?_
    exact ⟨_, true, rfl, HB2.out.trans (hb3.mono HB2.out.size), by rw [hD.out]; exact Lib.hid rfl, Lib.hid (fun t' e => by rw [hD.out] at e; cases e; exact ho3.out.pr hp2.out.1), Lib.hid (fun e => by rw [hD.out] at e; cases e)⟩
  · rw [if_neg hl] at hD
    have hlI : ((60 : Int) < (q : Int)) := by omega
    go_wp2
    refine bodyPost_ret (results_tmp2 rfl _ _ _) rfl ?_
    exact ⟨_, false, rfl, HB2.out, by rw [hD.out]; exact Lib.hid rfl, Lib.hid (fun t' e => by rw [hD.out] at e; cases e), Lib.hid (fun _ => rfl)⟩
theorem derW_take {t : Re} {w : List Int} {k : Nat} (hk : k < w.length) {u : Re} (h : derW (w.take k) t = some u) : derW (w.take (k + 1)) t = der1 (w.getD k 0) u := by
  rw [List.take_succ_eq_append_getElem hk, derW_app, h, Option.bind_some, derW_one, List.getD_eq_getElem?_getD, List.getElem?_eq_getElem hk]; rfl
theorem derW_stop {t : Re} {w : List Int} {k : Nat} (h : derW (w.take k) t = none) : derW w t = none := by
  have : w = w.take k ++ w.drop k := (List.take_append_drop k w).symm
  rw [this, derW_app, h]; rfl
set_option maxHeartbeats 1600000 in
theorem DeriveWord_yes (t : Re) (ht : t.wf) (hl : t.len ≤ 60) (s : ByteArray) (hs : letS s ∧ s.size ≤ 8) (v : Value) (w : World) (h : Pairs S w v t.flat) : Calls Try.prog 9 #[v, .string s] w (REo w (derW (ltrs s) t)) := by
  obtain ⟨a, cap, rfl, hn⟩ := h.shape
  have hok : ExprOk t.flat := (exprOk_iff _).2 ⟨t, ht, rfl, hl⟩
  have hsm : s.size ≤ maxLen := by have := hs.2; unfold maxLen; omega
  have h8 := hs.2
  have H := Lib.hid h; have HT := Lib.hid ht; have HL := Lib.hid hl; have HO := Lib.hid hok; have HS := Lib.hid hs.1
  have HLL := ltrs_len s
  obtain ⟨L, hL⟩ : ∃ L, L = ltrs s := ⟨_, rfl⟩
  rw [← hL] at HLL ⊢
  have HLS := Lib.hid hL
  have HLN := Lib.hid HLL
  clear h ht hl hok hL HLL hs
  go_enter Try.func9, Try.ntmps9
  go_wp2_with fail
  refine (ExprValid_c _ t.flat w H.out).mono ?_
  rintro x w1 ⟨b1, rfl, hb1, hv⟩
  obtain rfl : b1 = true := hv.out.2 HO.out
  clear hv
  have H1 := Lib.hid (H.out.stay (kpB hb1))
  have HB1 := Lib.hid hb1; clear hb1 H
  go_wp2_with fail
  refine (WordValid_c s w1 hsm).mono ?_
  rintro x w2 ⟨b2, rfl, rfl, hv⟩
  obtain rfl : b2 = true := hv.out.2 ⟨HS.out, h8⟩
  clear hv
  go_wp2_with fail
  refine (clonePart_c _ _ w1 H1.out (by have := HL.out; unfold Re.len at this; omega)).mono ?_
  rintro x w2 ⟨v2, rfl, hb2, ho2⟩
  have HP2 := Lib.hid (ho2.out.pr HT.out)
  have HB2 := Lib.hid (HB1.out.trans (hb2.mono HB1.out.size))
  clear hb2 ho2 H1 HB1 hsm
  go_wp2_with fail
  go_loopw [6, 22] (fun x i wr => ∃ (k : Nat) (u : Re), k ≤ s.size ∧ i = .int .i64 k ∧ Hid (derW (L.take k) t = some u) ∧ Hid (u.len ≤ 60) ∧ Hid (Below w.heap.size w wr) ∧ Hid (PR wr x u)) (fun _ i _ => s.size - (intOf i).toNat)
  case atStart => exact ⟨0, t, by omega, rfl, Lib.hid rfl, HL, HB2, HP2⟩
  case round =>
    obtain ⟨k, u, hk, rfl, HD, HU, HB, HP⟩ := hrel
    clear HP2 HB2
    obtain ⟨ax, cx, rfl, _⟩ := HP.out.shape
    by_cases hlt : k < s.size
    · have HK := Lib.hid (derW_take (by rw [HLN.out]; exact hlt) HD.out)
      go_wp2_with fail
      refine (letter_c s k wr (by unfold maxLen; omega) hlt (HS.out k hlt)).mono ?_
      rintro e w3 ⟨c, rfl, rfl, hc⟩
      have HKc : Hid (derW (L.take (k + 1)) t = der1 c u) := Lib.hid (by rw [HK.out, HLS.out, ltrs_at hlt, ← hc.out.1])
      go_wp2_with fail
      refine (Derive_c u c hc.out.2 HU.out _ wr HP.out).mono ?_
      rintro e w4 ⟨v4, b4, rfl, hb4, hi4, hs4, hn4⟩
      have HB4 := Lib.hid (HB.out.trans (hb4.mono HB.out.size))
      rcases hd1 : der1 c u with _ | u'
      · rw [hd1] at hi4 hn4 HKc
        obtain rfl : b4 = false := hi4.out
        obtain rfl := hn4.out rfl
        have HN := Lib.hid (derW_stop HKc.out)
        clear hd1 hi4 hs4 hn4 HK HKc hc
        go_wp2
        refine bodyPost_ret (results_tmp2 rfl _ _ _) rfl ?_
        exact ⟨_, false, rfl, HB4.out, by rw [HN.out]; exact Lib.hid rfl, Lib.hid (fun t' e => by rw [HN.out] at e; cases e), Lib.hid (fun _ => rfl)⟩
      · rw [hd1] at hi4 hs4 HKc
        obtain rfl : b4 = true := hi4.out
        have HP4 := Lib.hid (hs4.out u' rfl)
        have HU4 : Hid (u'.len ≤ 60) := Lib.hid (by unfold der1 at hd1; split at hd1; · rename_i h; cases hd1; exact h
                                                    · cases hd1)
        obtain ⟨a4, c4, rfl, _⟩ := HP4.out.shape
        clear hd1 hi4 hs4 hn4 HK hc
        go_wp2
        go_roundw
        case rel => exact ⟨k + 1, u', by omega, by go_num, HKc, HU4, HB4, HP4⟩
        case measure => simp [intOf]; omega
    · obtain rfl : k = s.size := by omega
      have HF : Hid (derW L t = some u) := Lib.hid (by have := HD.out; rw [← HLN.out, List.take_length] at this; exact this)
      clear HD
      go_wp2
      refine bodyPost_ret (results_tmp2 rfl _ _ _) rfl ?_
      exact ⟨_, true, rfl, HB.out, by rw [HF.out]; exact Lib.hid rfl, Lib.hid (fun t' e => by rw [HF.out] at e; cases e; exact HP.out), Lib.hid (fun e => by rw [HF.out] at e; cases e)⟩
theorem DeriveWord_no (e : List (Int × Int)) (s : ByteArray) (hsm : s.size ≤ maxLen) (hno : ¬ (ExprOk e ∧ letS s ∧ s.size ≤ 8)) (v : Value) (w : World) (h : Pairs S w v e) : Calls Try.prog 9 #[v, .string s] w (REo w none) := by
  obtain ⟨a, cap, rfl, hn⟩ := h.shape
  have H := Lib.hid h; have HN := Lib.hid hno; clear h hno
  go_enter Try.func9, Try.ntmps9
  go_wp2_with fail
  refine (ExprValid_c _ e w H.out).mono ?_
  rintro x w1 ⟨b1, rfl, hb1, hv⟩
  cases b1
  · clear hv
    go_wp2
    refine bodyPost_ret (results_tmp2 rfl _ _ _) rfl ?_
    exact ⟨_, false, rfl, hb1, Lib.hid rfl, Lib.hid (fun t' e => by cases e), Lib.hid (fun _ => rfl)⟩
  · have HO := Lib.hid (hbT hv); clear hv
    go_wp2_with fail
    refine (WordValid_c s w1 hsm).mono ?_
    rintro x w2 ⟨b2, rfl, rfl, hv⟩
    cases b2
    · clear hv
      go_wp2
      refine bodyPost_ret (results_tmp2 rfl _ _ _) rfl ?_
      exact ⟨_, false, rfl, hb1, Lib.hid rfl, Lib.hid (fun t' e => by cases e), Lib.hid (fun _ => rfl)⟩
    · exact absurd ⟨HO.out, hbT hv⟩ HN.out
end Go.Proofs.Ytbcjhiponbfbnaa

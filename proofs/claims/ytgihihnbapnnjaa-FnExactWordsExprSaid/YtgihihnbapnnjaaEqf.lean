/- The laws' comparisons of equal data: automata, spans, tokens. No condition. -/
import Derived.Test.YtgihihnbapnnjaaFa3
import Derived.Test.YtgihihnbapnnjaaFa2
import Derived.Test.YtgihihnbapnnjaaDfv
namespace Go.Proofs.Ytgihihnbapnnjaa
open Go.RowKit
set_option maxRecDepth 100000
variable {S T : Nat → Prop}

set_option maxHeartbeats 400000 in
theorem eqBoolS_c (v u : Value) (xs : List Bool) (w : World) (hv : Bools S w v xs) (hu : Bools T w u xs) : Calls Try.prog 97 #[v, u] w (RBn w True) := by
  obtain ⟨a, ca, rfl, hn⟩ := hv.shape
  obtain ⟨b, cb, rfl, _⟩ := hu.shape
  have HV := Lib.hid hv; clear hv
  have HU := Lib.hid hu; clear hu
  have hne := bneS (xs.length : Int)
  go_enter Try.func97, Try.ntmps97
  go_wp2
  go_loopw [5] (fun i wr => ∃ k : Nat, k ≤ xs.length ∧ i = .int .i64 k ∧ ∃ q, wr = w.drewN q) (fun i _ => xs.length - (intOf i).toNat)
  case atStart => exact ⟨0, by omega, rfl, 0, rfl⟩
  case round =>
    obtain ⟨k, hk, rfl, q, rfl⟩ := hrel
    by_cases hlt : k < xs.length
    · obtain ⟨ba, oa, rfl, hca⟩ := HV.out.at hlt
      obtain ⟨bb, ob, rfl, hcb⟩ := HU.out.at hlt
      have hx := bneSelf xs[k]
      generalize xs[k] = x at *
      go_wp2_with fail
      go_quiet (fail)
      go_wp2
      go_roundw
      case rel => exact ⟨k + 1, by omega, by go_num, _, rfl⟩
      case measure => simp [intOf]; omega
    · go_wp2
      go_ret
      exact RBn.mk (belReflN _ _ _) (by simp)
set_option maxHeartbeats 400000 in
theorem eqIntSS_c (v u : Value) (xs : List (List Int)) (w : World) (hv : IntSS S w v xs) (hu : IntSS T w u xs) : Calls Try.prog 96 #[v, u] w (RBn w True) := by
  obtain ⟨a, ca, rfl, hn⟩ := hv.shape
  obtain ⟨b, cb, rfl, _⟩ := hu.shape
  have HV := Lib.hid hv; clear hv
  have HU := Lib.hid hu; clear hu
  have hne := bneS (xs.length : Int)
  go_enter Try.func96, Try.ntmps96
  go_wp2
  go_loopw [5] (fun i wr => ∃ k : Nat, k ≤ xs.length ∧ i = .int .i64 k ∧ Below w.heap.size w wr) (fun i _ => xs.length - (intOf i).toNat)
  case atStart => exact ⟨0, by omega, rfl, Below.refl _ _⟩
  case round =>
    obtain ⟨k, hk, rfl, hb⟩ := hrel
    by_cases hlt : k < xs.length
    · obtain ⟨ba, oa, v1, rfl, hca, hv1⟩ := (HV.out.stay (kpB hb)).at hlt
      obtain ⟨bb, ob, u1, rfl, hcb, hu1⟩ := (HU.out.stay (kpB hb)).at hlt
      obtain ⟨a1, c1, rfl, hn1⟩ := hv1.shape
      obtain ⟨b1, d1, rfl, _⟩ := hu1.shape
      have HV1 := Lib.hid hv1; clear hv1
      have HU1 := Lib.hid hu1; clear hu1
      go_wp2_with fail
      go_still_tail 8, (by kernel_rfl)
      change wpList _ _ _ _ _ wr.drew
      have hb2 : Below w.heap.size w wr.drew := hb.drew
      have HV2 : Hid (Ints S wr.drew _ _) := HV1.out
      have HU2 : Hid (Ints T wr.drew _ _) := HU1.out
      clear HV1 HU1
      generalize wr.drew = w2 at *
      go_wp2_with fail
      refine (eqIntS_c _ _ _ _ HV2.out HU2.out).mono ?_
      rintro e w3 ⟨b, rfl, hb3, hp⟩
      cases b
      · exact (hbF hp trivial).elim
      clear hp
      go_wp2
      go_roundw
      case rel => exact ⟨k + 1, by omega, by go_num, hb2.trans (hb3.mono hb2.size)⟩
      case measure => simp [intOf]; omega
    · go_wp2
      go_ret
      exact RBn.mk hb (by simp)
set_option maxHeartbeats 400000 in
theorem eqDfa_c (vn ve un ue : Value) (D : DfaD) (w : World) (hv : DfaR S w vn ve D) (hu : DfaR T w un ue D) : Calls Try.prog 46 #[.agg #[vn, ve], .agg #[un, ue]] w (RBn w True) := by
  obtain ⟨a, c, b, d, rfl, rfl, hn, hm⟩ := hv.shapes
  obtain ⟨a', c', b', d', rfl, rfl, _, _⟩ := hu.shapes
  have hb0 : Below w.heap.size w ((w.alloc (.cells #[.slice a D.1.length c, .slice b D.2.length d] 62)).alloc (.cells #[.slice a' D.1.length c', .slice b' D.2.length d'] 62)) :=
    ((Below.refl _ _).alloc (Nat.le_refl _) _).alloc (by simp) _
  have k0 := blkOld (o := .cells #[.slice a' D.1.length c', .slice b' D.2.length d'] 62) (blkNew w (.cells #[.slice a D.1.length c, .slice b D.2.length d] 62) rfl)
  have k1 := blkNew (w.alloc (.cells #[.slice a D.1.length c, .slice b D.2.length d] 62)) (.cells #[.slice a' D.1.length c', .slice b' D.2.length d'] 62) (b := w.heap.size + 1) (by simp)
  have HV := Lib.hid (hv.stay (kpB hb0)); clear hv
  have HU := Lib.hid (hu.stay (kpB hb0)); clear hu
  obtain ⟨W, hW⟩ : ∃ W, W = (w.alloc (.cells #[.slice a D.1.length c, .slice b D.2.length d] 62)).alloc (.cells #[.slice a' D.1.length c', .slice b' D.2.length d'] 62) := ⟨_, rfl⟩
  rw [← hW] at hb0 k0 k1 HV HU
  have HW := Lib.hid hW; clear hW
  have K0 := Lib.hid k0; clear k0
  have K1 := Lib.hid k1; clear k1
  go_enter Try.func46, Try.ntmps46
  go_wp2_with fail
  rw [← HW.out]
  refine (eqIntSS_c _ _ D.1 W HV.out.1 HU.out.1).mono ?_
  rintro e w1 ⟨b1, rfl, hb1, hp⟩
  cases b1
  · exact (hbF hp trivial).elim
  clear hp
  obtain ⟨c0, c1, _, _⟩ := blk2 (blkBel hb1 K0.out)
  obtain ⟨d0, d1, _, _⟩ := blk2 (blkBel hb1 K1.out)
  go_wp2_with fail
  refine (eqBoolS_c _ _ D.2 w1 (HV.out.2.stay (kpB hb1)) (HU.out.2.stay (kpB hb1))).mono ?_
  rintro e w2 ⟨b2, rfl, hb2, hp⟩
  cases b2
  · exact (hbF hp trivial).elim
  clear hp
  go_wp2
  go_ret
  exact RBn.mk ((hb0.trans (hb1.mono hb0.size)).trans (hb2.mono (Nat.le_trans hb0.size hb1.size))) (by simp)
end Go.Proofs.Ytgihihnbapnnjaa

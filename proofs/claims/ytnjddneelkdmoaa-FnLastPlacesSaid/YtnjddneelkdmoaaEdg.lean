/- The first and the last places: the program's answers. -/
import Derived.Deep.RegionHeld3
import Derived.Test.YtnjddneelkdmoaaFsp
import Derived.Test.YtnjddneelkdmoaaOpd
import Derived.Test.YtnjddneelkdmoaaHem
import Derived.Test.YtnjddneelkdmoaaSli
import Derived.Test.YtnjddneelkdmoaaIpl
set_option linter.unusedSimpArgs false
set_option linter.unusedVariables false
set_option linter.unusedSectionVars false
namespace Go.Proofs.Ytnjddneelkdmoaa
open Go.RowKit
set_option maxRecDepth 100000
variable {S T : Nat → Prop}
/-- The places at an end. -/
def Re.eps (t : Re) (fst : Bool) (f : Int) : List Int := if fst then t.fps f else t.lps f
theorem eps_len (t : Re) (fst : Bool) (f : Int) : (t.eps fst f).length ≤ t.flat.length := by
  cases fst
  · exact lps_len t f
  · exact fps_len t f
theorem lastC {e0 : List (Int × Int)} {x y : Int} {ad : Option Addr} {n cap : Nat} {w : World} (h : Pairs S w (.slice ad n cap) (e0 ++ [(x, y)])) : ∃ b off, ad = some ⟨b, off, none⟩ ∧ ∀ w', Below w.heap.size w w' → w'.cell? ⟨b, off + e0.length * 2, none⟩ = some (.int .i64 x) := by
  obtain ⟨b, off, rfl, _, _⟩ := h.at (k := e0.length) (by simp)
  refine ⟨b, off, rfl, fun w' hb => ?_⟩
  obtain ⟨b', off', e, c0, _⟩ := (h.stay (kpB hb)).at (k := e0.length) (by simp)
  cases e
  rw [List.getElem_concat_length rfl] at c0
  exact c0
theorem plainE_app {a b : List (Int × Int)} (h : plainE (a ++ b)) : plainE a ∧ plainE b := ⟨fun p hp => h p (List.mem_append_left _ hp), fun p hp => h p (List.mem_append_right _ hp)⟩
set_option maxHeartbeats 4000000 in
theorem edgePlaces_c : ∀ (t : Re), t.wf → t.flat.length ≤ 60 → plainE t.flat → ∀ (v : Value) (f : Int) (fst : Bool) (w : World), 0 ≤ f → f ≤ 1000000 - t.flat.length → Pairs S w v t.flat →
    Calls Try.prog 90 #[v, .int .i64 f, .bool fst] w (RVn w fun v w' => OwnI w' w.heap.size v (t.eps fst f)) := by
  intro t
  induction t with
  | none =>
    intro ht hl hpl v f fst w hf0 hf1 h
    replace h : Pairs S w v [(1, 0)] := h
    obtain ⟨ad, cap, hv, _⟩ := h.shape
    change v = .slice ad 1 cap at hv
    subst hv
    have H := Lib.hid h; have HT := Lib.hid ht; clear h hl hf1 hpl ht
    go_enter Try.func90, Try.ntmps90
    go_wp2_with fail
    refine (operands0_c _ 1 0 w H.out (by decide) (by decide)).mono ?_
    rintro e w1 ⟨rfl, hb⟩
    obtain ⟨b, off, rfl, k0, k1⟩ := (H.out.stay (kpB hb)).at (k := 0) (by show 0 < 1; decide)
    simp at k0; clear k1
    go_wp2
    go_ret
    exact RVn.mk hb (by cases fst <;> exact OwnI.nil _ _)
  | empty =>
    intro ht hl hpl v f fst w hf0 hf1 h
    replace h : Pairs S w v [(2, 0)] := h
    obtain ⟨ad, cap, hv, _⟩ := h.shape
    change v = .slice ad 1 cap at hv
    subst hv
    have H := Lib.hid h; have HT := Lib.hid ht; clear h hl hf1 hpl ht
    go_enter Try.func90, Try.ntmps90
    go_wp2_with fail
    refine (operands0_c _ 2 0 w H.out (by decide) (by decide)).mono ?_
    rintro e w1 ⟨rfl, hb⟩
    obtain ⟨b, off, rfl, k0, k1⟩ := (H.out.stay (kpB hb)).at (k := 0) (by show 0 < 1; decide)
    simp at k0; clear k1
    go_wp2
    go_ret
    exact RVn.mk hb (by cases fst <;> exact OwnI.nil _ _)
  | letter c =>
    intro ht hl hpl v f fst w hf0 hf1 h
    replace h : Pairs S w v [(3, c)] := h
    obtain ⟨ad, cap, hv, _⟩ := h.shape
    change v = .slice ad 1 cap at hv
    subst hv
    have H := Lib.hid h; have HT := Lib.hid ht; clear h hl hf1 hpl ht
    go_enter Try.func90, Try.ntmps90
    go_wp2_with fail
    refine (operands0_c _ 3 c w H.out (.inl ⟨rfl, HT.out.1, HT.out.2⟩) (by decide)).mono ?_
    rintro e w1 ⟨rfl, hb⟩
    obtain ⟨b, off, rfl, k0, k1⟩ := (H.out.stay (kpB hb)).at (k := 0) (by show 0 < 1; decide)
    simp at k0; clear k1
    obtain ⟨W, hW⟩ : ∃ W, W = w1.alloc (.cells #[.int .i64 f] 3) := ⟨_, rfl⟩
    have HR : Hid (RVn w (fun v w' => OwnI w' w.heap.size v ((Re.letter c).eps fst f)) (.returned (.slice (some ⟨w1.heap.size, 0, none⟩) 1 1)) W) := by
      rw [hW]
      refine RVn.mk (hb.alloc hb.size _) ?_
      have : (Re.letter c).eps fst f = [f] := by cases fst <;> rfl
      rw [this]; exact ownLit (n := 1) [_] hb.size (by omega) rfl
    have HW := Lib.hid hW; clear hW
    go_wp2
    rw [← HW.out]
    go_ret
    exact HR.out
  | both a b iha ihb =>
    intro ht hl hpl
    exact absurd rfl (hpl (6, 0) (by simp [Re.flat])).1
  | not a iha =>
    intro ht hl hpl
    exact absurd rfl (hpl (7, 0) (by simp [Re.flat])).2
  | star a iha =>
    intro ht hl hpl v f fst w hf0 hf1 h
    replace h : Pairs S w v (a.flat ++ [(8, 0)]) := h
    have hpl' := (plainE_app (show plainE (a.flat ++ [(8, 0)]) from hpl)).1
    have hl' : a.flat.length + 1 ≤ 60 := by have : (a.flat ++ [((8 : Int), (0 : Int))]).length ≤ 60 := hl; simpa using this
    have hf1' : f ≤ 1000000 - a.flat.length := by have : (Re.star a).flat.length = a.flat.length + 1 := by simp [Re.flat]
                                                  omega
    obtain ⟨ad, cap, hv, _⟩ := h.shape
    rw [List.length_append, List.length_singleton] at hv
    subst hv
    obtain ⟨b, off, rfl, hC⟩ := lastC h
    have IA := Lib.hid (fun (w' : World) (v' : Value) (hp : Pairs S w' v' a.flat) => iha ht (by omega) hpl' v' f fst w' hf0 hf1' hp)
    have HE := Lib.hid (show (Re.star a).eps fst f = a.eps fst f by cases fst <;> rfl)
    have H := Lib.hid h; have HT := Lib.hid ht; clear h hl hf1 hpl ht hpl' hf1' iha
    have hap := a.flat_pos
    obtain ⟨n, hn⟩ : ∃ n, n = a.flat.length := ⟨_, rfl⟩
    rw [← hn] at hC hl' H hap ⊢
    have HC := Lib.hid hC; clear hC
    have Hn := Lib.hid hn; clear hn
    go_enter Try.func90, Try.ntmps90
    go_wp2_with fail
    refine (operands1_c _ a 8 0 w HT.out H.out (by decide) (by decide) (by rw [← Hn.out]; omega)).mono ?_
    rintro e w1 ⟨vo, rfl, hb, ho⟩
    obtain ⟨g, c, ad2, cap2, rfl, _, _, kc, _, hP⟩ := ho.out.at
    rw [← Hn.out] at kc hP
    have HP := Lib.hid hP; clear hP ho
    have k0 := HC.out w1 hb
    go_wp2_with fail
    refine (IA.out w1 _ HP.out).mono ?_
    rintro e w2 ⟨v2, rfl, hb2, ho2⟩
    have hbs := hb.size
    go_wp2
    go_ret
    exact RVn.mk (hb.trans (hb2.mono hbs)) (by rw [HE.out]; exact ownBase ho2.out hbs)
  | either a b iha ihb =>
    intro ht hl hpl v f fst w hf0 hf1 h
    replace h : Pairs S w v (a.flat ++ b.flat ++ [(5, 0)]) := h
    have hpl1 := (plainE_app (show plainE (a.flat ++ b.flat ++ [(5, 0)]) from hpl)).1
    have hpa := (plainE_app hpl1).1
    have hpb := (plainE_app hpl1).2
    have hll : (Re.either a b).flat.length = a.flat.length + b.flat.length + 1 := by simp [Re.flat]; omega
    rw [hll] at hl hf1
    obtain ⟨ad, cap, hv, _⟩ := h.shape
    rw [List.length_append, List.length_append, List.length_singleton] at hv
    subst hv
    obtain ⟨bb, off, rfl, hC⟩ := lastC h
    rw [List.length_append] at hC
    obtain ⟨xs, hxs⟩ : ∃ xs, xs = a.eps fst f := ⟨_, rfl⟩
    obtain ⟨ys, hys⟩ : ∃ ys, ys = b.eps fst (f + a.flat.length) := ⟨_, rfl⟩
    have IA := Lib.hid (fun (w' : World) (v' : Value) (hp : Pairs S w' v' a.flat) => iha ht.1 (by omega) hpa v' f fst w' hf0 (by omega) hp)
    have IB := Lib.hid (fun (w' : World) (v' : Value) (hp : Pairs S w' v' b.flat) => ihb ht.2 (by omega) hpb v' (f + a.flat.length) fst w' (by omega) (by omega) hp)
    have HLX := Lib.hid (show xs.length + ys.length ≤ 1000 from by have := eps_len a fst f; have := eps_len b fst (f + a.flat.length); rw [hxs, hys]; omega)
    have hA : a.nul = a.nul := rfl
    rw [← hxs] at IA
    rw [← hys] at IB
    have HE := Lib.hid (show (Re.either a b).eps fst f = xs ++ ys by rw [hxs, hys]; cases fst <;> rfl)
    have H := Lib.hid h; have HT := Lib.hid ht; clear h hpl ht hpl1 hpa hpb iha ihb hxs hys hll hA
    have hap := a.flat_pos
    have hbp := b.flat_pos
    obtain ⟨n, hn⟩ : ∃ n, n = a.flat.length := ⟨_, rfl⟩
    obtain ⟨m, hm⟩ : ∃ m, m = b.flat.length := ⟨_, rfl⟩
    rw [← hn] at hC hl hf1 H hap IB ⊢
    rw [← hm] at hC hl hf1 H hbp ⊢
    have HC := Lib.hid hC; clear hC
    have Hn := Lib.hid hn; clear hn
    have Hm := Lib.hid hm; clear hm
    obtain ⟨N, hN⟩ : ∃ N, N = n + m := ⟨_, rfl⟩
    rw [← hN] at HC hl hf1 H ⊢
    have hwr : IntKind.i64.wrap (f + (n : Int)) = f + (n : Int) := IntWalk.i64_in _ (by omega)
    have hn60 : n ≤ 59 ∧ m ≤ 59 ∧ n + m ≤ 59 := by omega
    have Hn60 := Lib.hid hn60; clear hn60
    have HN := Lib.hid hN; clear hN
    go_enter Try.func90, Try.ntmps90
    go_wp2_with fail
    refine (operands2_c _ a b 5 0 w HT.out.1 HT.out.2 H.out (by decide) (by decide) (by rw [List.length_append, ← Hn.out, ← Hm.out]; exact Hn60.out.2.2)).mono ?_
    rintro e w1 ⟨vo, rfl, hb, ho⟩
    obtain ⟨g, c, ad1, cap1, ad2, cap2, rfl, _, _, kc1, kc2, hP1, hP2⟩ := ho.out.at
    rw [← Hn.out] at kc1 hP1
    rw [← Hm.out] at kc2 hP2
    have HP1 := Lib.hid hP1; have HP2 := Lib.hid hP2; clear hP1 hP2
    have k0 := HC.out w1 hb
    go_wp2_with fail
    refine (IA.out w1 _ HP1.out).mono ?_
    rintro e w2 ⟨va, rfl, hb2, hoa⟩
    have hbs := hb.size
    have HB2 := Lib.hid (hb.trans (hb2.mono hbs))
    replace kc1 := kpB (S := fun _ => True) hb2 _ _ trivial kc1
    replace kc2 := kpB (S := fun _ => True) hb2 _ _ trivial kc2
    replace HP1 := Lib.hid (HP1.out.stay (kpB hb2))
    replace HP2 := Lib.hid (HP2.out.stay (kpB hb2))
    have HOA := Lib.hid (show OwnI w2 w.heap.size va xs from ownBase hoa.out hbs)
    have hbs2 := HB2.out.size
    clear hoa hb2 hb ho k0
    have HPD := Lib.hid (HP2.out.stay (kpB (Below.refl w2.heap.size w2).drew))
    have KD : Hid (w2.drew.cell? ⟨g, 0, none⟩ = some (.slice ad1 n cap1) ∧ w2.drew.cell? ⟨g, 1, none⟩ = some (.slice ad2 m cap2)) := ⟨kc1, kc2⟩
    obtain ⟨aA, nA, cA, hvA⟩ := HOA.out.sl
    subst hvA
    go_wp2_with fail
    go_region_held3 (fun w' => w'.cell? ⟨g, 0, none⟩ = some (.slice ad1 n cap1) ∧ w'.cell? ⟨g, 1, none⟩ = some (.slice ad2 m cap2))
      (first | exact KD.out | exact ⟨kpB (S := fun _ => True) hb3 _ _ trivial KD.out.1, kpB (S := fun _ => True) hb3 _ _ trivial KD.out.2⟩)
      (first
        | (go_at_call 90
           refine (IB.out w2.drew _ HPD.out).mono ?_
           rintro e w3 ⟨vb, rfl, hb3, hob⟩
           obtain ⟨aB, nB, cB, rfl⟩ := hob.out.sl))
    have hb3' : Below w2.heap.size w2 w3 := Below.trans (Below.refl w2.heap.size w2).drew hb3
    have HB3 := Lib.hid (HB2.out.trans (hb3'.mono hbs2))
    have HOA3 := Lib.hid (HOA.out.stay hb3')
    have HOB3 := Lib.hid (show OwnI w3 w.heap.size (.slice aB nB cB) ys from ownBase hob.out hbs2)
    replace kc1 := kpB (S := fun _ => True) hb3' _ _ trivial kc1
    replace kc2 := kpB (S := fun _ => True) hb3' _ _ trivial kc2
    replace HP1 := Lib.hid (HP1.out.stay (kpB hb3'))
    replace HP2 := Lib.hid (HP2.out.stay (kpB hb3'))
    have k0 := HC.out w3 HB3.out
    have hbs3 := HB3.out.size
    clear hb3 hb3' hob HB2 HOA HPD KD hbs2
    obtain ⟨W4, hW4⟩ : ∃ z, z = w3.alloc (.cells #[.slice aA nA cA, .slice aB nB cB] 34) := ⟨_, rfl⟩
    have hB4 : Below w3.heap.size w3 W4 := by rw [hW4]; exact (Below.refl _ _).alloc (Nat.le_refl _) _
    have HO4 : Hid (W4.ownsRow 0 34 1 (.slice (some ⟨w3.heap.size, 0, none⟩) 2 2) 2 [.slice aA nA cA, .slice aB nB cB]) := by rw [hW4]; exact ownLit (n := 2) [_, _] (Nat.zero_le _) (by omega) rfl
    have HA4 := Lib.hid ((HOA3.out.stay hB4).rd); have HB4 := Lib.hid ((HOB3.out.stay hB4).rd)
    have HBB := Lib.hid (HB3.out.trans (hB4.mono HB3.out.size))
    have HW4 := Lib.hid hW4; clear hW4 hB4
    go_wp2_with fail
    rw [← HW4.out]
    refine (concatTwo_c _ _ xs ys W4 HO4.out HA4.out HB4.out HLX.out).mono ?_
    rintro e w5 ⟨v5, rfl, hb5, ho5⟩
    have hbs5 := HBB.out.size
    go_wp2
    go_ret
    exact RVn.mk (HBB.out.trans (hb5.mono hbs5)) (by rw [HE.out]; exact ownBase ho5.out hbs5)
  | join a b iha ihb =>
    intro ht hl hpl v f fst w hf0 hf1 h
    replace h : Pairs S w v (a.flat ++ b.flat ++ [(4, 0)]) := h
    have hpl1 := (plainE_app (show plainE (a.flat ++ b.flat ++ [(4, 0)]) from hpl)).1
    have hpa := (plainE_app hpl1).1
    have hpb := (plainE_app hpl1).2
    have hll : (Re.join a b).flat.length = a.flat.length + b.flat.length + 1 := by simp [Re.flat]; omega
    rw [hll] at hl hf1
    obtain ⟨ad, cap, hv, _⟩ := h.shape
    rw [List.length_append, List.length_append, List.length_singleton] at hv
    subst hv
    obtain ⟨bb, off, rfl, hC⟩ := lastC h
    rw [List.length_append] at hC
    obtain ⟨xs, hxs⟩ : ∃ xs, xs = a.eps fst f := ⟨_, rfl⟩
    obtain ⟨ys, hys⟩ : ∃ ys, ys = b.eps fst (f + a.flat.length) := ⟨_, rfl⟩
    have IA := Lib.hid (fun (w' : World) (v' : Value) (hp : Pairs S w' v' a.flat) => iha ht.1 (by omega) hpa v' f fst w' hf0 (by omega) hp)
    have IB := Lib.hid (fun (w' : World) (v' : Value) (hp : Pairs S w' v' b.flat) => ihb ht.2 (by omega) hpb v' (f + a.flat.length) fst w' (by omega) (by omega) hp)
    have HLX := Lib.hid (show xs.length + ys.length ≤ 1000 from by have := eps_len a fst f; have := eps_len b fst (f + a.flat.length); rw [hxs, hys]; omega)
    have hA : a.nul = a.nul := rfl
    rw [← hxs] at IA
    rw [← hys] at IB
    have HE1 := Lib.hid (show fst = true → a.nul = false → (Re.join a b).eps fst f = xs by intro h1 h2; subst h1; rw [hxs]; simp [Re.eps, Re.fps, h2])
    have HE2 := Lib.hid (show fst = true → a.nul = true → (Re.join a b).eps fst f = xs ++ ys by intro h1 h2; subst h1; rw [hxs, hys]; simp [Re.eps, Re.fps, h2])
    have HE3 := Lib.hid (show fst = false → b.nul = false → (Re.join a b).eps fst f = ys by intro h1 h2; subst h1; rw [hys]; simp [Re.eps, Re.lps, h2])
    have HE4 := Lib.hid (show fst = false → b.nul = true → (Re.join a b).eps fst f = xs ++ ys by intro h1 h2; subst h1; rw [hxs, hys]; simp [Re.eps, Re.lps, h2])
    have H := Lib.hid h; have HT := Lib.hid ht; clear h hpl ht hpl1 hpa hpb iha ihb hxs hys hll hA
    have hap := a.flat_pos
    have hbp := b.flat_pos
    obtain ⟨n, hn⟩ : ∃ n, n = a.flat.length := ⟨_, rfl⟩
    obtain ⟨m, hm⟩ : ∃ m, m = b.flat.length := ⟨_, rfl⟩
    rw [← hn] at hC hl hf1 H hap IB ⊢
    rw [← hm] at hC hl hf1 H hbp ⊢
    have HC := Lib.hid hC; clear hC
    have Hn := Lib.hid hn; clear hn
    have Hm := Lib.hid hm; clear hm
    obtain ⟨N, hN⟩ : ∃ N, N = n + m := ⟨_, rfl⟩
    rw [← hN] at HC hl hf1 H ⊢
    have hwr : IntKind.i64.wrap (f + (n : Int)) = f + (n : Int) := IntWalk.i64_in _ (by omega)
    have hn60 : n ≤ 59 ∧ m ≤ 59 ∧ n + m ≤ 59 := by omega
    have Hn60 := Lib.hid hn60; clear hn60
    have HN := Lib.hid hN; clear hN
    go_enter Try.func90, Try.ntmps90
    go_wp2_with fail
    refine (operands2_c _ a b 4 0 w HT.out.1 HT.out.2 H.out (by decide) (by decide) (by rw [List.length_append, ← Hn.out, ← Hm.out]; exact Hn60.out.2.2)).mono ?_
    rintro e w1 ⟨vo, rfl, hb, ho⟩
    obtain ⟨g, c, ad1, cap1, ad2, cap2, rfl, _, _, kc1, kc2, hP1, hP2⟩ := ho.out.at
    rw [← Hn.out] at kc1 hP1
    rw [← Hm.out] at kc2 hP2
    have HP1 := Lib.hid hP1; have HP2 := Lib.hid hP2; clear hP1 hP2
    have k0 := HC.out w1 hb
    go_wp2_with fail
    refine (IA.out w1 _ HP1.out).mono ?_
    rintro e w2 ⟨va, rfl, hb2, hoa⟩
    have hbs := hb.size
    have HB2 := Lib.hid (hb.trans (hb2.mono hbs))
    replace kc1 := kpB (S := fun _ => True) hb2 _ _ trivial kc1
    replace kc2 := kpB (S := fun _ => True) hb2 _ _ trivial kc2
    replace HP1 := Lib.hid (HP1.out.stay (kpB hb2))
    replace HP2 := Lib.hid (HP2.out.stay (kpB hb2))
    have HOA := Lib.hid (show OwnI w2 w.heap.size va xs from ownBase hoa.out hbs)
    have hbs2 := HB2.out.size
    clear hoa hb2 hb ho k0
    have HPD := Lib.hid (HP2.out.stay (kpB (Below.refl w2.heap.size w2).drew))
    have KD : Hid (w2.drew.cell? ⟨g, 0, none⟩ = some (.slice ad1 n cap1) ∧ w2.drew.cell? ⟨g, 1, none⟩ = some (.slice ad2 m cap2)) := ⟨kc1, kc2⟩
    obtain ⟨aA, nA, cA, hvA⟩ := HOA.out.sl
    subst hvA
    go_wp2_with fail
    go_region_held3 (fun w' => w'.cell? ⟨g, 0, none⟩ = some (.slice ad1 n cap1) ∧ w'.cell? ⟨g, 1, none⟩ = some (.slice ad2 m cap2))
      (first | exact KD.out | exact ⟨kpB (S := fun _ => True) hb3 _ _ trivial KD.out.1, kpB (S := fun _ => True) hb3 _ _ trivial KD.out.2⟩)
      (first
        | (go_at_call 90
           refine (IB.out w2.drew _ HPD.out).mono ?_
           rintro e w3 ⟨vb, rfl, hb3, hob⟩
           obtain ⟨aB, nB, cB, rfl⟩ := hob.out.sl))
    have hb3' : Below w2.heap.size w2 w3 := Below.trans (Below.refl w2.heap.size w2).drew hb3
    have HB3 := Lib.hid (HB2.out.trans (hb3'.mono hbs2))
    have HOA3 := Lib.hid (HOA.out.stay hb3')
    have HOB3 := Lib.hid (show OwnI w3 w.heap.size (.slice aB nB cB) ys from ownBase hob.out hbs2)
    replace kc1 := kpB (S := fun _ => True) hb3' _ _ trivial kc1
    replace kc2 := kpB (S := fun _ => True) hb3' _ _ trivial kc2
    replace HP1 := Lib.hid (HP1.out.stay (kpB hb3'))
    replace HP2 := Lib.hid (HP2.out.stay (kpB hb3'))
    have k0 := HC.out w3 HB3.out
    have hbs3 := HB3.out.size
    clear hb3 hb3' hob HB2 HOA HPD KD hbs2
    cases fst
    · go_wp2_with fail
      refine (hasEmpty_c b HT.out.2 (by have := Hn60.out; have := Hn.out; have := Hm.out; omega) _ w3 HP2.out).mono ?_
      rintro e w4 ⟨rfl, hb4⟩
      have HB5 := Lib.hid (HB3.out.trans (hb4.mono hbs3))
      replace HOA3 := Lib.hid (HOA3.out.stay hb4)
      replace HOB3 := Lib.hid (HOB3.out.stay hb4)
      clear hb4 kc1 kc2 k0
      cases hnu : b.nul
      · have HE := Lib.hid (HE3.out (by simp) hnu); clear hnu
        go_wp2
        go_ret
        exact RVn.mk HB5.out (by rw [HE.out]; exact HOB3.out)
      · have HE := Lib.hid (HE4.out (by simp) hnu); clear hnu
        obtain ⟨W4, hW4⟩ : ∃ z, z = w4.alloc (.cells #[.slice aA nA cA, .slice aB nB cB] 34) := ⟨_, rfl⟩
        have hB4 : Below w4.heap.size w4 W4 := by rw [hW4]; exact (Below.refl _ _).alloc (Nat.le_refl _) _
        have HO4 : Hid (W4.ownsRow 0 34 1 (.slice (some ⟨w4.heap.size, 0, none⟩) 2 2) 2 [.slice aA nA cA, .slice aB nB cB]) := by rw [hW4]; exact ownLit (n := 2) [_, _] (Nat.zero_le _) (by omega) rfl
        have HA4 := Lib.hid ((HOA3.out.stay hB4).rd); have HB4 := Lib.hid ((HOB3.out.stay hB4).rd)
        have HBB := Lib.hid (HB5.out.trans (hB4.mono HB5.out.size))
        have HW4 := Lib.hid hW4; clear hW4 hB4
        go_wp2_with fail
        rw [← HW4.out]
        refine (concatTwo_c _ _ xs ys W4 HO4.out HA4.out HB4.out HLX.out).mono ?_
        rintro e w5 ⟨v5, rfl, hb5, ho5⟩
        have hbs5 := HBB.out.size
        go_wp2
        go_ret
        exact RVn.mk (HBB.out.trans (hb5.mono hbs5)) (by rw [HE.out]; exact ownBase ho5.out hbs5)
    · go_wp2_with fail
      refine (hasEmpty_c a HT.out.1 (by have := Hn60.out; have := Hn.out; have := Hm.out; omega) _ w3 HP1.out).mono ?_
      rintro e w4 ⟨rfl, hb4⟩
      have HB5 := Lib.hid (HB3.out.trans (hb4.mono hbs3))
      replace HOA3 := Lib.hid (HOA3.out.stay hb4)
      replace HOB3 := Lib.hid (HOB3.out.stay hb4)
      clear hb4 kc1 kc2 k0
      cases hnu : a.nul
      · have HE := Lib.hid (HE1.out (by simp) hnu); clear hnu
        go_wp2
        go_ret
        exact RVn.mk HB5.out (by rw [HE.out]; exact HOA3.out)
      · have HE := Lib.hid (HE2.out (by simp) hnu); clear hnu
        obtain ⟨W4, hW4⟩ : ∃ z, z = w4.alloc (.cells #[.slice aA nA cA, .slice aB nB cB] 34) := ⟨_, rfl⟩
        have hB4 : Below w4.heap.size w4 W4 := by rw [hW4]; exact (Below.refl _ _).alloc (Nat.le_refl _) _
        have HO4 : Hid (W4.ownsRow 0 34 1 (.slice (some ⟨w4.heap.size, 0, none⟩) 2 2) 2 [.slice aA nA cA, .slice aB nB cB]) := by rw [hW4]; exact ownLit (n := 2) [_, _] (Nat.zero_le _) (by omega) rfl
        have HA4 := Lib.hid ((HOA3.out.stay hB4).rd); have HB4 := Lib.hid ((HOB3.out.stay hB4).rd)
        have HBB := Lib.hid (HB5.out.trans (hB4.mono HB5.out.size))
        have HW4 := Lib.hid hW4; clear hW4 hB4
        go_wp2_with fail
        rw [← HW4.out]
        refine (concatTwo_c _ _ xs ys W4 HO4.out HA4.out HB4.out HLX.out).mono ?_
        rintro e w5 ⟨v5, rfl, hb5, ho5⟩
        have hbs5 := HBB.out.size
        go_wp2
        go_ret
        exact RVn.mk (HBB.out.trans (hb5.mono hbs5)) (by rw [HE.out]; exact ownBase ho5.out hbs5)
set_option maxHeartbeats 800000 in
theorem FirstPlaces_c (v : Value) (e : List (Int × Int)) (w : World) (h : Pairs S w v e) : Calls Try.prog 31 #[v] w (RVn w fun v w' => OwnI w' w.heap.size v (fpv e)) := by
  obtain ⟨a, cap, rfl, _⟩ := h.shape
  have H := Lib.hid h; clear h
  go_enter Try.func31, Try.ntmps31
  go_wp2_with fail
  refine (isPlain_c _ e w H.out).mono ?_
  rintro x w1 ⟨b1, rfl, hb1, hv⟩
  cases b1
  · have Ho := Lib.hid (fpv_none (plT_no (fun h => hbF hv h))); clear hv
    go_wp2
    go_ret
    exact RVn.mk hb1 (by rw [Ho.out]; exact OwnI.nil _ _)
  obtain ⟨t, ht, he, hl, hT⟩ := plT_yes (hbT hv).1 (hbT hv).2
  have hpl := (hbT hv).2
  rw [← he] at hpl
  clear hv
  have Ho := Lib.hid (fpv_some hT); clear hT
  have HE : Hid (Pairs S w1 (.slice a e.length cap) t.flat) := Lib.hid (by rw [he]; exact H.out.stay (kpB hb1))
  have HC := Lib.hid (fun v h => edgePlaces_c (S := S) t ht hl hpl v 0 true w1 (by omega) (by omega) h)
  have Hb := Lib.hid hb1
  clear he H hb1 ht hl hpl
  go_wp2_with fail
  refine (HC.out _ HE.out).mono ?_
  rintro x w2 ⟨v2, rfl, hb2, ho2⟩
  have hbs := Hb.out.size
  go_wp2
  go_ret
  exact RVn.mk (Hb.out.trans (hb2.mono hbs)) (by rw [Ho.out]; exact ownBase ho2.out hbs)
theorem FirstPlaces_w (v : Value) (e : List (Int × Int)) (w : World) (h : Pairs S w v e) : Calls Try.prog 31 #[v] w (RW (fpv e).length ((fpv e).map (.int .i64 ·)) w) :=
  (FirstPlaces_c v e w h).mono fun _ _ h => rwOf h (fun _ _ h => h)
set_option maxHeartbeats 800000 in
theorem LastPlaces_c (v : Value) (e : List (Int × Int)) (w : World) (h : Pairs S w v e) : Calls Try.prog 38 #[v] w (RVn w fun v w' => OwnI w' w.heap.size v (lpw e)) := by
  obtain ⟨a, cap, rfl, _⟩ := h.shape
  have H := Lib.hid h; clear h
  go_enter Try.func38, Try.ntmps38
  go_wp2_with fail
  refine (isPlain_c _ e w H.out).mono ?_
  rintro x w1 ⟨b1, rfl, hb1, hv⟩
  cases b1
  · have Ho := Lib.hid (lpw_none (plT_no (fun h => hbF hv h))); clear hv
    go_wp2
    go_ret
    exact RVn.mk hb1 (by rw [Ho.out]; exact OwnI.nil _ _)
  obtain ⟨t, ht, he, hl, hT⟩ := plT_yes (hbT hv).1 (hbT hv).2
  have hpl := (hbT hv).2
  rw [← he] at hpl
  clear hv
  have Ho := Lib.hid (lpw_some hT); clear hT
  have HE : Hid (Pairs S w1 (.slice a e.length cap) t.flat) := Lib.hid (by rw [he]; exact H.out.stay (kpB hb1))
  have HC := Lib.hid (fun v h => edgePlaces_c (S := S) t ht hl hpl v 0 false w1 (by omega) (by omega) h)
  have Hb := Lib.hid hb1
  clear he H hb1 ht hl hpl
  go_wp2_with fail
  refine (HC.out _ HE.out).mono ?_
  rintro x w2 ⟨v2, rfl, hb2, ho2⟩
  have hbs := Hb.out.size
  go_wp2
  go_ret
  exact RVn.mk (Hb.out.trans (hb2.mono hbs)) (by rw [Ho.out]; exact ownBase ho2.out hbs)
theorem LastPlaces_w (v : Value) (e : List (Int × Int)) (w : World) (h : Pairs S w v e) : Calls Try.prog 38 #[v] w (RW (lpw e).length ((lpw e).map (.int .i64 ·)) w) :=
  (LastPlaces_c v e w h).mono fun _ _ h => rwOf h (fun _ _ h => h)
end Go.Proofs.Ytnjddneelkdmoaa

/- simplified: the program's. Whole expressions of at most 60 parts. -/
import Derived.Deep.RegionHeld3
import Derived.Deep.DeepMust
import Derived.Test.YtbcjhiponbfbnaaSio
set_option linter.unusedSimpArgs false
set_option linter.unusedVariables false
set_option linter.unusedSectionVars false
namespace Go.Proofs.Ytbcjhiponbfbnaa
open Go.RowKit
set_option maxRecDepth 100000
variable {S T : Nat → Prop}
theorem PR.of {w w' : World} {v : Value} {t : Re} (ht : t.wf) (h : Pairs (PT w) w' v t.flat) (k : Below w.heap.size w w') : PR w' v t := ⟨ht, Pairs.mono h fun _ hb => hb.stay k⟩
theorem RE.imp {w w' : World} {t u : Re} {e : Ending} (h : RE w t e w') (k : t = u) : RE w u e w' := k ▸ h
theorem RE.bel {w w0 w' : World} {t : Re} {e : Ending} (h : RE w t e w') (k : Below w0.heap.size w0 w) : RE w0 t e w' := let ⟨v, h1, h2, h3⟩ := h; ⟨v, h1, k.trans (h2.mono k.size), h3⟩
/-- The last part is read. -/
theorem lastC4 {e0 : List (Int × Int)} {x y : Int} {ad : Option Addr} {n cap : Nat} {w : World} (h : Pairs S w (.slice ad n cap) (e0 ++ [(x, y)])) : ∃ b off, ad = some ⟨b, off, none⟩ ∧ ∀ w', Below w.heap.size w w' → w'.cell? ⟨b, off + e0.length * 2, none⟩ = some (.int .i64 x) ∧ w'.cell? ⟨b, off + e0.length * 2 + 1, none⟩ = some (.int .i64 y) := by
  obtain ⟨b, off, rfl, _, _⟩ := h.at (k := e0.length) (by simp)
  refine ⟨b, off, rfl, fun w' hb => ?_⟩
  obtain ⟨b', off', e, c0, c1⟩ := (h.stay (kpB hb)).at (k := e0.length) (by simp)
  cases e
  rw [List.getElem_concat_length rfl] at c0 c1
  exact ⟨c0, c1⟩
theorem lastC3 {e0 : List (Int × Int)} {x y : Int} {ad : Option Addr} {n cap : Nat} {w : World} (h : Pairs S w (.slice ad n cap) (e0 ++ [(x, y)])) : n = e0.length + 1 := by
  obtain ⟨a', c', e, _⟩ := h.shape
  injection e with _ e2 _
  rw [e2]; simp
theorem PR.last {w : World} {v : Value} {t : Re} (h : PR w v t) : ∃ b off cap m, v = .slice (some ⟨b, off, none⟩) (m + 1) cap ∧ m + 1 = t.flat.length ∧ m = t.ini.length ∧ w.cell? ⟨b, off + m * 2, none⟩ = some (.int .i64 t.top) ∧ w.cell? ⟨b, off + m * 2 + 1, none⟩ = some (.int .i64 t.arg) := by
  have h2 : Pairs (PT w) w v (t.ini ++ [(t.top, t.arg)]) := by have := h.2; unfold PL0 at this; rw [flat_top] at this; exact this
  obtain ⟨ad, n, cap, rfl⟩ : ∃ ad n cap, v = .slice ad n cap := let ⟨x, y, z, _⟩ := h.shape; ⟨_, _, _, z⟩
  obtain ⟨bb, off, rfl, hC⟩ := lastC4 h2
  have hn := lastC3 h2
  subst hn
  exact ⟨bb, off, cap, t.ini.length, rfl, by rw [flat_top]; simp, rfl, hC w (Below.refl _ _)⟩
set_option maxHeartbeats 800000 in
theorem simp0_c (t : Re) (ht : t.wf) (h0 : pNeeds t.top = 0) (hf : t.flat = [(t.top, t.arg)]) (hp : pOk t.top t.arg) (hs : t.smp = t) (u : Value) (w : World) (h : PR w u t) : Calls Try.prog 121 #[u] w (RE w t.smp) := by
  obtain ⟨a, cap, rfl, _⟩ := h.shape
  have H := Lib.hid h
  have h2 : Pairs (PT w) w (.slice a t.flat.length cap) [(t.top, t.arg)] := by have := h.2; unfold PL0 at this; rw [hf] at this ⊢; exact this
  have hl : t.flat.length = 1 := by rw [hf]; rfl
  rw [hl] at h2 H ⊢
  have HOP := Lib.hid (operands0_c _ _ _ w h2 hp h0)
  obtain ⟨b, off, rfl, k0, k1⟩ := Pairs.at h2 (k := 0) (by simp)
  simp only [List.getElem_cons_zero, Nat.zero_mul, Nat.add_zero] at k0
  have HS := Lib.hid hs
  obtain ⟨x, hx⟩ : ∃ x, x = t.top := ⟨_, rfl⟩
  rw [← hx] at k0
  clear h h2 hf hl k1 hp h0 hx hs ht
  go_enter Try.func121, Try.ntmps121
  go_wp2_with fail
  refine HOP.out.mono ?_
  rintro e w1 ⟨rfl, hb1⟩
  go_wp2
  go_ret
  exact RE.mk hb1 (by rw [HS.out]; exact H.out.stay hb1)
set_option maxHeartbeats 400000 in
theorem simp2_c (t a b : Re) (ht : t.wf) (ha : a.wf) (hb : b.wf) (h0 : pNeeds t.top = 2) (hf : t.flat = a.flat ++ b.flat ++ [(t.top, t.arg)]) (hp : pOk t.top t.arg) (hl : a.len + b.len ≤ 59)
    (iha : ∀ (w : World) (v : Value), PR w v a → Calls Try.prog 121 #[v] w (RE w a.smp)) (ihb : ∀ (w : World) (v : Value), PR w v b → Calls Try.prog 121 #[v] w (RE w b.smp))
    (hs : Re.mk3 t.top a.smp b.smp = t.smp) (u : Value) (w : World) (h : PR w u t) : Calls Try.prog 121 #[u] w (RE w t.smp) := by
  have h2 : Pairs (PT w) w u (a.flat ++ b.flat ++ [(t.top, t.arg)]) := by have := h.2; unfold PL0 at this; rw [hf] at this; exact this
  obtain ⟨ad, n, cap, rfl⟩ : ∃ ad n cap, u = .slice ad n cap := let ⟨x, y, z, _⟩ := h.shape; ⟨_, _, _, z⟩
  obtain ⟨bb, off, rfl, hC⟩ := lastC4 h2
  have hlab : (a.flat ++ b.flat).length ≤ 59 := by rw [List.length_append]; exact hl
  have HOP := Lib.hid (operands2_c _ a b _ _ w ha hb h2 hp h0 hlab)
  have hn := lastC3 h2
  obtain ⟨c0, -⟩ := hC w (Below.refl _ _)
  obtain ⟨m, hm⟩ : ∃ m, m = (a.flat ++ b.flat).length := ⟨_, rfl⟩
  rw [← hm] at hn c0 hlab
  subst hn
  have HS := Lib.hid hs
  have HL := Lib.hid (show a.smp.len + b.smp.len ≤ 1000000 by have := len_smp a; have := len_smp b; omega)
  have HA := Lib.hid ha; have HB := Lib.hid hb
  have IA := Lib.hid iha; have IB := Lib.hid ihb
  obtain ⟨x, hx⟩ : ∃ x, x = t.top := ⟨_, rfl⟩
  rw [← hx] at c0 HS
  have hI : IntKind.i64.wrap ((m + 1 : Nat) - 1 : Int) = (m : Int) := by rw [show (((m + 1 : Nat) : Int) - 1) = (m : Int) by omega]; exact IntWalk.i64_in _ (by omega)
  have hlt : (m : Int) < (m : Int) + 1 := by omega
  clear h h2 hf hC hm hp h0 hx hs ht ha hb iha ihb hl
  go_enter Try.func121, Try.ntmps121
  go_wp2_with fail
  refine HOP.out.mono ?_
  rintro e w1 ⟨vo, rfl, hb1, ho⟩
  obtain ⟨g, c, ad1, cap1, ad2, cap2, rfl, _, _, kc1, kc2, hP1, hP2⟩ := ho.out.at
  have HP1 : Hid (PR w1 _ a) := Lib.hid (PR.of HA.out hP1 hb1); have HP2 : Hid (PR w1 _ b) := Lib.hid (PR.of HB.out hP2 hb1); clear hP1 hP2
  obtain ⟨n1, hn1⟩ : ∃ n1, n1 = a.flat.length := ⟨_, rfl⟩
  obtain ⟨n2, hn2⟩ : ∃ n2, n2 = b.flat.length := ⟨_, rfl⟩
  rw [← hn1] at kc1 HP1
  rw [← hn2] at kc2 HP2
  have HD1 := Lib.hid (HP1.out.stay (Below.refl _ _).drew); have HD2 := Lib.hid (HP2.out.stay (Below.refl _ _).drew)
  have KD : Hid (w1.drew.cell? ⟨g, 0, none⟩ = some (.slice ad1 n1 cap1) ∧ w1.drew.cell? ⟨g, 1, none⟩ = some (.slice ad2 n2 cap2)) := ⟨kc1, kc2⟩
  have HB1 := Lib.hid hb1
  clear hn1 hn2 c0 ho hb1 HOP HP1 HP2
  go_wp2_with fail
  go_region_held3 (fun w' => w'.cell? ⟨g, 0, none⟩ = some (.slice ad1 n1 cap1) ∧ w'.cell? ⟨g, 1, none⟩ = some (.slice ad2 n2 cap2))
    (first | exact KD.out | exact ⟨kpB (S := fun _ => True) hb2 _ _ trivial KD.out.1, kpB (S := fun _ => True) hb2 _ _ trivial KD.out.2⟩ | exact ⟨kpB (S := fun _ => True) hb4 _ _ trivial KD.out.1, kpB (S := fun _ => True) hb4 _ _ trivial KD.out.2⟩ | exact ⟨kpB (S := fun _ => True) hb3 _ _ trivial KD.out.1, kpB (S := fun _ => True) hb3 _ _ trivial KD.out.2⟩)
    (first
      | (go_at_call 121
         (with_reducible refine (IA.out w1.drew _ HD1.out).mono ?_)
         rintro e w2 ⟨va, rfl, hb2, hpa⟩
         obtain ⟨aA, cA, rfl, _⟩ := hpa.out.shape)
      | (go_at_call 121
         (with_reducible refine (IB.out w2 _ (HD2.out.stay hb2)).mono ?_)
         rintro e w3 ⟨vb, rfl, hb3', hpb⟩
         have hb3 := hb2.trans (hb3'.mono hb2.size)
         obtain ⟨aB, cB, rfl, _⟩ := hpb.out.shape)
      | (go_at_call 122
         (with_reducible refine (made_c _ _ _ _ _ w3 (hpa.out.stay hb3') hpb.out HL.out).mono ?_)
         rintro e w4 ⟨vc, rfl, hb4', hpc⟩
         have hb4 := hb3.trans (hb4'.mono hb3.size)))
  go_wp2
  go_ret
  exact RE.mk (HB1.out.trans (((Below.refl _ _).drew.trans hb4).mono HB1.out.size)) (by rw [← HS.out]; exact hpc.out)
set_option maxHeartbeats 2000000 in
theorem simp1_c (t a : Re) (ht : t.wf) (ha : a.wf) (h0 : pNeeds t.top = 1) (hf : t.flat = a.flat ++ [(t.top, t.arg)]) (hp : pOk t.top t.arg) (hl : a.len ≤ 59)
    (iha : ∀ (w : World) (v : Value), PR w v a → Calls Try.prog 121 #[v] w (RE w a.smp))
    (hs : (if t.top = 7 then a.smp.mkNot else a.smp.mkStar) = t.smp) (u : Value) (w : World) (h : PR w u t) : Calls Try.prog 121 #[u] w (RE w t.smp) := by
  have h2 : Pairs (PT w) w u (a.flat ++ [(t.top, t.arg)]) := by have := h.2; unfold PL0 at this; rw [hf] at this; exact this
  obtain ⟨ad, n, cap, rfl⟩ : ∃ ad n cap, u = .slice ad n cap := let ⟨x, y, z, _⟩ := h.shape; ⟨_, _, _, z⟩
  obtain ⟨bb, off, rfl, hC⟩ := lastC4 h2
  have hla : a.flat.length ≤ 59 := hl
  have HOP := Lib.hid (operands1_c _ a _ _ w ha h2 hp h0 hla)
  have hn := lastC3 h2
  obtain ⟨c0, -⟩ := hC w (Below.refl _ _)
  obtain ⟨m, hm⟩ : ∃ m, m = a.flat.length := ⟨_, rfl⟩
  rw [← hm] at hn c0 hla
  subst hn
  have HS := Lib.hid hs
  have HL := Lib.hid (show a.smp.len ≤ 1000000 by have := len_smp a; omega)
  have HA := Lib.hid ha
  have IA := Lib.hid iha
  obtain ⟨x, hx⟩ : ∃ x, x = t.top := ⟨_, rfl⟩
  rw [← hx] at c0 HS
  have hI : IntKind.i64.wrap ((m + 1 : Nat) - 1 : Int) = (m : Int) := by rw [show (((m + 1 : Nat) : Int) - 1) = (m : Int) by omega]; exact IntWalk.i64_in _ (by omega)
  have hlt : (m : Int) < (m : Int) + 1 := by omega
  clear h h2 hf hC hm hp h0 hx hs ht ha iha hl
  by_cases h7 : x = 7
  · have e7 : (x == 7) = true := by simpa using h7
    rw [if_pos h7] at HS
    clear h7
    go_enter Try.func121, Try.ntmps121
    go_wp2_with fail
    refine HOP.out.mono ?_
    rintro e w1 ⟨vo, rfl, hb1, ho⟩
    obtain ⟨g, c, ad1, cap1, rfl, _, _, kc1, kf1, hP1⟩ := ho.out.at
    have HP1 : Hid (PR w1 _ a) := Lib.hid (PR.of HA.out hP1 hb1); clear hP1
    obtain ⟨n1, hn1⟩ : ∃ n1, n1 = a.flat.length := ⟨_, rfl⟩
    rw [← hn1] at kc1 HP1
    have HB1 := Lib.hid hb1
    clear hn1 c0 ho hb1 HOP
    go_wp2_with fail
    refine (IA.out w1 _ HP1.out).mono ?_
    rintro e w2 ⟨va, rfl, hb2, hpa⟩
    clear kc1 kf1
    go_wp2_with fail
    refine (not_c _ _ w2 hpa.out HL.out).mono ?_
    rintro e w3 ⟨vb, rfl, hb3, hpb⟩
    go_wp2
    go_ret
    exact RE.mk ((HB1.out.trans (hb2.mono HB1.out.size)).trans (hb3.mono (Nat.le_trans HB1.out.size hb2.size))) (by rw [← HS.out]; exact hpb.out)
  · have e7 : (x == 7) = false := by simpa using h7
    rw [if_neg h7] at HS
    clear h7
    go_enter Try.func121, Try.ntmps121
    go_wp2_with fail
    refine HOP.out.mono ?_
    rintro e w1 ⟨vo, rfl, hb1, ho⟩
    obtain ⟨g, c, ad1, cap1, rfl, _, _, kc1, kf1, hP1⟩ := ho.out.at
    have HP1 : Hid (PR w1 _ a) := Lib.hid (PR.of HA.out hP1 hb1); clear hP1
    obtain ⟨n1, hn1⟩ : ∃ n1, n1 = a.flat.length := ⟨_, rfl⟩
    rw [← hn1] at kc1 HP1
    have HB1 := Lib.hid hb1
    clear hn1 c0 ho hb1 HOP
    go_wp2_with fail
    refine (IA.out w1 _ HP1.out).mono ?_
    rintro e w2 ⟨va, rfl, hb2, hpa⟩
    clear kc1 kf1
    go_wp2_with fail
    refine (star_c _ _ w2 hpa.out HL.out).mono ?_
    rintro e w3 ⟨vb, rfl, hb3, hpb⟩
    go_wp2
    go_ret
    exact RE.mk ((HB1.out.trans (hb2.mono HB1.out.size)).trans (hb3.mono (Nat.le_trans HB1.out.size hb2.size))) (by rw [← HS.out]; exact hpb.out)
theorem top_ok {t : Re} (h : t.wf) : pOk t.top t.arg := by
  cases t with
  | letter c => exact .inl ⟨rfl, h.1, h.2⟩
  | _ => exact .inr ⟨by simp [Re.top], by simp [Re.top], by simp [Re.top], rfl⟩
theorem simplified_c (t : Re) : t.wf → t.len ≤ 60 → ∀ (w : World) (v : Value), PR w v t → Calls Try.prog 121 #[v] w (RE w t.smp) := by
  induction t with
  | none => exact fun ht _ w v h => simp0_c .none ht rfl rfl (top_ok ht) rfl v w h
  | empty => exact fun ht _ w v h => simp0_c .empty ht rfl rfl (top_ok ht) rfl v w h
  | letter c => exact fun ht _ w v h => simp0_c (.letter c) ht rfl rfl (.inl ⟨rfl, ht.1, ht.2⟩) rfl v w h
  | join a b iha ihb =>
    intro ht hl w v h
    rw [len_join] at hl
    exact simp2_c _ a b ht ht.1 ht.2 rfl rfl (top_ok ht) (by omega) (iha ht.1 (by omega)) (ihb ht.2 (by omega)) rfl v w h
  | either a b iha ihb =>
    intro ht hl w v h
    rw [len_either] at hl
    exact simp2_c _ a b ht ht.1 ht.2 rfl rfl (top_ok ht) (by omega) (iha ht.1 (by omega)) (ihb ht.2 (by omega)) rfl v w h
  | both a b iha ihb =>
    intro ht hl w v h
    rw [len_both] at hl
    exact simp2_c _ a b ht ht.1 ht.2 rfl rfl (top_ok ht) (by omega) (iha ht.1 (by omega)) (ihb ht.2 (by omega)) rfl v w h
  | not a iha =>
    intro ht hl w v h
    rw [len_not] at hl
    exact simp1_c _ a ht ht rfl rfl (top_ok ht) (by omega) (iha ht (by omega)) rfl v w h
  | star a iha =>
    intro ht hl w v h
    rw [len_star] at hl
    exact simp1_c _ a ht ht rfl rfl (top_ok ht) (by omega) (iha ht (by omega)) rfl v w h
end Go.Proofs.Ytbcjhiponbfbnaa

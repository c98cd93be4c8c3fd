/- l5Simple: the reference's. Whole expressions of at most 900 parts.
The things that stand under way in a drawn region, packed.
l6Derive: the reference's derivative of a whole expression of at most 60 parts by a letter.
Derive and DeriveWord of the reference: derivatives by letters and words, as long as they have at most 60 parts. -/
import Derived.Deep.RegionHeld3
import Derived.Test.YtbcjhiponbfbnaaLfm
import Derived.Test.YtbcjhiponbfbnaaRgi
import Derived.Test.YtbcjhiponbfbnaaEmp
import Derived.Test.YtbcjhiponbfbnaaGQ
set_option linter.unusedSimpArgs false
set_option linter.unusedVariables false
set_option linter.unusedSectionVars false
namespace Go.Proofs.Ytbcjhiponbfbnaa
open Go.RowKit
set_option maxRecDepth 100000
variable {S T : Nat → Prop}
theorem Sr.stay {w0 w w' : World} {h : Option (Nat × Obj)} {l : List (Option Rw)} (H : Sr w0 w h l) (k : Below w.heap.size w w') : Sr w0 w' h l :=
  ⟨H.bel.trans (k.mono H.bel.size), fun r hr => ownStay (H.own r hr) k, H.ne, fun g o e => ⟨blkBel k (H.hd g o e).1, (H.hd g o e).2⟩⟩
/-- The call answers an expression of its own. -/
def ROx (w : World) (t : Re) (e : Ending) (w' : World) : Prop := ∃ v : Value, e = .returned v ∧ Below w.heap.size w w' ∧ Hid (OwnP w' w.heap.size v t.flat)
theorem ROx.mk {w w' : World} {t : Re} {v : Value} (hb : Below w.heap.size w w') (h : OwnP w' w.heap.size v t.flat) : ROx w t (.returned v) w' := ⟨v, rfl, hb, h⟩
theorem ROx.re {w w' : World} {t : Re} {e : Ending} (ht : t.wf) (h : ROx w t e w') : RE w t e w' := let ⟨v, h1, h2, h3⟩ := h; ⟨v, h1, h2, Lib.hid (h3.out.pr ht)⟩
theorem PR.cellsA {w : World} {b off m : Nat} {x y : Int} (c0 : w.cell? ⟨b, off + m * 2, none⟩ = some (.int .i64 x)) (c1 : w.cell? ⟨b, off + m * 2 + 1, none⟩ = some (.int .i64 y)) (o : Obj) :
    (w.alloc o).cell? ⟨b, off + m * 2, none⟩ = some (.int .i64 x) ∧ (w.alloc o).cell? ⟨b, off + m * 2 + 1, none⟩ = some (.int .i64 y) :=
  ⟨kpAlloc (S := fun _ => True) _ _ trivial c0, kpAlloc (S := fun _ => True) _ _ trivial c1⟩
/-- A copy of what was read, onto an empty row. -/
theorem ownCopy {w : World} {base n : Nat} {v : Value} {xs : List (Int × Int)} (h : w.ownsRow base 67 2 v (0 + n) ([] ++ cells2 xs)) (hn : n = xs.length) : OwnP w base v xs := by
  subst hn
  rw [Nat.zero_add, List.nil_append] at h; exact h
set_option maxHeartbeats 2000000 in
theorem ls0_c (t : Re) (ht : t.wf) (h0 : pNeeds t.top = 0) (hf : t.flat = [(t.top, t.arg)]) (hp : pOk t.top t.arg) (hl : t.len ≤ 900) (h5 : L5 t.top t.arg [] ([]) t.smp) (u : Value) (w : World) (h : PR w u t) : Calls Try.prog 125 #[u] w (ROx w t.smp) := by
  have h2 : Pairs (PT w) w u ([(t.top, t.arg)]) := by have := h.2; unfold PL0 at this; rw [hf] at this; exact this
  have HSP := Lib.hid (l2Split0_c u _ _ w h2 hp h0)
  have HLR : Hid (t.smp.len ≤ 1000000) := Lib.hid (by have := len_smp t; omega)
  have HLS : Hid (([] : List (Int × Int)).length + ([] : List (Int × Int)).length ≤ 1000000) := Lib.hid (by simp)
  obtain ⟨bb, off, cap, m, rfl, hm1, hm2, c0, c1⟩ := h.last
  have hm9 : m ≤ 900 := by unfold Re.len at hl; omega
  have hI : IntKind.i64.wrap ((m + 1 : Nat) - 1 : Int) = (m : Int) := by rw [show (((m + 1 : Nat) : Int) - 1) = (m : Int) by omega]; exact IntWalk.i64_in _ (by omega)
  have hlt : (m : Int) < (m : Int) + 1 := by omega
  have HC : Hid (∀ w', Below w.heap.size w w' → w'.cell? ⟨bb, off + m * 2, none⟩ = some (.int .i64 t.top) ∧ w'.cell? ⟨bb, off + m * 2 + 1, none⟩ = some (.int .i64 t.arg)) := Lib.hid (fun w' k => ⟨kpB (S := fun _ => True) k _ _ trivial c0, kpB (S := fun _ => True) k _ _ trivial c1⟩)
  have HL5 := Lib.hid h5
  clear h h2 hm1 hm2 c0 c1 hp h0 h5 hf ht hl
  go_enter Try.func125, Try.ntmps125
  go_wp2_with fail
  refine HSP.out.mono ?_
  rintro e w1 ⟨va, vb, rfl, hb1, hva, hvb⟩
  have HB1 := Lib.hid hb1
  obtain ⟨aa, ca, rfl, _⟩ := hva.out.shape
  obtain ⟨ab, cb, rfl, _⟩ := hvb.out.shape
  have HA3 : Hid (PL0 w1 _ []) := Lib.hid (PL0.ofW hva.out hb1); have HB3 : Hid (PL0 w1 _ []) := Lib.hid (PL0.ofW hvb.out hb1)
  obtain ⟨d0, d1⟩ := HC.out w1 hb1
  clear hva hvb hb1 HSP HC
  obtain ⟨W, hW⟩ : ∃ W, W = w1.alloc (.cells #[] 67) := ⟨_, rfl⟩
  have hbW : Below w1.heap.size w1 W := by rw [hW]; exact (Below.refl _ _).alloc (Nat.le_refl _) _
  have HOW : Hid (OwnP W w1.heap.size (.slice (some ⟨w1.heap.size, 0, none⟩) 0 0) []) := Lib.hid (by rw [hW]; exact ownLit (n := 0) [] (Nat.le_refl _) (by omega) rfl)
  have HAW := Lib.hid (HA3.out.stay hbW); have HBW := Lib.hid (HB3.out.stay hbW)
  have HbW := Lib.hid hbW
  have qA := fun o => (PR.cellsA d0 d1 o).1
  have qB := fun o => (PR.cellsA d0 d1 o).2
  have HWW := Lib.hid hW
  clear hW hbW
  go_wp2_with fail
  rw [← HWW.out]
  refine (l5Make_c _ _ _ _ _ HL5.out _ _ W HAW.out HBW.out HLS.out).mono ?_
  rintro e w5 ⟨v5, rfl, hb5, hp5⟩
  obtain ⟨a5, c5, rfl, _⟩ := hp5.out.shape
  have HO5 := Lib.hid (HOW.out.stay hb5)
  have hs5 : w1.heap.size ≤ w5.heap.size := Nat.le_trans HbW.out.size hb5.size
  have hl5 := HLR.out
  clear qA qB
  go_wp2_with (at_builtin; refine appMany (S := PT w5) elPart (by decide) rfl (.tmp 20) (.tmp 29) rfl w1.heap.size _ _ 0 _ [] (cells2 _) w5 rfl rfl HO5.out hp5.out.2 (by rw [length_cells2]; omega) (cells2_one _) (by unfold Re.len at hl5; omega) hs5 ?_; intro v2 w2' h2 hg2)
  have hbz : Below w1.heap.size w1 w2' := (HbW.out.trans (hb5.mono HbW.out.size)).grown hg2 hs5 (fun k hk => (World.ownsRow.lt HO5.out k hk).1)
  go_ret
  exact ROx.mk (HB1.out.trans (hbz.mono HB1.out.size)) (ownBase (ownCopy h2.out rfl) HB1.out.size)
set_option maxHeartbeats 2000000 in
theorem ls1_c (t : Re) (a : Re) (ht : t.wf) (ha : a.wf) (h0 : pNeeds t.top = 1) (hf : t.flat = a.flat ++ [(t.top, t.arg)]) (hp : pOk t.top t.arg) (hl : t.len ≤ 900) (iha : ∀ (w : World) (v : Value), PR w v a → Calls Try.prog 125 #[v] w (ROx w a.smp)) (h5 : L5 t.top t.arg a.smp.flat ([]) t.smp) (u : Value) (w : World) (h : PR w u t) : Calls Try.prog 125 #[u] w (ROx w t.smp) := by
  have h2 : Pairs (PT w) w u (a.flat ++ [(t.top, t.arg)]) := by have := h.2; unfold PL0 at this; rw [hf] at this; exact this
  have hla : a.len + 1 = t.len := by unfold Re.len; rw [hf]; simp
  have HSP := Lib.hid (l2Split1_c u a.flat _ _ w h2 hp h0 (by unfold Re.len at hla hl; omega) a.flat_pos)
  have HLR : Hid (t.smp.len ≤ 1000000) := Lib.hid (by have := len_smp t; omega)
  have HLS : Hid ((a.smp.flat : List (Int × Int)).length + ([] : List (Int × Int)).length ≤ 1000000) := Lib.hid (by have := len_smp a; unfold Re.len at *; simp; omega)
  obtain ⟨bb, off, cap, m, rfl, hm1, hm2, c0, c1⟩ := h.last
  have hm9 : m ≤ 900 := by unfold Re.len at hl; omega
  have hI : IntKind.i64.wrap ((m + 1 : Nat) - 1 : Int) = (m : Int) := by rw [show (((m + 1 : Nat) : Int) - 1) = (m : Int) by omega]; exact IntWalk.i64_in _ (by omega)
  have hlt : (m : Int) < (m : Int) + 1 := by omega
  have HC : Hid (∀ w', Below w.heap.size w w' → w'.cell? ⟨bb, off + m * 2, none⟩ = some (.int .i64 t.top) ∧ w'.cell? ⟨bb, off + m * 2 + 1, none⟩ = some (.int .i64 t.arg)) := Lib.hid (fun w' k => ⟨kpB (S := fun _ => True) k _ _ trivial c0, kpB (S := fun _ => True) k _ _ trivial c1⟩)
  have HL5 := Lib.hid h5
  have IA := Lib.hid iha; have HWA := Lib.hid ha
  have hpa := a.flat_pos
  clear h h2 hm1 hm2 c0 c1 hp h0 h5 hf ht hl iha ha hla
  go_enter Try.func125, Try.ntmps125
  go_wp2_with fail
  refine HSP.out.mono ?_
  rintro e w1 ⟨va, vb, rfl, hb1, hva, hvb⟩
  have HB1 := Lib.hid hb1
  obtain ⟨aa, ca, rfl, _⟩ := hva.out.shape
  obtain ⟨ab, cb, rfl, _⟩ := hvb.out.shape
  have HA1 : Hid (PR w1 _ a) := Lib.hid (PR.of HWA.out hva.out hb1)
  have HB1' : Hid (PL0 w1 _ []) := Lib.hid (PL0.ofW hvb.out hb1)
  have hpaI : (0 : Int) < (a.flat.length : Int) := by omega
  clear hva hvb hb1 HSP
  go_wp2_with fail
  refine (IA.out w1 _ HA1.out).mono ?_
  rintro e w2 ⟨v2, rfl, hb2, ho2⟩
  have HB2 := Lib.hid (HB1.out.trans (hb2.mono HB1.out.size))
  have HA2 := Lib.hid ho2.out.pl0
  have HB2' := Lib.hid (HB1'.out.stay hb2)
  obtain ⟨a3, c3, rfl, _⟩ := Pairs.shape HA2.out
  clear ho2 hb2 HA1 HB1'
  obtain ⟨d0, d1⟩ := HC.out w2 HB2.out
  clear HC
  obtain ⟨W, hW⟩ : ∃ W, W = w2.alloc (.cells #[] 67) := ⟨_, rfl⟩
  have hbW : Below w2.heap.size w2 W := by rw [hW]; exact (Below.refl _ _).alloc (Nat.le_refl _) _
  have HOW : Hid (OwnP W w2.heap.size (.slice (some ⟨w2.heap.size, 0, none⟩) 0 0) []) := Lib.hid (by rw [hW]; exact ownLit (n := 0) [] (Nat.le_refl _) (by omega) rfl)
  have HAW := Lib.hid (HA2.out.stay hbW); have HBW := Lib.hid (HB2'.out.stay hbW)
  have HbW := Lib.hid hbW
  have qA := fun o => (PR.cellsA d0 d1 o).1
  have qB := fun o => (PR.cellsA d0 d1 o).2
  have HWW := Lib.hid hW
  clear hW hbW
  go_wp2_with fail
  rw [← HWW.out]
  refine (l5Make_c _ _ _ _ _ HL5.out _ _ W HAW.out HBW.out HLS.out).mono ?_
  rintro e w5 ⟨v5, rfl, hb5, hp5⟩
  obtain ⟨a5, c5, rfl, _⟩ := hp5.out.shape
  have HO5 := Lib.hid (HOW.out.stay hb5)
  have hs5 : w2.heap.size ≤ w5.heap.size := Nat.le_trans HbW.out.size hb5.size
  have hl5 := HLR.out
  clear qA qB
  go_wp2_with (at_builtin; refine appMany (S := PT w5) elPart (by decide) rfl (.tmp 20) (.tmp 29) rfl w2.heap.size _ _ 0 _ [] (cells2 _) w5 rfl rfl HO5.out hp5.out.2 (by rw [length_cells2]; omega) (cells2_one _) (by unfold Re.len at hl5; omega) hs5 ?_; intro v2 w2' h2 hg2)
  have hbz : Below w2.heap.size w2 w2' := (HbW.out.trans (hb5.mono HbW.out.size)).grown hg2 hs5 (fun k hk => (World.ownsRow.lt HO5.out k hk).1)
  go_ret
  exact ROx.mk (HB2.out.trans (hbz.mono HB2.out.size)) (ownBase (ownCopy h2.out rfl) HB2.out.size)
set_option maxHeartbeats 2000000 in
theorem ls2_c (t : Re) (a b : Re) (ht : t.wf) (ha : a.wf) (hb : b.wf) (h0 : pNeeds t.top = 2) (hf : t.flat = a.flat ++ b.flat ++ [(t.top, t.arg)]) (hp : pOk t.top t.arg) (hl : t.len ≤ 900) (iha : ∀ (w : World) (v : Value), PR w v a → Calls Try.prog 125 #[v] w (ROx w a.smp)) (ihb : ∀ (w : World) (v : Value), PR w v b → Calls Try.prog 125 #[v] w (ROx w b.smp)) (h5 : L5 t.top t.arg a.smp.flat (b.smp.flat) t.smp) (u : Value) (w : World) (h : PR w u t) : Calls Try.prog 125 #[u] w (ROx w t.smp) := by
  have h2 : Pairs (PT w) w u (a.flat ++ b.flat ++ [(t.top, t.arg)]) := by have := h.2; unfold PL0 at this; rw [hf] at this; exact this
  have hla : a.len + b.len + 1 = t.len := by unfold Re.len; rw [hf]; simp; omega
  have HSP := Lib.hid (l2Split2_c u a.flat b _ _ w hb h2 hp h0 (by rw [List.length_append]; unfold Re.len at hla hl; omega) a.flat_pos)
  have HLR : Hid (t.smp.len ≤ 1000000) := Lib.hid (by have := len_smp t; omega)
  have HLS : Hid ((a.smp.flat : List (Int × Int)).length + (b.smp.flat : List (Int × Int)).length ≤ 1000000) := Lib.hid (by have := len_smp a; have := len_smp b; unfold Re.len at *; omega)
  obtain ⟨bb, off, cap, m, rfl, hm1, hm2, c0, c1⟩ := h.last
  have hm9 : m ≤ 900 := by unfold Re.len at hl; omega
  have hI : IntKind.i64.wrap ((m + 1 : Nat) - 1 : Int) = (m : Int) := by rw [show (((m + 1 : Nat) : Int) - 1) = (m : Int) by omega]; exact IntWalk.i64_in _ (by omega)
  have hlt : (m : Int) < (m : Int) + 1 := by omega
  have HC : Hid (∀ w', Below w.heap.size w w' → w'.cell? ⟨bb, off + m * 2, none⟩ = some (.int .i64 t.top) ∧ w'.cell? ⟨bb, off + m * 2 + 1, none⟩ = some (.int .i64 t.arg)) := Lib.hid (fun w' k => ⟨kpB (S := fun _ => True) k _ _ trivial c0, kpB (S := fun _ => True) k _ _ trivial c1⟩)
  have HL5 := Lib.hid h5
  have IA := Lib.hid iha; have HWA := Lib.hid ha
  have hpa := a.flat_pos
  have IB := Lib.hid ihb; have HWB := Lib.hid hb
  have hpb := b.flat_pos
  clear h h2 hm1 hm2 c0 c1 hp h0 h5 hf ht hl iha ha ihb hb hla
  go_enter Try.func125, Try.ntmps125
  go_wp2_with fail
  refine HSP.out.mono ?_
  rintro e w1 ⟨va, vb, rfl, hb1, hva, hvb⟩
  have HB1 := Lib.hid hb1
  obtain ⟨aa, ca, rfl, _⟩ := hva.out.shape
  obtain ⟨ab, cb, rfl, _⟩ := hvb.out.shape
  have HA1 : Hid (PR w1 _ a) := Lib.hid (PR.of HWA.out hva.out hb1)
  have HB1' : Hid (PR w1 _ b) := Lib.hid (PR.of HWB.out hvb.out hb1)
  have hpaI : (0 : Int) < (a.flat.length : Int) := by omega
  clear hva hvb hb1 HSP
  have hpbI : (0 : Int) < (b.flat.length : Int) := by omega
  go_wp2_with fail
  refine (IA.out w1 _ HA1.out).mono ?_
  rintro e w2 ⟨v2, rfl, hb2, ho2⟩
  have HB2 := Lib.hid (HB1.out.trans (hb2.mono HB1.out.size))
  have HA2 := Lib.hid ho2.out.pl0
  have HB2' := Lib.hid (HB1'.out.stay hb2)
  obtain ⟨a3, c3, rfl, _⟩ := Pairs.shape HA2.out
  clear ho2 hb2 HA1 HB1'
  go_wp2_with fail
  refine (IB.out w2 _ HB2'.out).mono ?_
  rintro e w3 ⟨v3, rfl, hb3, ho3⟩
  have HB3b := Lib.hid (HB2.out.trans (hb3.mono HB2.out.size))
  have HB3 := Lib.hid ho3.out.pl0
  have HA3 := Lib.hid (HA2.out.stay hb3)
  obtain ⟨a4, c4, rfl, _⟩ := Pairs.shape HB3.out
  obtain ⟨d0, d1⟩ := HC.out w3 HB3b.out
  clear ho3 hb3 HA2 HB2' HC
  obtain ⟨W, hW⟩ : ∃ W, W = w3.alloc (.cells #[] 67) := ⟨_, rfl⟩
  have hbW : Below w3.heap.size w3 W := by rw [hW]; exact (Below.refl _ _).alloc (Nat.le_refl _) _
  have HOW : Hid (OwnP W w3.heap.size (.slice (some ⟨w3.heap.size, 0, none⟩) 0 0) []) := Lib.hid (by rw [hW]; exact ownLit (n := 0) [] (Nat.le_refl _) (by omega) rfl)
  have HAW := Lib.hid (HA3.out.stay hbW); have HBW := Lib.hid (HB3.out.stay hbW)
  have HbW := Lib.hid hbW
  have qA := fun o => (PR.cellsA d0 d1 o).1
  have qB := fun o => (PR.cellsA d0 d1 o).2
  have HWW := Lib.hid hW
  clear hW hbW
  go_wp2_with fail
  rw [← HWW.out]
  refine (l5Make_c _ _ _ _ _ HL5.out _ _ W HAW.out HBW.out HLS.out).mono ?_
  rintro e w5 ⟨v5, rfl, hb5, hp5⟩
  obtain ⟨a5, c5, rfl, _⟩ := hp5.out.shape
  have HO5 := Lib.hid (HOW.out.stay hb5)
  have hs5 : w3.heap.size ≤ w5.heap.size := Nat.le_trans HbW.out.size hb5.size
  have hl5 := HLR.out
  clear qA qB
  go_wp2_with (at_builtin; refine appMany (S := PT w5) elPart (by decide) rfl (.tmp 20) (.tmp 29) rfl w3.heap.size _ _ 0 _ [] (cells2 _) w5 rfl rfl HO5.out hp5.out.2 (by rw [length_cells2]; omega) (cells2_one _) (by unfold Re.len at hl5; omega) hs5 ?_; intro v2 w2' h2 hg2)
  have hbz : Below w3.heap.size w3 w2' := (HbW.out.trans (hb5.mono HbW.out.size)).grown hg2 hs5 (fun k hk => (World.ownsRow.lt HO5.out k hk).1)
  go_ret
  exact ROx.mk (HB3b.out.trans (hbz.mono HB3b.out.size)) (ownBase (ownCopy h2.out rfl) HB3b.out.size)
theorem l5Simple_c (t : Re) : t.wf → t.len ≤ 900 → ∀ (w : World) (v : Value), PR w v t → Calls Try.prog 125 #[v] w (ROx w t.smp) := by
  induction t with
  | none => exact fun ht hl w v h => ls0_c .none ht rfl rfl (top_ok ht) hl ⟨trivial, .inr (.inr (.inr (.inr (.inr ⟨.inl rfl, rfl, rfl, rfl⟩))))⟩ v w h
  | empty => exact fun ht hl w v h => ls0_c .empty ht rfl rfl (top_ok ht) hl ⟨trivial, .inr (.inr (.inr (.inr (.inr ⟨.inr (.inl rfl), rfl, rfl, rfl⟩))))⟩ v w h
  | letter c => exact fun ht hl w v h => ls0_c (.letter c) ht rfl rfl (top_ok ht) hl ⟨ht, .inr (.inr (.inr (.inr (.inr ⟨.inr (.inr rfl), rfl, rfl, rfl⟩))))⟩ v w h
  | join a b iha ihb => exact fun ht hl w v h => ls2_c _ a b ht ht.1 ht.2 rfl rfl (top_ok ht) hl (iha ht.1 (by rw [len_join] at hl; omega)) (ihb ht.2 (by rw [len_join] at hl; omega)) ⟨smp_wf ht, .inl ⟨rfl, rfl, a.smp, b.smp, smp_wf ht.1, smp_wf ht.2, rfl, rfl, rfl⟩⟩ v w h
  | either a b iha ihb => exact fun ht hl w v h => ls2_c _ a b ht ht.1 ht.2 rfl rfl (top_ok ht) hl (iha ht.1 (by rw [len_either] at hl; omega)) (ihb ht.2 (by rw [len_either] at hl; omega)) ⟨smp_wf ht, .inr (.inl ⟨rfl, rfl, a.smp, b.smp, smp_wf ht.1, smp_wf ht.2, rfl, rfl, rfl⟩)⟩ v w h
  | both a b iha ihb => exact fun ht hl w v h => ls2_c _ a b ht ht.1 ht.2 rfl rfl (top_ok ht) hl (iha ht.1 (by rw [len_both] at hl; omega)) (ihb ht.2 (by rw [len_both] at hl; omega)) ⟨smp_wf ht, .inr (.inr (.inl ⟨rfl, rfl, a.smp, b.smp, smp_wf ht.1, smp_wf ht.2, rfl, rfl, rfl⟩))⟩ v w h
  | not a iha => exact fun ht hl w v h => ls1_c _ a ht ht rfl rfl (top_ok ht) hl (iha ht (by rw [len_not] at hl; omega)) ⟨smp_wf ht, .inr (.inr (.inr (.inl ⟨rfl, rfl, a.smp, smp_wf (t := a) ht, rfl, rfl, rfl⟩)))⟩ v w h
  | star a iha => exact fun ht hl w v h => ls1_c _ a ht ht rfl rfl (top_ok ht) hl (iha ht (by rw [len_star] at hl; omega)) ⟨smp_wf ht, .inr (.inr (.inr (.inr (.inl ⟨rfl, rfl, a.smp, smp_wf (t := a) ht, rfl, rfl, rfl⟩))))⟩ v w h
end Go.Proofs.Ytbcjhiponbfbnaa
namespace Go.Proofs.Ytbcjhiponbfbnaa
open Go.RowKit
structure Vb where
  (b0 b1 b2 b3 b4 b5 b6 b7 b8 b9 b10 b11 b12 b13 b14 b15 b16 b17 b18 b19 b20 b21 b22 b23 b24 b25 b26 b27 b28 b29 b30 b31 : Bool)
structure Vx where
  (x0 x1 x2 x3 x4 x5 x6 x7 x8 x9 x10 x11 x12 x13 x14 x15 : Value)
structure Vr where
  (h : Option (Nat × Obj))
  (r0 r1 r2 r3 r4 r5 r6 r7 : Option Rw)
end Go.Proofs.Ytbcjhiponbfbnaa
namespace Go.Proofs.Ytbcjhiponbfbnaa
open Go.RowKit
set_option maxRecDepth 100000
variable {S T : Nat → Prop}
theorem l5e (k : Int) (hk : k = 5 ∨ k = 6) {a b : Re} (ha : a.wf) (hb : b.wf) {R : Re} (hR : R = Re.mk3 k a b) : L5 k 0 a.flat b.flat R := by
  subst hR
  rcases hk with rfl | rfl
  · exact ⟨mkEither_wf ha hb, .inr (.inl ⟨rfl, rfl, a, b, ha, hb, rfl, rfl, rfl⟩)⟩
  · exact ⟨mkBoth_wf ha hb, .inr (.inr (.inl ⟨rfl, rfl, a, b, ha, hb, rfl, rfl, rfl⟩))⟩
theorem l5j {a b : Re} (ha : a.wf) (hb : b.wf) : L5 4 0 a.flat b.flat (a.mkJoin b) := ⟨mkJoin_wf ha hb, .inl ⟨rfl, rfl, a, b, ha, hb, rfl, rfl, rfl⟩⟩
theorem l5n {a : Re} (ha : a.wf) : L5 7 0 a.flat [] a.mkNot := ⟨mkNot_wf ha, .inr (.inr (.inr (.inl ⟨rfl, rfl, a, ha, rfl, rfl, rfl⟩)))⟩
set_option maxHeartbeats 800000 in
theorem lde_none (c : Int) (u : Value) (w : World) (h : PR w u .none) : Calls Try.prog 89 #[u, .int .i64 c] w (ROx w (Re.der c .none)) := by
  have hmm : (Re.none).flat.length = 1 := rfl
  have HE : Hid ((Re.der c .none).flat = [(1, 0)]) := Lib.hid rfl
  have ht := h.1
  obtain ⟨bb, off, cap, m, rfl, hm1, hm2, c0, c1⟩ := h.last
  replace c0 : w.cell? ⟨bb, off + m * 2, none⟩ = some (.int .i64 1) := c0
  replace c1 : w.cell? ⟨bb, off + m * 2 + 1, none⟩ = some (.int .i64 0) := c1
  have hm60 : m ≤ 60 := by omega
  have hI : IntKind.i64.wrap ((m + 1 : Nat) - 1 : Int) = (m : Int) := by rw [show (((m + 1 : Nat) : Int) - 1) = (m : Int) by omega]; exact IntWalk.i64_in _ (by omega)
  have hlt : (m : Int) < (m : Int) + 1 := by omega
  have HC : Hid (∀ w', Below w.heap.size w w' → w'.cell? ⟨bb, off + m * 2, none⟩ = some (.int .i64 1) ∧ w'.cell? ⟨bb, off + m * 2 + 1, none⟩ = some (.int .i64 0)) := Lib.hid (fun w' k => ⟨kpB (S := fun _ => True) k _ _ trivial c0, kpB (S := fun _ => True) k _ _ trivial c1⟩)
  obtain ⟨W0, hW0⟩ : ∃ W0, W0 = w.alloc (.cells #[.int .i64 1, .int .i64 0] 67) := ⟨_, rfl⟩
  have hB0 : Below w.heap.size w W0 := by rw [hW0]; exact (Below.refl _ _).alloc (Nat.le_refl _) _
  have HN0 : Hid (OwnP W0 w.heap.size (.slice (some ⟨w.heap.size, 0, none⟩) 1 1) [(1, 0)]) := Lib.hid (by rw [hW0]; exact ownLit [.int .i64 1, .int .i64 0] (Nat.le_refl _) (by omega) rfl)
  have HH0 := Lib.hid (h.stay hB0)
  have HSP := Lib.hid (l2Split0_c _ 1 0 W0 (h.stay hB0).2 (by decide) (by decide))
  have HB0 := Lib.hid hB0
  have HW0 := Lib.hid hW0
  obtain rfl : m = 0 := by omega
  clear h c0 c1 hm1 hm2 hB0 hW0 ht hmm
  go_enter Try.func89, Try.ntmps89
  simp only [Nat.zero_mul, Nat.add_zero] at HC
  go_wp2_with fail
  rw [← HW0.out]
  refine HSP.out.mono ?_
  rintro e ws ⟨va, vb, rfl, hbs, hva, hvb⟩
  have HBs := Lib.hid (HB0.out.trans (hbs.mono HB0.out.size))
  have HHs := Lib.hid (HH0.out.stay hbs)
  have HNs := Lib.hid (HN0.out.stay hbs)
  obtain ⟨aa, ca, rfl, _⟩ := hva.out.shape
  obtain ⟨ab, cb, rfl, _⟩ := hvb.out.shape
  obtain ⟨d0, d1⟩ := HC.out ws HBs.out
  obtain ⟨W, hW⟩ : ∃ W, W = ws.alloc (.cells #[.int .i64 1, .int .i64 0] 67) := ⟨_, rfl⟩
  have hbW : Below ws.heap.size ws W := by rw [hW]; exact (Below.refl _ _).alloc (Nat.le_refl _) _
  have KW : Hid (W.heap[ws.heap.size]? = some (.cells #[.int .i64 1, .int .i64 0] 67 (0, 0))) := Lib.hid (by rw [hW]; exact blkNew _ _ rfl)
  have HBW := Lib.hid (HBs.out.trans (hbW.mono HBs.out.size))
  have HHW := Lib.hid (HHs.out.stay hbW)
  have HNW := Lib.hid (HNs.out.stay hbW)
  have HWW := Lib.hid hW
  obtain ⟨q0, q1, f0, f1⟩ := blk2 KW.out
  clear hva hvb hbs hbW hW HSP HC HH0 HN0 HHs HNs
  rw [HWW.out] at q0 q1 f0 f1
  go_wp2_with fail
  go_ret
  exact ROx.mk (by rw [← HWW.out]; exact HBW.out) (by rw [← HWW.out, HE.out]; exact HNW.out)
set_option maxHeartbeats 800000 in
theorem lde_empty (c : Int) (u : Value) (w : World) (h : PR w u .empty) : Calls Try.prog 89 #[u, .int .i64 c] w (ROx w (Re.der c .empty)) := by
  have hmm : (Re.empty).flat.length = 1 := rfl
  have HE : Hid ((Re.der c .empty).flat = [(1, 0)]) := Lib.hid rfl
  have ht := h.1
  obtain ⟨bb, off, cap, m, rfl, hm1, hm2, c0, c1⟩ := h.last
  replace c0 : w.cell? ⟨bb, off + m * 2, none⟩ = some (.int .i64 2) := c0
  replace c1 : w.cell? ⟨bb, off + m * 2 + 1, none⟩ = some (.int .i64 0) := c1
  have hm60 : m ≤ 60 := by omega
  have hI : IntKind.i64.wrap ((m + 1 : Nat) - 1 : Int) = (m : Int) := by rw [show (((m + 1 : Nat) : Int) - 1) = (m : Int) by omega]; exact IntWalk.i64_in _ (by omega)
  have hlt : (m : Int) < (m : Int) + 1 := by omega
  have HC : Hid (∀ w', Below w.heap.size w w' → w'.cell? ⟨bb, off + m * 2, none⟩ = some (.int .i64 2) ∧ w'.cell? ⟨bb, off + m * 2 + 1, none⟩ = some (.int .i64 0)) := Lib.hid (fun w' k => ⟨kpB (S := fun _ => True) k _ _ trivial c0, kpB (S := fun _ => True) k _ _ trivial c1⟩)
  obtain ⟨W0, hW0⟩ : ∃ W0, W0 = w.alloc (.cells #[.int .i64 1, .int .i64 0] 67) := ⟨_, rfl⟩
  have hB0 : Below w.heap.size w W0 := by rw [hW0]; exact (Below.refl _ _).alloc (Nat.le_refl _) _
  have HN0 : Hid (OwnP W0 w.heap.size (.slice (some ⟨w.heap.size, 0, none⟩) 1 1) [(1, 0)]) := Lib.hid (by rw [hW0]; exact ownLit [.int .i64 1, .int .i64 0] (Nat.le_refl _) (by omega) rfl)
  have HH0 := Lib.hid (h.stay hB0)
  have HSP := Lib.hid (l2Split0_c _ 2 0 W0 (h.stay hB0).2 (by decide) (by decide))
  have HB0 := Lib.hid hB0
  have HW0 := Lib.hid hW0
  obtain rfl : m = 0 := by omega
  clear h c0 c1 hm1 hm2 hB0 hW0 ht hmm
  go_enter Try.func89, Try.ntmps89
  simp only [Nat.zero_mul, Nat.add_zero] at HC
  go_wp2_with fail
  rw [← HW0.out]
  refine HSP.out.mono ?_
  rintro e ws ⟨va, vb, rfl, hbs, hva, hvb⟩
  have HBs := Lib.hid (HB0.out.trans (hbs.mono HB0.out.size))
  have HHs := Lib.hid (HH0.out.stay hbs)
  have HNs := Lib.hid (HN0.out.stay hbs)
  obtain ⟨aa, ca, rfl, _⟩ := hva.out.shape
  obtain ⟨ab, cb, rfl, _⟩ := hvb.out.shape
  obtain ⟨d0, d1⟩ := HC.out ws HBs.out
  obtain ⟨W, hW⟩ : ∃ W, W = ws.alloc (.cells #[.int .i64 2, .int .i64 0] 67) := ⟨_, rfl⟩
  have hbW : Below ws.heap.size ws W := by rw [hW]; exact (Below.refl _ _).alloc (Nat.le_refl _) _
  have KW : Hid (W.heap[ws.heap.size]? = some (.cells #[.int .i64 2, .int .i64 0] 67 (0, 0))) := Lib.hid (by rw [hW]; exact blkNew _ _ rfl)
  have HBW := Lib.hid (HBs.out.trans (hbW.mono HBs.out.size))
  have HHW := Lib.hid (HHs.out.stay hbW)
  have HNW := Lib.hid (HNs.out.stay hbW)
  have HWW := Lib.hid hW
  obtain ⟨q0, q1, f0, f1⟩ := blk2 KW.out
  clear hva hvb hbs hbW hW HSP HC HH0 HN0 HHs HNs
  rw [HWW.out] at q0 q1 f0 f1
  go_wp2_with fail
  go_ret
  exact ROx.mk (by rw [← HWW.out]; exact HBW.out) (by rw [← HWW.out, HE.out]; exact HNW.out)
set_option maxHeartbeats 800000 in
theorem lde_letter (d c : Int) (u : Value) (w : World) (h : PR w u (.letter d)) : Calls Try.prog 89 #[u, .int .i64 c] w (ROx w (Re.der c (.letter d))) := by
  have hmm : (Re.letter d).flat.length = 1 := rfl
  have HE : Hid (Re.der c (.letter d) = if d = c then .empty else .none) := Lib.hid rfl
  have ht := h.1
  obtain ⟨bb, off, cap, m, rfl, hm1, hm2, c0, c1⟩ := h.last
  replace c0 : w.cell? ⟨bb, off + m * 2, none⟩ = some (.int .i64 3) := c0
  replace c1 : w.cell? ⟨bb, off + m * 2 + 1, none⟩ = some (.int .i64 d) := c1
  have hm60 : m ≤ 60 := by omega
  have hI : IntKind.i64.wrap ((m + 1 : Nat) - 1 : Int) = (m : Int) := by rw [show (((m + 1 : Nat) : Int) - 1) = (m : Int) by omega]; exact IntWalk.i64_in _ (by omega)
  have hlt : (m : Int) < (m : Int) + 1 := by omega
  have HC : Hid (∀ w', Below w.heap.size w w' → w'.cell? ⟨bb, off + m * 2, none⟩ = some (.int .i64 3) ∧ w'.cell? ⟨bb, off + m * 2 + 1, none⟩ = some (.int .i64 d)) := Lib.hid (fun w' k => ⟨kpB (S := fun _ => True) k _ _ trivial c0, kpB (S := fun _ => True) k _ _ trivial c1⟩)
  obtain ⟨W0, hW0⟩ : ∃ W0, W0 = w.alloc (.cells #[.int .i64 1, .int .i64 0] 67) := ⟨_, rfl⟩
  have hB0 : Below w.heap.size w W0 := by rw [hW0]; exact (Below.refl _ _).alloc (Nat.le_refl _) _
  have HN0 : Hid (OwnP W0 w.heap.size (.slice (some ⟨w.heap.size, 0, none⟩) 1 1) [(1, 0)]) := Lib.hid (by rw [hW0]; exact ownLit [.int .i64 1, .int .i64 0] (Nat.le_refl _) (by omega) rfl)
  have HH0 := Lib.hid (h.stay hB0)
  have HSP := Lib.hid (l2Split0_c _ 3 d W0 (h.stay hB0).2 (.inl ⟨rfl, ht.1, ht.2⟩) (by decide))
  have HB0 := Lib.hid hB0
  have HW0 := Lib.hid hW0
  obtain rfl : m = 0 := by omega
  by_cases hdc : d = c
  · have hd : (d == c) = true := by simpa using hdc
    rw [if_pos hdc] at HE
    clear hdc
    clear h c0 c1 hm1 hm2 hB0 hW0 ht hmm
    go_enter Try.func89, Try.ntmps89
    simp only [Nat.zero_mul, Nat.add_zero] at HC
    go_wp2_with fail
    rw [← HW0.out]
    refine HSP.out.mono ?_
    rintro e ws ⟨va, vb, rfl, hbs, hva, hvb⟩
    have HBs := Lib.hid (HB0.out.trans (hbs.mono HB0.out.size))
    have HHs := Lib.hid (HH0.out.stay hbs)
    have HNs := Lib.hid (HN0.out.stay hbs)
    obtain ⟨aa, ca, rfl, _⟩ := hva.out.shape
    obtain ⟨ab, cb, rfl, _⟩ := hvb.out.shape
    obtain ⟨d0, d1⟩ := HC.out ws HBs.out
    obtain ⟨W, hW⟩ : ∃ W, W = ws.alloc (.cells #[.int .i64 3, .int .i64 d] 67) := ⟨_, rfl⟩
    have hbW : Below ws.heap.size ws W := by rw [hW]; exact (Below.refl _ _).alloc (Nat.le_refl _) _
    have KW : Hid (W.heap[ws.heap.size]? = some (.cells #[.int .i64 3, .int .i64 d] 67 (0, 0))) := Lib.hid (by rw [hW]; exact blkNew _ _ rfl)
    have HBW := Lib.hid (HBs.out.trans (hbW.mono HBs.out.size))
    have HHW := Lib.hid (HHs.out.stay hbW)
    have HNW := Lib.hid (HNs.out.stay hbW)
    have HWW := Lib.hid hW
    obtain ⟨q0, q1, f0, f1⟩ := blk2 KW.out
    clear hva hvb hbs hbW hW HSP HC HH0 HN0 HHs HNs
    rw [HWW.out] at q0 q1 f0 f1
    go_wp2_with fail
    go_ret
    have ho : OwnP (W.alloc (.cells #[.int .i64 2, .int .i64 0] 67)) W.heap.size (.slice (some ⟨W.heap.size, 0, none⟩) 1 1) [(2, 0)] := ownLit [.int .i64 2, .int .i64 0] (Nat.le_refl _) (by omega) rfl
    have hz : W.heap.size = ws.heap.size + 1 := by rw [HWW.out]; simp
    rw [hz] at ho
    rw [HWW.out] at ho HBW
    exact ROx.mk (HBW.out.alloc HBW.out.size _) (by rw [HE.out]; exact ownBase ho (by have := HBs.out.size; omega))
  · have hd : (d == c) = false := by simpa using hdc
    rw [if_neg hdc] at HE
    clear hdc
    clear h c0 c1 hm1 hm2 hB0 hW0 ht hmm
    go_enter Try.func89, Try.ntmps89
    simp only [Nat.zero_mul, Nat.add_zero] at HC
    go_wp2_with fail
    rw [← HW0.out]
    refine HSP.out.mono ?_
    rintro e ws ⟨va, vb, rfl, hbs, hva, hvb⟩
    have HBs := Lib.hid (HB0.out.trans (hbs.mono HB0.out.size))
    have HHs := Lib.hid (HH0.out.stay hbs)
    have HNs := Lib.hid (HN0.out.stay hbs)
    obtain ⟨aa, ca, rfl, _⟩ := hva.out.shape
    obtain ⟨ab, cb, rfl, _⟩ := hvb.out.shape
    obtain ⟨d0, d1⟩ := HC.out ws HBs.out
    obtain ⟨W, hW⟩ : ∃ W, W = ws.alloc (.cells #[.int .i64 3, .int .i64 d] 67) := ⟨_, rfl⟩
    have hbW : Below ws.heap.size ws W := by rw [hW]; exact (Below.refl _ _).alloc (Nat.le_refl _) _
    have KW : Hid (W.heap[ws.heap.size]? = some (.cells #[.int .i64 3, .int .i64 d] 67 (0, 0))) := Lib.hid (by rw [hW]; exact blkNew _ _ rfl)
    have HBW := Lib.hid (HBs.out.trans (hbW.mono HBs.out.size))
    have HHW := Lib.hid (HHs.out.stay hbW)
    have HNW := Lib.hid (HNs.out.stay hbW)
    have HWW := Lib.hid hW
    obtain ⟨q0, q1, f0, f1⟩ := blk2 KW.out
    clear hva hvb hbs hbW hW HSP HC HH0 HN0 HHs HNs
    rw [HWW.out] at q0 q1 f0 f1
    go_wp2_with fail
    go_ret
    exact ROx.mk (by rw [← HWW.out]; exact HBW.out) (by rw [← HWW.out, HE.out]; exact HNW.out)
set_option maxHeartbeats 4000000 in
theorem lde_either (ta tb : Re) (c : Int) (hl : ta.len + tb.len ≤ 59) (iha : ∀ (w : World) (v : Value), PR w v ta → Calls Try.prog 89 #[v, .int .i64 c] w (ROx w (ta.der c))) (ihb : ∀ (w : World) (v : Value), PR w v tb → Calls Try.prog 89 #[v, .int .i64 c] w (ROx w (tb.der c))) (u : Value) (w : World) (h : PR w u (.either ta tb)) : Calls Try.prog 89 #[u, .int .i64 c] w (ROx w (Re.der c (.either ta tb))) := by
  have hla : (ta.flat ++ tb.flat).length ≤ 900 := by rw [List.length_append]; unfold Re.len at hl; omega
  have hmm := len_either ta tb
  unfold Re.len at hmm hl
  have ht := h.1
  obtain ⟨bb, off, cap, m, rfl, hm1, hm2, c0, c1⟩ := h.last
  replace c0 : w.cell? ⟨bb, off + m * 2, none⟩ = some (.int .i64 5) := c0
  replace c1 : w.cell? ⟨bb, off + m * 2 + 1, none⟩ = some (.int .i64 0) := c1
  have hm60 : m ≤ 60 := by omega
  have hI : IntKind.i64.wrap ((m + 1 : Nat) - 1 : Int) = (m : Int) := by rw [show (((m + 1 : Nat) : Int) - 1) = (m : Int) by omega]; exact IntWalk.i64_in _ (by omega)
  have hlt : (m : Int) < (m : Int) + 1 := by omega
  have HC : Hid (∀ w', Below w.heap.size w w' → w'.cell? ⟨bb, off + m * 2, none⟩ = some (.int .i64 5) ∧ w'.cell? ⟨bb, off + m * 2 + 1, none⟩ = some (.int .i64 0)) := Lib.hid (fun w' k => ⟨kpB (S := fun _ => True) k _ _ trivial c0, kpB (S := fun _ => True) k _ _ trivial c1⟩)
  obtain ⟨W0, hW0⟩ : ∃ W0, W0 = w.alloc (.cells #[.int .i64 1, .int .i64 0] 67) := ⟨_, rfl⟩
  have hB0 : Below w.heap.size w W0 := by rw [hW0]; exact (Below.refl _ _).alloc (Nat.le_refl _) _
  have HN0 : Hid (OwnP W0 w.heap.size (.slice (some ⟨w.heap.size, 0, none⟩) 1 1) [(1, 0)]) := Lib.hid (by rw [hW0]; exact ownLit [.int .i64 1, .int .i64 0] (Nat.le_refl _) (by omega) rfl)
  have HH0 := Lib.hid (h.stay hB0)
  have HSP := Lib.hid (l2Split2_c _ ta.flat tb 5 0 W0 ht.2 (h.stay hB0).2 (by decide) (by decide) hla ta.flat_pos)
  have HB0 := Lib.hid hB0
  have HW0 := Lib.hid hW0
  have HWA := Lib.hid ht.1; have HWB := Lib.hid ht.2
  have IA := Lib.hid iha; have IB := Lib.hid ihb
  obtain ⟨R, hR⟩ : ∃ R, R = Re.der c (.either ta tb) := ⟨_, rfl⟩
  have HL5 := Lib.hid (l5e 5 (by decide) (der_wf c ht.1) (der_wf c ht.2) (R := R) hR)
  have HLS : Hid ((ta.der c).flat.length + (tb.der c).flat.length ≤ 1000000) := Lib.hid (by have h1 := len_der c ta; have h2 : ta.len * ta.len ≤ 60 * 60 := Nat.mul_le_mul (by unfold Re.len; omega) (by unfold Re.len; omega); have h3 := len_der c tb; have h4 : tb.len * tb.len ≤ 60 * 60 := Nat.mul_le_mul (by unfold Re.len; omega) (by unfold Re.len; omega); unfold Re.len at *; omega)
  have HLR : Hid (R.len ≤ 1000000) := Lib.hid (by rw [hR]; have h1 := len_der c (Re.either ta tb); have h2 : (Re.either ta tb).len * (Re.either ta tb).len ≤ 60 * 60 := Nat.mul_le_mul (by unfold Re.len; omega) (by unfold Re.len; omega); omega)
  have HE := Lib.hid hR
  clear h c0 c1 hm1 hm2 hB0 hW0 ht hR iha ihb hl hla hmm
  go_enter Try.func89, Try.ntmps89
  go_wp2_with fail
  rw [← HW0.out]
  refine HSP.out.mono ?_
  rintro e ws ⟨va, vb, rfl, hbs, hva, hvb⟩
  have HBs := Lib.hid (HB0.out.trans (hbs.mono HB0.out.size))
  have HHs := Lib.hid (HH0.out.stay hbs)
  have HNs := Lib.hid (HN0.out.stay hbs)
  obtain ⟨aa, ca, rfl, _⟩ := hva.out.shape
  obtain ⟨ab, cb, rfl, _⟩ := hvb.out.shape
  obtain ⟨d0, d1⟩ := HC.out ws HBs.out
  obtain ⟨W, hW⟩ : ∃ W, W = ws.alloc (.cells #[.int .i64 5, .int .i64 0] 67) := ⟨_, rfl⟩
  have hbW : Below ws.heap.size ws W := by rw [hW]; exact (Below.refl _ _).alloc (Nat.le_refl _) _
  have KW : Hid (W.heap[ws.heap.size]? = some (.cells #[.int .i64 5, .int .i64 0] 67 (0, 0))) := Lib.hid (by rw [hW]; exact blkNew _ _ rfl)
  have HBW := Lib.hid (HBs.out.trans (hbW.mono HBs.out.size))
  have HHW := Lib.hid (HHs.out.stay hbW)
  have HNW := Lib.hid (HNs.out.stay hbW)
  have HAW : Hid (PR W _ ta) := Lib.hid ((PR.of HWA.out hva.out hbs).stay hbW)
  have HBB : Hid (PR W _ tb) := Lib.hid ((PR.of HWB.out hvb.out hbs).stay hbW)
  have HWW := Lib.hid hW
  obtain ⟨q0, q1, f0, f1⟩ := blk2 KW.out
  clear hva hvb hbs hbW hW HSP HC HH0 HN0 HHs HNs
  rw [HWW.out] at q0 q1 f0 f1
  go_wp2_with fail
  rw [← HWW.out] at q0 q1 f0 f1 ⊢
  have HK : Hid (∀ w', Below W.heap.size W w' → w'.cell? ⟨ws.heap.size, 0, none⟩ = some (.int .i64 5) ∧ w'.cell? ⟨ws.heap.size, 1, none⟩ = some (.int .i64 0)) := Lib.hid (fun w' hb => ⟨(blk2 (blkBel hb KW.out)).1, (blk2 (blkBel hb KW.out)).2.1⟩)
  clear q0 q1 f0 f1 KW HWW d0 d1
  rw [← HE.out]
  refine wp_region_inv2 [(4, 2), (4, 3), (7, 4), (7, 5), (7, 6), (8, 1), (8, 4), (8, 7), (9, 0), (9, 8), (10, 0), (10, 1), (10, 2), (10, 3), (10, 4), (10, 5), (10, 6), (10, 7), (10, 8), (10, 9)] (fun listed a w' => ∃ (b0 b1 b2 b3 b4 b5 b6 b7 b8 b9 b10 : Bool) (x4 x56 x60 x63 x64 x65 : Value) (r0 : Option Rw), listed = #[b0, b1, b2, b3, b4, b5, b6, b7, b8, b9, b10] ∧ a = { tmps := #[Value.slice (some ⟨bb, off, none⟩) (m + 1) cap, Value.int IntKind.i64 c, undef, undef, x4, Value.slice (some ⟨w.heap.size, 0, none⟩) 1 1, Value.slice aa ta.flat.length ca, Value.slice ab tb.flat.length cb, Value.pointer (some ⟨ws.heap.size, 0, none⟩), undef, Value.agg #[Value.int IntKind.i64 1, Value.int IntKind.i64 0], Value.slice (some ⟨w.heap.size, 0, none⟩) 1 1, Value.tuple #[Value.slice aa ta.flat.length ca, Value.slice ab tb.flat.length cb], Value.slice (some ⟨bb, off, none⟩) (m + 1) cap, Value.tuple #[Value.slice aa ta.flat.length ca, Value.slice ab tb.flat.length cb], Value.slice aa ta.flat.length ca, Value.slice ab tb.flat.length cb, Value.slice (some ⟨bb, off, none⟩) (m + 1) cap, Value.slice (some ⟨bb, off, none⟩) (m + 1) cap, Value.int IntKind.i64 (↑m + 1), Value.int IntKind.i64 ↑m, Value.pointer (some ⟨bb, off + m * 2, none⟩), Value.agg #[Value.int IntKind.i64 5, Value.int IntKind.i64 0], Value.pointer (some ⟨ws.heap.size, 0, none⟩), Value.int IntKind.i64 5, Value.bool false, Value.bool false, undef, undef, undef, undef, undef, undef, Value.bool false, Value.bool false, undef, undef, undef, undef, undef, undef, undef, undef, undef, undef, undef, undef, undef, undef, undef, undef, undef, undef, Value.bool true, Value.bool true, undef, x56, cond b1 (.agg #[.int .i64 5, .int .i64 0]) (undef), cond b2 (Value.slice aa ta.flat.length ca) (undef), cond b3 (.int .i64 c) (undef), x60, cond b5 (Value.slice ab tb.flat.length cb) (undef), cond b6 (.int .i64 c) (undef), x63, x64, x65, undef, undef, undef, undef, undef, undef, undef, undef, undef, undef, undef, undef, undef, undef, undef, undef, undef, undef, undef, undef, undef, undef], defers := [] } ∧ Hid ((b0 = false → r0 = none) ∧ (b0 = true → ∃ (g : Nat) (c : Nat), x56 = .slice (some ⟨g, 0, none⟩) (0) c ∧ (b9 = false → r0 = some ⟨67, 2, x56, 0, []⟩)) ∧ (b9 = true → ∃ (g : Nat) (c : Nat), x65 = .slice (some ⟨g, 0, none⟩) (R.flat.length) c ∧ r0 = some ⟨67, 2, x65, R.flat.length, ([] ++ cells2 R.flat)⟩) ∧ (b4 = true → b9 = false → PR w' x60 (ta.der c)) ∧ (b7 = true → b9 = false → PR w' x63 (tb.der c)) ∧ (b8 = true → b9 = false → PR w' x64 R) ∧ (b10 = true → ∃ (g c' : Nat), x4 = .slice (some ⟨g, 0, none⟩) R.flat.length c' ∧ w'.ownsRow W.heap.size 67 2 x4 R.flat.length ([] ++ cells2 R.flat) ∧ Below W.heap.size W w') ∧ (b10 = false → Sr W w' none [r0]))) (fun G => ∀ (x4 x56 x60 x63 x64 x65 : Value) (w' : World), (∃ (g c' : Nat), x4 = .slice (some ⟨g, 0, none⟩) R.flat.length c' ∧ w'.ownsRow W.heap.size 67 2 x4 R.flat.length ([] ++ cells2 R.flat) ∧ Below W.heap.size W w') → G { tmps := #[Value.slice (some ⟨bb, off, none⟩) (m + 1) cap, Value.int IntKind.i64 c, undef, undef, x4, Value.slice (some ⟨w.heap.size, 0, none⟩) 1 1, Value.slice aa ta.flat.length ca, Value.slice ab tb.flat.length cb, Value.pointer (some ⟨ws.heap.size, 0, none⟩), undef, Value.agg #[Value.int IntKind.i64 1, Value.int IntKind.i64 0], Value.slice (some ⟨w.heap.size, 0, none⟩) 1 1, Value.tuple #[Value.slice aa ta.flat.length ca, Value.slice ab tb.flat.length cb], Value.slice (some ⟨bb, off, none⟩) (m + 1) cap, Value.tuple #[Value.slice aa ta.flat.length ca, Value.slice ab tb.flat.length cb], Value.slice aa ta.flat.length ca, Value.slice ab tb.flat.length cb, Value.slice (some ⟨bb, off, none⟩) (m + 1) cap, Value.slice (some ⟨bb, off, none⟩) (m + 1) cap, Value.int IntKind.i64 (↑m + 1), Value.int IntKind.i64 ↑m, Value.pointer (some ⟨bb, off + m * 2, none⟩), Value.agg #[Value.int IntKind.i64 5, Value.int IntKind.i64 0], Value.pointer (some ⟨ws.heap.size, 0, none⟩), Value.int IntKind.i64 5, Value.bool false, Value.bool false, undef, undef, undef, undef, undef, undef, Value.bool false, Value.bool false, undef, undef, undef, undef, undef, undef, undef, undef, undef, undef, undef, undef, undef, undef, undef, undef, undef, undef, Value.bool true, Value.bool true, undef, x56, .agg #[.int .i64 5, .int .i64 0], Value.slice aa ta.flat.length ca, .int .i64 c, x60, Value.slice ab tb.flat.length cb, .int .i64 c, x63, x64, x65, undef, undef, undef, undef, undef, undef, undef, undef, undef, undef, undef, undef, undef, undef, undef, undef, undef, undef, undef, undef, undef, undef], defers := [] } w') (by kernel_rfl) (by kernel_rfl) (by kernel_rfl) (by kernel_rfl) ?_ ?_ ?_ ?_
  · exact ⟨false, false, false, false, false, false, false, false, false, false, false, Value.slice none 0 0, undef, undef, undef, undef, undef, none, rfl, rfl, Lib.hid ⟨fun _ => rfl, nofun, nofun, nofun, nofun, nofun, nofun, fun _ => Sr.start W 1⟩⟩
  · refine StepsU.cons ?_ ?_
    · intro Q E0 listed a w' hI hM hk haft K hK
      obtain ⟨b0, b1, b2, b3, b4, b5, b6, b7, b8, b9, b10, x4, x56, x60, x63, x64, x65, r0, hl, ha, HF⟩ := hI
      subst hl; subst ha
      obtain ⟨N0, P0_0, P0_1, R4, R7, R8, Z, HS⟩ := HF.out
      clear HF
      have hk' : b0 = false := hk
      subst hk'
      clear hk
      obtain rfl : b9 = false := by cases b9 with | false => rfl | true => exact absurd (hM 9 0 rfl rfl) Bool.false_ne_true
      obtain rfl : b10 = false := by cases b10 with | false => rfl | true => exact absurd (hM 10 0 rfl rfl) Bool.false_ne_true
      clear haft
      have hSr := HS rfl
      have hBl := hSr.bel
      obtain ⟨q0, q1⟩ := HK.out w' hBl
      obtain rfl := N0 rfl
      go_simp
      exact hK _ _ ⟨true, b1, b2, b3, b4, b5, b6, b7, b8, false, false, _, .slice (some ⟨w'.heap.size, 0, none⟩) 0 0, _, _, _, _, some ⟨67, 2, .slice (some ⟨w'.heap.size, 0, none⟩) 0 0, 0, []⟩, rfl, rfl, Lib.hid ⟨nofun, fun _ => ⟨w'.heap.size, 0, rfl, fun _ => rfl⟩, nofun, fun h h2 => (R4 h h2).stay ((Below.refl _ _).alloc (Nat.le_refl _) _), fun h h2 => (R7 h h2).stay ((Below.refl _ _).alloc (Nat.le_refl _) _), fun h h2 => (R8 h h2).stay ((Below.refl _ _).alloc (Nat.le_refl _) _), nofun, fun _ => Sr.call [] [] ⟨67, 2, .slice (some ⟨w'.heap.size, 0, none⟩) 0 0, 0, []⟩ hSr ((Below.refl _ _).alloc (Nat.le_refl _) _) (ownLit (n := 0) [] (Nat.le_refl _) (by omega) rfl)⟩⟩
    refine StepsU.cons ?_ ?_
    · intro Q E0 listed a w' hI hM hk haft K hK
      obtain ⟨b0, b1, b2, b3, b4, b5, b6, b7, b8, b9, b10, x4, x56, x60, x63, x64, x65, r0, hl, ha, HF⟩ := hI
      subst hl; subst ha
      obtain ⟨N0, P0_0, P0_1, R4, R7, R8, Z, HS⟩ := HF.out
      clear HF
      have hk' : b1 = false := hk
      subst hk'
      clear hk
      obtain rfl : b8 = false := by cases b8 with | false => rfl | true => exact absurd (hM 8 1 rfl rfl) Bool.false_ne_true
      obtain rfl : b9 = false := by cases b9 with | false => rfl | true => exact absurd (hM 9 8 rfl rfl) Bool.false_ne_true
      obtain rfl : b10 = false := by cases b10 with | false => rfl | true => exact absurd (hM 10 1 rfl rfl) Bool.false_ne_true
      clear haft
      have hSr := HS rfl
      have hBl := hSr.bel
      obtain ⟨q0, q1⟩ := HK.out w' hBl
      go_simp
      exact hK _ _ ⟨b0, true, b2, b3, b4, b5, b6, b7, false, false, false, _, _, _, _, _, _, _, rfl, rfl, Lib.hid ⟨N0, P0_0, nofun, R4, R7, nofun, nofun, fun _ => hSr⟩⟩
    refine StepsU.cons ?_ ?_
    · intro Q E0 listed a w' hI hM hk haft K hK
      obtain ⟨b0, b1, b2, b3, b4, b5, b6, b7, b8, b9, b10, x4, x56, x60, x63, x64, x65, r0, hl, ha, HF⟩ := hI
      subst hl; subst ha
      obtain ⟨N0, P0_0, P0_1, R4, R7, R8, Z, HS⟩ := HF.out
      clear HF
      have hk' : b2 = false := hk
      subst hk'
      clear hk
      obtain rfl : b4 = false := by cases b4 with | false => rfl | true => exact absurd (hM 4 2 rfl rfl) Bool.false_ne_true
      obtain rfl : b7 = false := by cases b7 with | false => rfl | true => exact absurd (hM 7 4 rfl rfl) Bool.false_ne_true
      obtain rfl : b8 = false := by cases b8 with | false => rfl | true => exact absurd (hM 8 4 rfl rfl) Bool.false_ne_true
      obtain rfl : b9 = false := by cases b9 with | false => rfl | true => exact absurd (hM 9 8 rfl rfl) Bool.false_ne_true
      obtain rfl : b10 = false := by cases b10 with | false => rfl | true => exact absurd (hM 10 2 rfl rfl) Bool.false_ne_true
      clear haft
      have hSr := HS rfl
      have hBl := hSr.bel
      obtain ⟨q0, q1⟩ := HK.out w' hBl
      go_simp
      exact hK _ _ ⟨b0, b1, true, b3, false, b5, b6, false, false, false, false, _, _, _, _, _, _, _, rfl, rfl, Lib.hid ⟨N0, P0_0, nofun, nofun, nofun, nofun, nofun, fun _ => hSr⟩⟩
    refine StepsU.cons ?_ ?_
    · intro Q E0 listed a w' hI hM hk haft K hK
      obtain ⟨b0, b1, b2, b3, b4, b5, b6, b7, b8, b9, b10, x4, x56, x60, x63, x64, x65, r0, hl, ha, HF⟩ := hI
      subst hl; subst ha
      obtain ⟨N0, P0_0, P0_1, R4, R7, R8, Z, HS⟩ := HF.out
      clear HF
      have hk' : b3 = false := hk
      subst hk'
      clear hk
      obtain rfl : b4 = false := by cases b4 with | false => rfl | true => exact absurd (hM 4 3 rfl rfl) Bool.false_ne_true
      obtain rfl : b7 = false := by cases b7 with | false => rfl | true => exact absurd (hM 7 4 rfl rfl) Bool.false_ne_true
      obtain rfl : b8 = false := by cases b8 with | false => rfl | true => exact absurd (hM 8 4 rfl rfl) Bool.false_ne_true
      obtain rfl : b9 = false := by cases b9 with | false => rfl | true => exact absurd (hM 9 8 rfl rfl) Bool.false_ne_true
      obtain rfl : b10 = false := by cases b10 with | false => rfl | true => exact absurd (hM 10 3 rfl rfl) Bool.false_ne_true
      clear haft
      have hSr := HS rfl
      have hBl := hSr.bel
      obtain ⟨q0, q1⟩ := HK.out w' hBl
      go_simp
      exact hK _ _ ⟨b0, b1, b2, true, false, b5, b6, false, false, false, false, _, _, _, _, _, _, _, rfl, rfl, Lib.hid ⟨N0, P0_0, nofun, nofun, nofun, nofun, nofun, fun _ => hSr⟩⟩
    refine StepsU.cons ?_ ?_
    · intro Q E0 listed a w' hI hM hk haft K hK
      obtain ⟨b0, b1, b2, b3, b4, b5, b6, b7, b8, b9, b10, x4, x56, x60, x63, x64, x65, r0, hl, ha, HF⟩ := hI
      subst hl; subst ha
      obtain ⟨N0, P0_0, P0_1, R4, R7, R8, Z, HS⟩ := HF.out
      clear HF
      have hk' : b4 = false := hk
      subst hk'
      clear hk
      obtain rfl : b7 = false := by cases b7 with | false => rfl | true => exact absurd (hM 7 4 rfl rfl) Bool.false_ne_true
      obtain rfl : b8 = false := by cases b8 with | false => rfl | true => exact absurd (hM 8 4 rfl rfl) Bool.false_ne_true
      obtain rfl : b9 = false := by cases b9 with | false => rfl | true => exact absurd (hM 9 8 rfl rfl) Bool.false_ne_true
      obtain rfl : b10 = false := by cases b10 with | false => rfl | true => exact absurd (hM 10 4 rfl rfl) Bool.false_ne_true
      obtain rfl : b2 = true := haft ⟨2, .data⟩ (by simp) rfl
      obtain rfl : b3 = true := haft ⟨3, .data⟩ (by simp) rfl
      clear haft
      have hSr := HS rfl
      have hBl := hSr.bel
      obtain ⟨q0, q1⟩ := HK.out w' hBl
      go_simp
      go_at_call 89
      refine (IA.out w' _ (HAW.out.stay hBl)).mono ?_
      rintro e w1 ⟨vv, rfl, hbc, ho⟩
      have hrd := ho.out.pr (der_wf c HWA.out)
      exact hK _ _ ⟨b0, b1, true, true, true, b5, b6, false, false, false, false, _, _, _, _, _, _, _, rfl, rfl, Lib.hid ⟨N0, P0_0, nofun, fun _ _ => hrd, nofun, nofun, nofun, fun _ => hSr.stay hbc⟩⟩
    refine StepsU.cons ?_ ?_
    · intro Q E0 listed a w' hI hM hk haft K hK
      obtain ⟨b0, b1, b2, b3, b4, b5, b6, b7, b8, b9, b10, x4, x56, x60, x63, x64, x65, r0, hl, ha, HF⟩ := hI
      subst hl; subst ha
      obtain ⟨N0, P0_0, P0_1, R4, R7, R8, Z, HS⟩ := HF.out
      clear HF
      have hk' : b5 = false := hk
      subst hk'
      clear hk
      obtain rfl : b7 = false := by cases b7 with | false => rfl | true => exact absurd (hM 7 5 rfl rfl) Bool.false_ne_true
      obtain rfl : b8 = false := by cases b8 with | false => rfl | true => exact absurd (hM 8 7 rfl rfl) Bool.false_ne_true
      obtain rfl : b9 = false := by cases b9 with | false => rfl | true => exact absurd (hM 9 8 rfl rfl) Bool.false_ne_true
      obtain rfl : b10 = false := by cases b10 with | false => rfl | true => exact absurd (hM 10 5 rfl rfl) Bool.false_ne_true
      clear haft
      have hSr := HS rfl
      have hBl := hSr.bel
      obtain ⟨q0, q1⟩ := HK.out w' hBl
      go_simp
      exact hK _ _ ⟨b0, b1, b2, b3, b4, true, b6, false, false, false, false, _, _, _, _, _, _, _, rfl, rfl, Lib.hid ⟨N0, P0_0, nofun, R4, nofun, nofun, nofun, fun _ => hSr⟩⟩
    refine StepsU.cons ?_ ?_
    · intro Q E0 listed a w' hI hM hk haft K hK
      obtain ⟨b0, b1, b2, b3, b4, b5, b6, b7, b8, b9, b10, x4, x56, x60, x63, x64, x65, r0, hl, ha, HF⟩ := hI
      subst hl; subst ha
      obtain ⟨N0, P0_0, P0_1, R4, R7, R8, Z, HS⟩ := HF.out
      clear HF
      have hk' : b6 = false := hk
      subst hk'
      clear hk
      obtain rfl : b7 = false := by cases b7 with | false => rfl | true => exact absurd (hM 7 6 rfl rfl) Bool.false_ne_true
      obtain rfl : b8 = false := by cases b8 with | false => rfl | true => exact absurd (hM 8 7 rfl rfl) Bool.false_ne_true
      obtain rfl : b9 = false := by cases b9 with | false => rfl | true => exact absurd (hM 9 8 rfl rfl) Bool.false_ne_true
      obtain rfl : b10 = false := by cases b10 with | false => rfl | true => exact absurd (hM 10 6 rfl rfl) Bool.false_ne_true
      clear haft
      have hSr := HS rfl
      have hBl := hSr.bel
      obtain ⟨q0, q1⟩ := HK.out w' hBl
      go_simp
      exact hK _ _ ⟨b0, b1, b2, b3, b4, b5, true, false, false, false, false, _, _, _, _, _, _, _, rfl, rfl, Lib.hid ⟨N0, P0_0, nofun, R4, nofun, nofun, nofun, fun _ => hSr⟩⟩
    refine StepsU.cons ?_ ?_
    · intro Q E0 listed a w' hI hM hk haft K hK
      obtain ⟨b0, b1, b2, b3, b4, b5, b6, b7, b8, b9, b10, x4, x56, x60, x63, x64, x65, r0, hl, ha, HF⟩ := hI
      subst hl; subst ha
      obtain ⟨N0, P0_0, P0_1, R4, R7, R8, Z, HS⟩ := HF.out
      clear HF
      have hk' : b7 = false := hk
      subst hk'
      clear hk
      obtain rfl : b8 = false := by cases b8 with | false => rfl | true => exact absurd (hM 8 7 rfl rfl) Bool.false_ne_true
      obtain rfl : b9 = false := by cases b9 with | false => rfl | true => exact absurd (hM 9 8 rfl rfl) Bool.false_ne_true
      obtain rfl : b10 = false := by cases b10 with | false => rfl | true => exact absurd (hM 10 7 rfl rfl) Bool.false_ne_true
      obtain rfl : b5 = true := haft ⟨5, .data⟩ (by simp) rfl
      obtain rfl : b6 = true := haft ⟨6, .data⟩ (by simp) rfl
      obtain rfl : b4 = true := haft ⟨4, .chain⟩ (by simp) rfl
      obtain rfl : b2 = true := hM 4 2 rfl rfl
      obtain rfl : b3 = true := hM 4 3 rfl rfl
      clear haft
      have hSr := HS rfl
      have hBl := hSr.bel
      obtain ⟨q0, q1⟩ := HK.out w' hBl
      have r4 := R4 rfl rfl
      go_simp
      go_at_call 89
      refine (IB.out w' _ (HBB.out.stay hBl)).mono ?_
      rintro e w1 ⟨vv, rfl, hbc, ho⟩
      have hrd := ho.out.pr (der_wf c HWB.out)
      exact hK _ _ ⟨b0, b1, true, true, true, true, true, true, false, false, false, _, _, _, _, _, _, _, rfl, rfl, Lib.hid ⟨N0, P0_0, nofun, fun h h2 => (R4 h h2).stay hbc, fun _ _ => hrd, nofun, nofun, fun _ => hSr.stay hbc⟩⟩
    refine StepsU.cons ?_ ?_
    · intro Q E0 listed a w' hI hM hk haft K hK
      obtain ⟨b0, b1, b2, b3, b4, b5, b6, b7, b8, b9, b10, x4, x56, x60, x63, x64, x65, r0, hl, ha, HF⟩ := hI
      subst hl; subst ha
      obtain ⟨N0, P0_0, P0_1, R4, R7, R8, Z, HS⟩ := HF.out
      clear HF
      have hk' : b8 = false := hk
      subst hk'
      clear hk
      obtain rfl : b9 = false := by cases b9 with | false => rfl | true => exact absurd (hM 9 8 rfl rfl) Bool.false_ne_true
      obtain rfl : b10 = false := by cases b10 with | false => rfl | true => exact absurd (hM 10 8 rfl rfl) Bool.false_ne_true
      obtain rfl : b1 = true := haft ⟨1, .data⟩ (by simp) rfl
      obtain rfl : b4 = true := haft ⟨4, .data⟩ (by simp) rfl
      obtain rfl : b7 = true := haft ⟨7, .data⟩ (by simp) rfl
      obtain rfl : b2 = true := hM 4 2 rfl rfl
      obtain rfl : b3 = true := hM 4 3 rfl rfl
      obtain rfl : b5 = true := hM 7 5 rfl rfl
      obtain rfl : b6 = true := hM 7 6 rfl rfl
      clear haft
      have hSr := HS rfl
      have hBl := hSr.bel
      obtain ⟨q0, q1⟩ := HK.out w' hBl
      have r4 := R4 rfl rfl
      have r7 := R7 rfl rfl
      go_simp
      go_at_call 105
      refine (l5Make_c _ _ _ _ _ HL5.out _ _ w' r4.2 r7.2 HLS.out).mono ?_
      rintro e w1 ⟨vv, rfl, hbc, hp⟩
      have hrd := hp.out
      exact hK _ _ ⟨b0, true, true, true, true, true, true, true, true, false, false, _, _, _, _, _, _, _, rfl, rfl, Lib.hid ⟨N0, P0_0, nofun, fun h h2 => (R4 h h2).stay hbc, fun h h2 => (R7 h h2).stay hbc, fun _ _ => hrd, nofun, fun _ => hSr.stay hbc⟩⟩
    refine StepsU.cons ?_ ?_
    · intro Q E0 listed a w' hI hM hk haft K hK
      obtain ⟨b0, b1, b2, b3, b4, b5, b6, b7, b8, b9, b10, x4, x56, x60, x63, x64, x65, r0, hl, ha, HF⟩ := hI
      subst hl; subst ha
      obtain ⟨N0, P0_0, P0_1, R4, R7, R8, Z, HS⟩ := HF.out
      clear HF
      have hk' : b9 = false := hk
      subst hk'
      clear hk
      obtain rfl : b10 = false := by cases b10 with | false => rfl | true => exact absurd (hM 10 9 rfl rfl) Bool.false_ne_true
      obtain rfl : b0 = true := haft ⟨0, .data⟩ (by simp) rfl
      obtain rfl : b8 = true := haft ⟨8, .data⟩ (by simp) rfl
      obtain rfl : b1 = true := hM 8 1 rfl rfl
      obtain rfl : b4 = true := hM 8 4 rfl rfl
      obtain rfl : b7 = true := hM 8 7 rfl rfl
      obtain rfl : b2 = true := hM 4 2 rfl rfl
      obtain rfl : b3 = true := hM 4 3 rfl rfl
      obtain rfl : b5 = true := hM 7 5 rfl rfl
      obtain rfl : b6 = true := hM 7 6 rfl rfl
      clear haft
      obtain ⟨g0, c0, rfl, hr0⟩ := P0_0 rfl
      obtain rfl := hr0 rfl
      have hSr := HS rfl
      have hBl := hSr.bel
      obtain ⟨q0, q1⟩ := HK.out w' hBl
      have r4 := R4 rfl rfl
      have r7 := R7 rfl rfl
      have r8 := R8 rfl rfl
      have hrow := hSr.own _ (List.mem_append_right [] (List.mem_cons_self ..))
      refine stepAppX elPart (by decide) rfl (.tmp 56) (.tmp 64) rfl W.heap.size g0 (0) c0 (R.flat.length) _ _ (cells2 R.flat) w' rfl rfl hrow (r8.2) (by rw [length_cells2]; omega) (cells2_one _) (by have := HLR.out; unfold Re.len at this; omega) hBl.size ?_
      intro g' c' w1 hoc hgc hat
      rw [Nat.zero_add] at hoc ⊢
      exact hK _ _ ⟨true, true, true, true, true, true, true, true, true, true, false, _, _, _, _, _, .slice (some ⟨g', 0, none⟩) (R.flat.length) c', some ⟨67, 2, .slice (some ⟨g', 0, none⟩) (R.flat.length) c', R.flat.length, ([] ++ cells2 R.flat)⟩, rfl, rfl, Lib.hid ⟨nofun, fun _ => ⟨_, _, rfl, nofun⟩, fun _ => ⟨g', c', rfl, rfl⟩, fun _ => nofun, fun _ => nofun, fun _ => nofun, nofun, fun _ => Sr.grow [] [] ⟨67, 2, .slice (some ⟨g', 0, none⟩) (R.flat.length) c', R.flat.length, ([] ++ cells2 R.flat)⟩ hSr rfl rfl hgc hoc hat⟩⟩
    refine StepsU.cons ?_ ?_
    · intro Q E0 listed a w' hI hM hk haft K hK
      obtain ⟨b0, b1, b2, b3, b4, b5, b6, b7, b8, b9, b10, x4, x56, x60, x63, x64, x65, r0, hl, ha, HF⟩ := hI
      subst hl; subst ha
      obtain ⟨N0, P0_0, P0_1, R4, R7, R8, Z, HS⟩ := HF.out
      clear HF
      have hk' : b10 = false := hk
      subst hk'
      clear hk
      obtain rfl : b9 = true := haft ⟨9, .data⟩ (by simp) rfl
      obtain rfl : b0 = true := haft ⟨0, .phase⟩ (by simp) rfl
      obtain rfl : b1 = true := haft ⟨1, .phase⟩ (by simp) rfl
      obtain rfl : b2 = true := haft ⟨2, .phase⟩ (by simp) rfl
      obtain rfl : b3 = true := haft ⟨3, .phase⟩ (by simp) rfl
      obtain rfl : b4 = true := haft ⟨4, .phase⟩ (by simp) rfl
      obtain rfl : b5 = true := haft ⟨5, .phase⟩ (by simp) rfl
      obtain rfl : b6 = true := haft ⟨6, .phase⟩ (by simp) rfl
      obtain rfl : b7 = true := haft ⟨7, .phase⟩ (by simp) rfl
      obtain rfl : b8 = true := haft ⟨8, .phase⟩ (by simp) rfl
      clear haft
      obtain ⟨g9, c9, rfl, rfl⟩ := P0_1 rfl
      have hSr := HS rfl
      have hBl := hSr.bel
      obtain ⟨q0, q1⟩ := HK.out w' hBl
      go_simp
      exact hK _ _ ⟨true, true, true, true, true, true, true, true, true, true, true, _, _, _, _, _, _, _, rfl, rfl, Lib.hid ⟨N0, P0_0, fun _ => ⟨_, _, rfl, rfl⟩, fun _ => nofun, fun _ => nofun, fun _ => nofun, fun _ => ⟨_, _, rfl, hSr.own _ (List.mem_cons_self ..), hBl⟩, nofun⟩⟩
    exact StepsU.nil
  · intro G0 hG0 listed a w' hI hall
    obtain ⟨b0, b1, b2, b3, b4, b5, b6, b7, b8, b9, b10, x4, x56, x60, x63, x64, x65, r0, hl, ha, HF⟩ := hI
    subst hl; subst ha
    obtain rfl : b0 = true := hall 0 (by decide)
    obtain rfl : b1 = true := hall 1 (by decide)
    obtain rfl : b2 = true := hall 2 (by decide)
    obtain rfl : b3 = true := hall 3 (by decide)
    obtain rfl : b4 = true := hall 4 (by decide)
    obtain rfl : b5 = true := hall 5 (by decide)
    obtain rfl : b6 = true := hall 6 (by decide)
    obtain rfl : b7 = true := hall 7 (by decide)
    obtain rfl : b8 = true := hall 8 (by decide)
    obtain rfl : b9 = true := hall 9 (by decide)
    obtain rfl : b10 = true := hall 10 (by decide)
    exact hG0 _ _ _ _ _ _ _ (HF.out.2.2.2.2.2.2.1 rfl)
  · intro x4 x56 x60 x63 x64 x65 w' hFin
    obtain ⟨g, c', rfl, ho, hb⟩ := hFin
    have hb2 := HBW.out.trans (hb.mono HBW.out.size)
    have HO : Hid (OwnP w' w.heap.size (.slice (some ⟨g, 0, none⟩) R.flat.length c') R.flat) := Lib.hid (ownBase (base := W.heap.size) (by rw [List.nil_append] at ho; exact ho) HBW.out.size)
    go_wp2
    go_ret
    exact ROx.mk hb2 (by rw [← HE.out]; exact HO.out)
set_option maxHeartbeats 4000000 in
theorem lde_both (ta tb : Re) (c : Int) (hl : ta.len + tb.len ≤ 59) (iha : ∀ (w : World) (v : Value), PR w v ta → Calls Try.prog 89 #[v, .int .i64 c] w (ROx w (ta.der c))) (ihb : ∀ (w : World) (v : Value), PR w v tb → Calls Try.prog 89 #[v, .int .i64 c] w (ROx w (tb.der c))) (u : Value) (w : World) (h : PR w u (.both ta tb)) : Calls Try.prog 89 #[u, .int .i64 c] w (ROx w (Re.der c (.both ta tb))) := by
  have hla : (ta.flat ++ tb.flat).length ≤ 900 := by rw [List.length_append]; unfold Re.len at hl; omega
  have hmm := len_both ta tb
  unfold Re.len at hmm hl
  have ht := h.1
  obtain ⟨bb, off, cap, m, rfl, hm1, hm2, c0, c1⟩ := h.last
  replace c0 : w.cell? ⟨bb, off + m * 2, none⟩ = some (.int .i64 6) := c0
  replace c1 : w.cell? ⟨bb, off + m * 2 + 1, none⟩ = some (.int .i64 0) := c1
  have hm60 : m ≤ 60 := by omega
  have hI : IntKind.i64.wrap ((m + 1 : Nat) - 1 : Int) = (m : Int) := by rw [show (((m + 1 : Nat) : Int) - 1) = (m : Int) by omega]; exact IntWalk.i64_in _ (by omega)
  have hlt : (m : Int) < (m : Int) + 1 := by omega
  have HC : Hid (∀ w', Below w.heap.size w w' → w'.cell? ⟨bb, off + m * 2, none⟩ = some (.int .i64 6) ∧ w'.cell? ⟨bb, off + m * 2 + 1, none⟩ = some (.int .i64 0)) := Lib.hid (fun w' k => ⟨kpB (S := fun _ => True) k _ _ trivial c0, kpB (S := fun _ => True) k _ _ trivial c1⟩)
  obtain ⟨W0, hW0⟩ : ∃ W0, W0 = w.alloc (.cells #[.int .i64 1, .int .i64 0] 67) := ⟨_, rfl⟩
  have hB0 : Below w.heap.size w W0 := by rw [hW0]; exact (Below.refl _ _).alloc (Nat.le_refl _) _
  have HN0 : Hid (OwnP W0 w.heap.size (.slice (some ⟨w.heap.size, 0, none⟩) 1 1) [(1, 0)]) := Lib.hid (by rw [hW0]; exact ownLit [.int .i64 1, .int .i64 0] (Nat.le_refl _) (by omega) rfl)
  have HH0 := Lib.hid (h.stay hB0)
  have HSP := Lib.hid (l2Split2_c _ ta.flat tb 6 0 W0 ht.2 (h.stay hB0).2 (by decide) (by decide) hla ta.flat_pos)
  have HB0 := Lib.hid hB0
  have HW0 := Lib.hid hW0
  have HWA := Lib.hid ht.1; have HWB := Lib.hid ht.2
  have IA := Lib.hid iha; have IB := Lib.hid ihb
  obtain ⟨R, hR⟩ : ∃ R, R = Re.der c (.both ta tb) := ⟨_, rfl⟩
  have HL5 := Lib.hid (l5e 6 (by decide) (der_wf c ht.1) (der_wf c ht.2) (R := R) hR)
  have HLS : Hid ((ta.der c).flat.length + (tb.der c).flat.length ≤ 1000000) := Lib.hid (by have h1 := len_der c ta; have h2 : ta.len * ta.len ≤ 60 * 60 := Nat.mul_le_mul (by unfold Re.len; omega) (by unfold Re.len; omega); have h3 := len_der c tb; have h4 : tb.len * tb.len ≤ 60 * 60 := Nat.mul_le_mul (by unfold Re.len; omega) (by unfold Re.len; omega); unfold Re.len at *; omega)
  have HLR : Hid (R.len ≤ 1000000) := Lib.hid (by rw [hR]; have h1 := len_der c (Re.both ta tb); have h2 : (Re.both ta tb).len * (Re.both ta tb).len ≤ 60 * 60 := Nat.mul_le_mul (by unfold Re.len; omega) (by unfold Re.len; omega); omega)
  have HE := Lib.hid hR
  clear h c0 c1 hm1 hm2 hB0 hW0 ht hR iha ihb hl hla hmm
  go_enter Try.func89, Try.ntmps89
  go_wp2_with fail
  rw [← HW0.out]
  refine HSP.out.mono ?_
  rintro e ws ⟨va, vb, rfl, hbs, hva, hvb⟩
  have HBs := Lib.hid (HB0.out.trans (hbs.mono HB0.out.size))
  have HHs := Lib.hid (HH0.out.stay hbs)
  have HNs := Lib.hid (HN0.out.stay hbs)
  obtain ⟨aa, ca, rfl, _⟩ := hva.out.shape
  obtain ⟨ab, cb, rfl, _⟩ := hvb.out.shape
  obtain ⟨d0, d1⟩ := HC.out ws HBs.out
  obtain ⟨W, hW⟩ : ∃ W, W = ws.alloc (.cells #[.int .i64 6, .int .i64 0] 67) := ⟨_, rfl⟩
  have hbW : Below ws.heap.size ws W := by rw [hW]; exact (Below.refl _ _).alloc (Nat.le_refl _) _
  have KW : Hid (W.heap[ws.heap.size]? = some (.cells #[.int .i64 6, .int .i64 0] 67 (0, 0))) := Lib.hid (by rw [hW]; exact blkNew _ _ rfl)
  have HBW := Lib.hid (HBs.out.trans (hbW.mono HBs.out.size))
  have HHW := Lib.hid (HHs.out.stay hbW)
  have HNW := Lib.hid (HNs.out.stay hbW)
  have HAW : Hid (PR W _ ta) := Lib.hid ((PR.of HWA.out hva.out hbs).stay hbW)
  have HBB : Hid (PR W _ tb) := Lib.hid ((PR.of HWB.out hvb.out hbs).stay hbW)
  have HWW := Lib.hid hW
  obtain ⟨q0, q1, f0, f1⟩ := blk2 KW.out
  clear hva hvb hbs hbW hW HSP HC HH0 HN0 HHs HNs
  rw [HWW.out] at q0 q1 f0 f1
  go_wp2_with fail
  rw [← HWW.out] at q0 q1 f0 f1 ⊢
  have HK : Hid (∀ w', Below W.heap.size W w' → w'.cell? ⟨ws.heap.size, 0, none⟩ = some (.int .i64 6) ∧ w'.cell? ⟨ws.heap.size, 1, none⟩ = some (.int .i64 0)) := Lib.hid (fun w' hb => ⟨(blk2 (blkBel hb KW.out)).1, (blk2 (blkBel hb KW.out)).2.1⟩)
  clear q0 q1 f0 f1 KW HWW d0 d1
  rw [← HE.out]
  refine wp_region_inv2 [(4, 2), (4, 3), (7, 4), (7, 5), (7, 6), (8, 1), (8, 4), (8, 7), (9, 0), (9, 8), (10, 0), (10, 1), (10, 2), (10, 3), (10, 4), (10, 5), (10, 6), (10, 7), (10, 8), (10, 9)] (fun listed a w' => ∃ (b0 b1 b2 b3 b4 b5 b6 b7 b8 b9 b10 : Bool) (x4 x56 x60 x63 x64 x65 : Value) (r0 : Option Rw), listed = #[b0, b1, b2, b3, b4, b5, b6, b7, b8, b9, b10] ∧ a = { tmps := #[Value.slice (some ⟨bb, off, none⟩) (m + 1) cap, Value.int IntKind.i64 c, undef, undef, x4, Value.slice (some ⟨w.heap.size, 0, none⟩) 1 1, Value.slice aa ta.flat.length ca, Value.slice ab tb.flat.length cb, Value.pointer (some ⟨ws.heap.size, 0, none⟩), undef, Value.agg #[Value.int IntKind.i64 1, Value.int IntKind.i64 0], Value.slice (some ⟨w.heap.size, 0, none⟩) 1 1, Value.tuple #[Value.slice aa ta.flat.length ca, Value.slice ab tb.flat.length cb], Value.slice (some ⟨bb, off, none⟩) (m + 1) cap, Value.tuple #[Value.slice aa ta.flat.length ca, Value.slice ab tb.flat.length cb], Value.slice aa ta.flat.length ca, Value.slice ab tb.flat.length cb, Value.slice (some ⟨bb, off, none⟩) (m + 1) cap, Value.slice (some ⟨bb, off, none⟩) (m + 1) cap, Value.int IntKind.i64 (↑m + 1), Value.int IntKind.i64 ↑m, Value.pointer (some ⟨bb, off + m * 2, none⟩), Value.agg #[Value.int IntKind.i64 6, Value.int IntKind.i64 0], Value.pointer (some ⟨ws.heap.size, 0, none⟩), Value.int IntKind.i64 6, Value.bool false, Value.bool false, undef, undef, undef, undef, undef, undef, Value.bool false, Value.bool false, undef, undef, undef, undef, undef, undef, undef, undef, undef, undef, undef, undef, undef, undef, undef, undef, undef, undef, Value.bool true, Value.bool false, Value.bool true, x56, cond b1 (.agg #[.int .i64 6, .int .i64 0]) (undef), cond b2 (Value.slice aa ta.flat.length ca) (undef), cond b3 (.int .i64 c) (undef), x60, cond b5 (Value.slice ab tb.flat.length cb) (undef), cond b6 (.int .i64 c) (undef), x63, x64, x65, undef, undef, undef, undef, undef, undef, undef, undef, undef, undef, undef, undef, undef, undef, undef, undef, undef, undef, undef, undef, undef, undef], defers := [] } ∧ Hid ((b0 = false → r0 = none) ∧ (b0 = true → ∃ (g : Nat) (c : Nat), x56 = .slice (some ⟨g, 0, none⟩) (0) c ∧ (b9 = false → r0 = some ⟨67, 2, x56, 0, []⟩)) ∧ (b9 = true → ∃ (g : Nat) (c : Nat), x65 = .slice (some ⟨g, 0, none⟩) (R.flat.length) c ∧ r0 = some ⟨67, 2, x65, R.flat.length, ([] ++ cells2 R.flat)⟩) ∧ (b4 = true → b9 = false → PR w' x60 (ta.der c)) ∧ (b7 = true → b9 = false → PR w' x63 (tb.der c)) ∧ (b8 = true → b9 = false → PR w' x64 R) ∧ (b10 = true → ∃ (g c' : Nat), x4 = .slice (some ⟨g, 0, none⟩) R.flat.length c' ∧ w'.ownsRow W.heap.size 67 2 x4 R.flat.length ([] ++ cells2 R.flat) ∧ Below W.heap.size W w') ∧ (b10 = false → Sr W w' none [r0]))) (fun G => ∀ (x4 x56 x60 x63 x64 x65 : Value) (w' : World), (∃ (g c' : Nat), x4 = .slice (some ⟨g, 0, none⟩) R.flat.length c' ∧ w'.ownsRow W.heap.size 67 2 x4 R.flat.length ([] ++ cells2 R.flat) ∧ Below W.heap.size W w') → G { tmps := #[Value.slice (some ⟨bb, off, none⟩) (m + 1) cap, Value.int IntKind.i64 c, undef, undef, x4, Value.slice (some ⟨w.heap.size, 0, none⟩) 1 1, Value.slice aa ta.flat.length ca, Value.slice ab tb.flat.length cb, Value.pointer (some ⟨ws.heap.size, 0, none⟩), undef, Value.agg #[Value.int IntKind.i64 1, Value.int IntKind.i64 0], Value.slice (some ⟨w.heap.size, 0, none⟩) 1 1, Value.tuple #[Value.slice aa ta.flat.length ca, Value.slice ab tb.flat.length cb], Value.slice (some ⟨bb, off, none⟩) (m + 1) cap, Value.tuple #[Value.slice aa ta.flat.length ca, Value.slice ab tb.flat.length cb], Value.slice aa ta.flat.length ca, Value.slice ab tb.flat.length cb, Value.slice (some ⟨bb, off, none⟩) (m + 1) cap, Value.slice (some ⟨bb, off, none⟩) (m + 1) cap, Value.int IntKind.i64 (↑m + 1), Value.int IntKind.i64 ↑m, Value.pointer (some ⟨bb, off + m * 2, none⟩), Value.agg #[Value.int IntKind.i64 6, Value.int IntKind.i64 0], Value.pointer (some ⟨ws.heap.size, 0, none⟩), Value.int IntKind.i64 6, Value.bool false, Value.bool false, undef, undef, undef, undef, undef, undef, Value.bool false, Value.bool false, undef, undef, undef, undef, undef, undef, undef, undef, undef, undef, undef, undef, undef, undef, undef, undef, undef, undef, Value.bool true, Value.bool false, Value.bool true, x56, .agg #[.int .i64 6, .int .i64 0], Value.slice aa ta.flat.length ca, .int .i64 c, x60, Value.slice ab tb.flat.length cb, .int .i64 c, x63, x64, x65, undef, undef, undef, undef, undef, undef, undef, undef, undef, undef, undef, undef, undef, undef, undef, undef, undef, undef, undef, undef, undef, undef], defers := [] } w') (by kernel_rfl) (by kernel_rfl) (by kernel_rfl) (by kernel_rfl) ?_ ?_ ?_ ?_
  · exact ⟨false, false, false, false, false, false, false, false, false, false, false, Value.slice none 0 0, undef, undef, undef, undef, undef, none, rfl, rfl, Lib.hid ⟨fun _ => rfl, nofun, nofun, nofun, nofun, nofun, nofun, fun _ => Sr.start W 1⟩⟩
  · refine StepsU.cons ?_ ?_
    · intro Q E0 listed a w' hI hM hk haft K hK
      obtain ⟨b0, b1, b2, b3, b4, b5, b6, b7, b8, b9, b10, x4, x56, x60, x63, x64, x65, r0, hl, ha, HF⟩ := hI
      subst hl; subst ha
      obtain ⟨N0, P0_0, P0_1, R4, R7, R8, Z, HS⟩ := HF.out
      clear HF
      have hk' : b0 = false := hk
      subst hk'
      clear hk
      obtain rfl : b9 = false := by cases b9 with | false => rfl | true => exact absurd (hM 9 0 rfl rfl) Bool.false_ne_true
      obtain rfl : b10 = false := by cases b10 with | false => rfl | true => exact absurd (hM 10 0 rfl rfl) Bool.false_ne_true
      clear haft
      have hSr := HS rfl
      have hBl := hSr.bel
      obtain ⟨q0, q1⟩ := HK.out w' hBl
      obtain rfl := N0 rfl
      go_simp
      exact hK _ _ ⟨true, b1, b2, b3, b4, b5, b6, b7, b8, false, false, _, .slice (some ⟨w'.heap.size, 0, none⟩) 0 0, _, _, _, _, some ⟨67, 2, .slice (some ⟨w'.heap.size, 0, none⟩) 0 0, 0, []⟩, rfl, rfl, Lib.hid ⟨nofun, fun _ => ⟨w'.heap.size, 0, rfl, fun _ => rfl⟩, nofun, fun h h2 => (R4 h h2).stay ((Below.refl _ _).alloc (Nat.le_refl _) _), fun h h2 => (R7 h h2).stay ((Below.refl _ _).alloc (Nat.le_refl _) _), fun h h2 => (R8 h h2).stay ((Below.refl _ _).alloc (Nat.le_refl _) _), nofun, fun _ => Sr.call [] [] ⟨67, 2, .slice (some ⟨w'.heap.size, 0, none⟩) 0 0, 0, []⟩ hSr ((Below.refl _ _).alloc (Nat.le_refl _) _) (ownLit (n := 0) [] (Nat.le_refl _) (by omega) rfl)⟩⟩
    refine StepsU.cons ?_ ?_
    · intro Q E0 listed a w' hI hM hk haft K hK
      obtain ⟨b0, b1, b2, b3, b4, b5, b6, b7, b8, b9, b10, x4, x56, x60, x63, x64, x65, r0, hl, ha, HF⟩ := hI
      subst hl; subst ha
      obtain ⟨N0, P0_0, P0_1, R4, R7, R8, Z, HS⟩ := HF.out
      clear HF
      have hk' : b1 = false := hk
      subst hk'
      clear hk
      obtain rfl : b8 = false := by cases b8 with | false => rfl | true => exact absurd (hM 8 1 rfl rfl) Bool.false_ne_true
      obtain rfl : b9 = false := by cases b9 with | false => rfl | true => exact absurd (hM 9 8 rfl rfl) Bool.false_ne_true
      obtain rfl : b10 = false := by cases b10 with | false => rfl | true => exact absurd (hM 10 1 rfl rfl) Bool.false_ne_true
      clear haft
      have hSr := HS rfl
      have hBl := hSr.bel
      obtain ⟨q0, q1⟩ := HK.out w' hBl
      go_simp
      exact hK _ _ ⟨b0, true, b2, b3, b4, b5, b6, b7, false, false, false, _, _, _, _, _, _, _, rfl, rfl, Lib.hid ⟨N0, P0_0, nofun, R4, R7, nofun, nofun, fun _ => hSr⟩⟩
    refine StepsU.cons ?_ ?_
    · intro Q E0 listed a w' hI hM hk haft K hK
      obtain ⟨b0, b1, b2, b3, b4, b5, b6, b7, b8, b9, b10, x4, x56, x60, x63, x64, x65, r0, hl, ha, HF⟩ := hI
      subst hl; subst ha
      obtain ⟨N0, P0_0, P0_1, R4, R7, R8, Z, HS⟩ := HF.out
      clear HF
      have hk' : b2 = false := hk
      subst hk'
      clear hk
      obtain rfl : b4 = false := by cases b4 with | false => rfl | true => exact absurd (hM 4 2 rfl rfl) Bool.false_ne_true
      obtain rfl : b7 = false := by cases b7 with | false => rfl | true => exact absurd (hM 7 4 rfl rfl) Bool.false_ne_true
      obtain rfl : b8 = false := by cases b8 with | false => rfl | true => exact absurd (hM 8 4 rfl rfl) Bool.false_ne_true
      obtain rfl : b9 = false := by cases b9 with | false => rfl | true => exact absurd (hM 9 8 rfl rfl) Bool.false_ne_true
      obtain rfl : b10 = false := by cases b10 with | false => rfl | true => exact absurd (hM 10 2 rfl rfl) Bool.false_ne_true
      clear haft
      have hSr := HS rfl
      have hBl := hSr.bel
      obtain ⟨q0, q1⟩ := HK.out w' hBl
      go_simp
      exact hK _ _ ⟨b0, b1, true, b3, false, b5, b6, false, false, false, false, _, _, _, _, _, _, _, rfl, rfl, Lib.hid ⟨N0, P0_0, nofun, nofun, nofun, nofun, nofun, fun _ => hSr⟩⟩
    refine StepsU.cons ?_ ?_
    · intro Q E0 listed a w' hI hM hk haft K hK
      obtain ⟨b0, b1, b2, b3, b4, b5, b6, b7, b8, b9, b10, x4, x56, x60, x63, x64, x65, r0, hl, ha, HF⟩ := hI
      subst hl; subst ha
      obtain ⟨N0, P0_0, P0_1, R4, R7, R8, Z, HS⟩ := HF.out
      clear HF
      have hk' : b3 = false := hk
      subst hk'
      clear hk
      obtain rfl : b4 = false := by cases b4 with | false => rfl | true => exact absurd (hM 4 3 rfl rfl) Bool.false_ne_true
      obtain rfl : b7 = false := by cases b7 with | false => rfl | true => exact absurd (hM 7 4 rfl rfl) Bool.false_ne_true
      obtain rfl : b8 = false := by cases b8 with | false => rfl | true => exact absurd (hM 8 4 rfl rfl) Bool.false_ne_true
      obtain rfl : b9 = false := by cases b9 with | false => rfl | true => exact absurd (hM 9 8 rfl rfl) Bool.false_ne_true
      obtain rfl : b10 = false := by cases b10 with | false => rfl | true => exact absurd (hM 10 3 rfl rfl) Bool.false_ne_true
      clear haft
      have hSr := HS rfl
      have hBl := hSr.bel
      obtain ⟨q0, q1⟩ := HK.out w' hBl
      go_simp
      exact hK _ _ ⟨b0, b1, b2, true, false, b5, b6, false, false, false, false, _, _, _, _, _, _, _, rfl, rfl, Lib.hid ⟨N0, P0_0, nofun, nofun, nofun, nofun, nofun, fun _ => hSr⟩⟩
    refine StepsU.cons ?_ ?_
    · intro Q E0 listed a w' hI hM hk haft K hK
      obtain ⟨b0, b1, b2, b3, b4, b5, b6, b7, b8, b9, b10, x4, x56, x60, x63, x64, x65, r0, hl, ha, HF⟩ := hI
      subst hl; subst ha
      obtain ⟨N0, P0_0, P0_1, R4, R7, R8, Z, HS⟩ := HF.out
      clear HF
      have hk' : b4 = false := hk
      subst hk'
      clear hk
      obtain rfl : b7 = false := by cases b7 with | false => rfl | true => exact absurd (hM 7 4 rfl rfl) Bool.false_ne_true
      obtain rfl : b8 = false := by cases b8 with | false => rfl | true => exact absurd (hM 8 4 rfl rfl) Bool.false_ne_true
      obtain rfl : b9 = false := by cases b9 with | false => rfl | true => exact absurd (hM 9 8 rfl rfl) Bool.false_ne_true
      obtain rfl : b10 = false := by cases b10 with | false => rfl | true => exact absurd (hM 10 4 rfl rfl) Bool.false_ne_true
      obtain rfl : b2 = true := haft ⟨2, .data⟩ (by simp) rfl
      obtain rfl : b3 = true := haft ⟨3, .data⟩ (by simp) rfl
      clear haft
      have hSr := HS rfl
      have hBl := hSr.bel
      obtain ⟨q0, q1⟩ := HK.out w' hBl
      go_simp
      go_at_call 89
      refine (IA.out w' _ (HAW.out.stay hBl)).mono ?_
      rintro e w1 ⟨vv, rfl, hbc, ho⟩
      have hrd := ho.out.pr (der_wf c HWA.out)
      exact hK _ _ ⟨b0, b1, true, true, true, b5, b6, false, false, false, false, _, _, _, _, _, _, _, rfl, rfl, Lib.hid ⟨N0, P0_0, nofun, fun _ _ => hrd, nofun, nofun, nofun, fun _ => hSr.stay hbc⟩⟩
    refine StepsU.cons ?_ ?_
    · intro Q E0 listed a w' hI hM hk haft K hK
      obtain ⟨b0, b1, b2, b3, b4, b5, b6, b7, b8, b9, b10, x4, x56, x60, x63, x64, x65, r0, hl, ha, HF⟩ := hI
      subst hl; subst ha
      obtain ⟨N0, P0_0, P0_1, R4, R7, R8, Z, HS⟩ := HF.out
      clear HF
      have hk' : b5 = false := hk
      subst hk'
      clear hk
      obtain rfl : b7 = false := by cases b7 with | false => rfl | true => exact absurd (hM 7 5 rfl rfl) Bool.false_ne_true
      obtain rfl : b8 = false := by cases b8 with | false => rfl | true => exact absurd (hM 8 7 rfl rfl) Bool.false_ne_true
      obtain rfl : b9 = false := by cases b9 with | false => rfl | true => exact absurd (hM 9 8 rfl rfl) Bool.false_ne_true
      obtain rfl : b10 = false := by cases b10 with | false => rfl | true => exact absurd (hM 10 5 rfl rfl) Bool.false_ne_true
      clear haft
      have hSr := HS rfl
      have hBl := hSr.bel
      obtain ⟨q0, q1⟩ := HK.out w' hBl
      go_simp
      exact hK _ _ ⟨b0, b1, b2, b3, b4, true, b6, false, false, false, false, _, _, _, _, _, _, _, rfl, rfl, Lib.hid ⟨N0, P0_0, nofun, R4, nofun, nofun, nofun, fun _ => hSr⟩⟩
    refine StepsU.cons ?_ ?_
    · intro Q E0 listed a w' hI hM hk haft K hK
      obtain ⟨b0, b1, b2, b3, b4, b5, b6, b7, b8, b9, b10, x4, x56, x60, x63, x64, x65, r0, hl, ha, HF⟩ := hI
      subst hl; subst ha
      obtain ⟨N0, P0_0, P0_1, R4, R7, R8, Z, HS⟩ := HF.out
      clear HF
      have hk' : b6 = false := hk
      subst hk'
      clear hk
      obtain rfl : b7 = false := by cases b7 with | false => rfl | true => exact absurd (hM 7 6 rfl rfl) Bool.false_ne_true
      obtain rfl : b8 = false := by cases b8 with | false => rfl | true => exact absurd (hM 8 7 rfl rfl) Bool.false_ne_true
      obtain rfl : b9 = false := by cases b9 with | false => rfl | true => exact absurd (hM 9 8 rfl rfl) Bool.false_ne_true
      obtain rfl : b10 = false := by cases b10 with | false => rfl | true => exact absurd (hM 10 6 rfl rfl) Bool.false_ne_true
      clear haft
      have hSr := HS rfl
      have hBl := hSr.bel
      obtain ⟨q0, q1⟩ := HK.out w' hBl
      go_simp
      exact hK _ _ ⟨b0, b1, b2, b3, b4, b5, true, false, false, false, false, _, _, _, _, _, _, _, rfl, rfl, Lib.hid ⟨N0, P0_0, nofun, R4, nofun, nofun, nofun, fun _ => hSr⟩⟩
    refine StepsU.cons ?_ ?_
    · intro Q E0 listed a w' hI hM hk haft K hK
      obtain ⟨b0, b1, b2, b3, b4, b5, b6, b7, b8, b9, b10, x4, x56, x60, x63, x64, x65, r0, hl, ha, HF⟩ := hI
      subst hl; subst ha
      obtain ⟨N0, P0_0, P0_1, R4, R7, R8, Z, HS⟩ := HF.out
      clear HF
      have hk' : b7 = false := hk
      subst hk'
      clear hk
      obtain rfl : b8 = false := by cases b8 with | false => rfl | true => exact absurd (hM 8 7 rfl rfl) Bool.false_ne_true
      obtain rfl : b9 = false := by cases b9 with | false => rfl | true => exact absurd (hM 9 8 rfl rfl) Bool.false_ne_true
      obtain rfl : b10 = false := by cases b10 with | false => rfl | true => exact absurd (hM 10 7 rfl rfl) Bool.false_ne_true
      obtain rfl : b5 = true := haft ⟨5, .data⟩ (by simp) rfl
      obtain rfl : b6 = true := haft ⟨6, .data⟩ (by simp) rfl
      obtain rfl : b4 = true := haft ⟨4, .chain⟩ (by simp) rfl
      obtain rfl : b2 = true := hM 4 2 rfl rfl
      obtain rfl : b3 = true := hM 4 3 rfl rfl
      clear haft
      have hSr := HS rfl
      have hBl := hSr.bel
      obtain ⟨q0, q1⟩ := HK.out w' hBl
      have r4 := R4 rfl rfl
      go_simp
      go_at_call 89
      refine (IB.out w' _ (HBB.out.stay hBl)).mono ?_
      rintro e w1 ⟨vv, rfl, hbc, ho⟩
      have hrd := ho.out.pr (der_wf c HWB.out)
      exact hK _ _ ⟨b0, b1, true, true, true, true, true, true, false, false, false, _, _, _, _, _, _, _, rfl, rfl, Lib.hid ⟨N0, P0_0, nofun, fun h h2 => (R4 h h2).stay hbc, fun _ _ => hrd, nofun, nofun, fun _ => hSr.stay hbc⟩⟩
    refine StepsU.cons ?_ ?_
    · intro Q E0 listed a w' hI hM hk haft K hK
      obtain ⟨b0, b1, b2, b3, b4, b5, b6, b7, b8, b9, b10, x4, x56, x60, x63, x64, x65, r0, hl, ha, HF⟩ := hI
      subst hl; subst ha
      obtain ⟨N0, P0_0, P0_1, R4, R7, R8, Z, HS⟩ := HF.out
      clear HF
      have hk' : b8 = false := hk
      subst hk'
      clear hk
      obtain rfl : b9 = false := by cases b9 with | false => rfl | true => exact absurd (hM 9 8 rfl rfl) Bool.false_ne_true
      obtain rfl : b10 = false := by cases b10 with | false => rfl | true => exact absurd (hM 10 8 rfl rfl) Bool.false_ne_true
      obtain rfl : b1 = true := haft ⟨1, .data⟩ (by simp) rfl
      obtain rfl : b4 = true := haft ⟨4, .data⟩ (by simp) rfl
      obtain rfl : b7 = true := haft ⟨7, .data⟩ (by simp) rfl
      obtain rfl : b2 = true := hM 4 2 rfl rfl
      obtain rfl : b3 = true := hM 4 3 rfl rfl
      obtain rfl : b5 = true := hM 7 5 rfl rfl
      obtain rfl : b6 = true := hM 7 6 rfl rfl
      clear haft
      have hSr := HS rfl
      have hBl := hSr.bel
      obtain ⟨q0, q1⟩ := HK.out w' hBl
      have r4 := R4 rfl rfl
      have r7 := R7 rfl rfl
      go_simp
      go_at_call 105
      refine (l5Make_c _ _ _ _ _ HL5.out _ _ w' r4.2 r7.2 HLS.out).mono ?_
      rintro e w1 ⟨vv, rfl, hbc, hp⟩
      have hrd := hp.out
      exact hK _ _ ⟨b0, true, true, true, true, true, true, true, true, false, false, _, _, _, _, _, _, _, rfl, rfl, Lib.hid ⟨N0, P0_0, nofun, fun h h2 => (R4 h h2).stay hbc, fun h h2 => (R7 h h2).stay hbc, fun _ _ => hrd, nofun, fun _ => hSr.stay hbc⟩⟩
    refine StepsU.cons ?_ ?_
    · intro Q E0 listed a w' hI hM hk haft K hK
      obtain ⟨b0, b1, b2, b3, b4, b5, b6, b7, b8, b9, b10, x4, x56, x60, x63, x64, x65, r0, hl, ha, HF⟩ := hI
      subst hl; subst ha
      obtain ⟨N0, P0_0, P0_1, R4, R7, R8, Z, HS⟩ := HF.out
      clear HF
      have hk' : b9 = false := hk
      subst hk'
      clear hk
      obtain rfl : b10 = false := by cases b10 with | false => rfl | true => exact absurd (hM 10 9 rfl rfl) Bool.false_ne_true
      obtain rfl : b0 = true := haft ⟨0, .data⟩ (by simp) rfl
      obtain rfl : b8 = true := haft ⟨8, .data⟩ (by simp) rfl
      obtain rfl : b1 = true := hM 8 1 rfl rfl
      obtain rfl : b4 = true := hM 8 4 rfl rfl
      obtain rfl : b7 = true := hM 8 7 rfl rfl
      obtain rfl : b2 = true := hM 4 2 rfl rfl
      obtain rfl : b3 = true := hM 4 3 rfl rfl
      obtain rfl : b5 = true := hM 7 5 rfl rfl
      obtain rfl : b6 = true := hM 7 6 rfl rfl
      clear haft
      obtain ⟨g0, c0, rfl, hr0⟩ := P0_0 rfl
      obtain rfl := hr0 rfl
      have hSr := HS rfl
      have hBl := hSr.bel
      obtain ⟨q0, q1⟩ := HK.out w' hBl
      have r4 := R4 rfl rfl
      have r7 := R7 rfl rfl
      have r8 := R8 rfl rfl
      have hrow := hSr.own _ (List.mem_append_right [] (List.mem_cons_self ..))
      refine stepAppX elPart (by decide) rfl (.tmp 56) (.tmp 64) rfl W.heap.size g0 (0) c0 (R.flat.length) _ _ (cells2 R.flat) w' rfl rfl hrow (r8.2) (by rw [length_cells2]; omega) (cells2_one _) (by have := HLR.out; unfold Re.len at this; omega) hBl.size ?_
      intro g' c' w1 hoc hgc hat
      rw [Nat.zero_add] at hoc ⊢
      exact hK _ _ ⟨true, true, true, true, true, true, true, true, true, true, false, _, _, _, _, _, .slice (some ⟨g', 0, none⟩) (R.flat.length) c', some ⟨67, 2, .slice (some ⟨g', 0, none⟩) (R.flat.length) c', R.flat.length, ([] ++ cells2 R.flat)⟩, rfl, rfl, Lib.hid ⟨nofun, fun _ => ⟨_, _, rfl, nofun⟩, fun _ => ⟨g', c', rfl, rfl⟩, fun _ => nofun, fun _ => nofun, fun _ => nofun, nofun, fun _ => Sr.grow [] [] ⟨67, 2, .slice (some ⟨g', 0, none⟩) (R.flat.length) c', R.flat.length, ([] ++ cells2 R.flat)⟩ hSr rfl rfl hgc hoc hat⟩⟩
    refine StepsU.cons ?_ ?_
    · intro Q E0 listed a w' hI hM hk haft K hK
      obtain ⟨b0, b1, b2, b3, b4, b5, b6, b7, b8, b9, b10, x4, x56, x60, x63, x64, x65, r0, hl, ha, HF⟩ := hI
      subst hl; subst ha
      obtain ⟨N0, P0_0, P0_1, R4, R7, R8, Z, HS⟩ := HF.out
      clear HF
      have hk' : b10 = false := hk
      subst hk'
      clear hk
      obtain rfl : b9 = true := haft ⟨9, .data⟩ (by simp) rfl
      obtain rfl : b0 = true := haft ⟨0, .phase⟩ (by simp) rfl
      obtain rfl : b1 = true := haft ⟨1, .phase⟩ (by simp) rfl
      obtain rfl : b2 = true := haft ⟨2, .phase⟩ (by simp) rfl
      obtain rfl : b3 = true := haft ⟨3, .phase⟩ (by simp) rfl
      obtain rfl : b4 = true := haft ⟨4, .phase⟩ (by simp) rfl
      obtain rfl : b5 = true := haft ⟨5, .phase⟩ (by simp) rfl
      obtain rfl : b6 = true := haft ⟨6, .phase⟩ (by simp) rfl
      obtain rfl : b7 = true := haft ⟨7, .phase⟩ (by simp) rfl
      obtain rfl : b8 = true := haft ⟨8, .phase⟩ (by simp) rfl
      clear haft
      obtain ⟨g9, c9, rfl, rfl⟩ := P0_1 rfl
      have hSr := HS rfl
      have hBl := hSr.bel
      obtain ⟨q0, q1⟩ := HK.out w' hBl
      go_simp
      exact hK _ _ ⟨true, true, true, true, true, true, true, true, true, true, true, _, _, _, _, _, _, _, rfl, rfl, Lib.hid ⟨N0, P0_0, fun _ => ⟨_, _, rfl, rfl⟩, fun _ => nofun, fun _ => nofun, fun _ => nofun, fun _ => ⟨_, _, rfl, hSr.own _ (List.mem_cons_self ..), hBl⟩, nofun⟩⟩
    exact StepsU.nil
  · intro G0 hG0 listed a w' hI hall
    obtain ⟨b0, b1, b2, b3, b4, b5, b6, b7, b8, b9, b10, x4, x56, x60, x63, x64, x65, r0, hl, ha, HF⟩ := hI
    subst hl; subst ha
    obtain rfl : b0 = true := hall 0 (by decide)
    obtain rfl : b1 = true := hall 1 (by decide)
    obtain rfl : b2 = true := hall 2 (by decide)
    obtain rfl : b3 = true := hall 3 (by decide)
    obtain rfl : b4 = true := hall 4 (by decide)
    obtain rfl : b5 = true := hall 5 (by decide)
    obtain rfl : b6 = true := hall 6 (by decide)
    obtain rfl : b7 = true := hall 7 (by decide)
    obtain rfl : b8 = true := hall 8 (by decide)
    obtain rfl : b9 = true := hall 9 (by decide)
    obtain rfl : b10 = true := hall 10 (by decide)
    exact hG0 _ _ _ _ _ _ _ (HF.out.2.2.2.2.2.2.1 rfl)
  · intro x4 x56 x60 x63 x64 x65 w' hFin
    obtain ⟨g, c', rfl, ho, hb⟩ := hFin
    have hb2 := HBW.out.trans (hb.mono HBW.out.size)
    have HO : Hid (OwnP w' w.heap.size (.slice (some ⟨g, 0, none⟩) R.flat.length c') R.flat) := Lib.hid (ownBase (base := W.heap.size) (by rw [List.nil_append] at ho; exact ho) HBW.out.size)
    go_wp2
    go_ret
    exact ROx.mk hb2 (by rw [← HE.out]; exact HO.out)
set_option maxHeartbeats 4000000 in
theorem lde_not (ta : Re) (c : Int) (hl : ta.len ≤ 59) (iha : ∀ (w : World) (v : Value), PR w v ta → Calls Try.prog 89 #[v, .int .i64 c] w (ROx w (ta.der c))) (u : Value) (w : World) (h : PR w u (.not ta)) : Calls Try.prog 89 #[u, .int .i64 c] w (ROx w (Re.der c (.not ta))) := by
  have hla : ta.flat.length ≤ 900 := by unfold Re.len at hl; omega
  have hmm := len_not ta
  unfold Re.len at hmm hl
  have ht := h.1
  obtain ⟨bb, off, cap, m, rfl, hm1, hm2, c0, c1⟩ := h.last
  replace c0 : w.cell? ⟨bb, off + m * 2, none⟩ = some (.int .i64 7) := c0
  replace c1 : w.cell? ⟨bb, off + m * 2 + 1, none⟩ = some (.int .i64 0) := c1
  have hm60 : m ≤ 60 := by omega
  have hI : IntKind.i64.wrap ((m + 1 : Nat) - 1 : Int) = (m : Int) := by rw [show (((m + 1 : Nat) : Int) - 1) = (m : Int) by omega]; exact IntWalk.i64_in _ (by omega)
  have hlt : (m : Int) < (m : Int) + 1 := by omega
  have HC : Hid (∀ w', Below w.heap.size w w' → w'.cell? ⟨bb, off + m * 2, none⟩ = some (.int .i64 7) ∧ w'.cell? ⟨bb, off + m * 2 + 1, none⟩ = some (.int .i64 0)) := Lib.hid (fun w' k => ⟨kpB (S := fun _ => True) k _ _ trivial c0, kpB (S := fun _ => True) k _ _ trivial c1⟩)
  obtain ⟨W0, hW0⟩ : ∃ W0, W0 = w.alloc (.cells #[.int .i64 1, .int .i64 0] 67) := ⟨_, rfl⟩
  have hB0 : Below w.heap.size w W0 := by rw [hW0]; exact (Below.refl _ _).alloc (Nat.le_refl _) _
  have HN0 : Hid (OwnP W0 w.heap.size (.slice (some ⟨w.heap.size, 0, none⟩) 1 1) [(1, 0)]) := Lib.hid (by rw [hW0]; exact ownLit [.int .i64 1, .int .i64 0] (Nat.le_refl _) (by omega) rfl)
  have HH0 := Lib.hid (h.stay hB0)
  have HSP := Lib.hid (l2Split1_c _ ta.flat 7 0 W0 (h.stay hB0).2 (by decide) (by decide) hla ta.flat_pos)
  have HB0 := Lib.hid hB0
  have HW0 := Lib.hid hW0
  have HWA : Hid ta.wf := Lib.hid ht
  have IA := Lib.hid iha
  obtain ⟨R, hR⟩ : ∃ R, R = Re.der c (.not ta) := ⟨_, rfl⟩
  have HL5 : Hid (L5 7 0 (ta.der c).flat [] R) := Lib.hid (by rw [hR]; exact l5n (der_wf c (t := ta) ht))
  have HLS : Hid ((ta.der c).flat.length + ([] : List (Int × Int)).length ≤ 1000000) := Lib.hid (by have h1 := len_der c ta; have h2 : ta.len * ta.len ≤ 60 * 60 := Nat.mul_le_mul (by unfold Re.len; omega) (by unfold Re.len; omega); unfold Re.len at *; simp; omega)
  have HLR : Hid (R.len ≤ 1000000) := Lib.hid (by rw [hR]; have h1 := len_der c (Re.not ta); have h2 : (Re.not ta).len * (Re.not ta).len ≤ 60 * 60 := Nat.mul_le_mul (by unfold Re.len; omega) (by unfold Re.len; omega); omega)
  have HE := Lib.hid hR
  clear h c0 c1 hm1 hm2 hB0 hW0 ht hR iha hl hla hmm
  go_enter Try.func89, Try.ntmps89
  go_wp2_with fail
  rw [← HW0.out]
  refine HSP.out.mono ?_
  rintro e ws ⟨va, vb, rfl, hbs, hva, hvb⟩
  have HBs := Lib.hid (HB0.out.trans (hbs.mono HB0.out.size))
  have HHs := Lib.hid (HH0.out.stay hbs)
  have HNs := Lib.hid (HN0.out.stay hbs)
  obtain ⟨aa, ca, rfl, _⟩ := hva.out.shape
  obtain ⟨ab, cb, rfl, _⟩ := hvb.out.shape
  obtain ⟨d0, d1⟩ := HC.out ws HBs.out
  obtain ⟨W, hW⟩ : ∃ W, W = ws.alloc (.cells #[.int .i64 7, .int .i64 0] 67) := ⟨_, rfl⟩
  have hbW : Below ws.heap.size ws W := by rw [hW]; exact (Below.refl _ _).alloc (Nat.le_refl _) _
  have KW : Hid (W.heap[ws.heap.size]? = some (.cells #[.int .i64 7, .int .i64 0] 67 (0, 0))) := Lib.hid (by rw [hW]; exact blkNew _ _ rfl)
  have HBW := Lib.hid (HBs.out.trans (hbW.mono HBs.out.size))
  have HHW := Lib.hid (HHs.out.stay hbW)
  have HNW := Lib.hid (HNs.out.stay hbW)
  have HAW : Hid (PR W _ ta) := Lib.hid ((PR.of HWA.out hva.out hbs).stay hbW)
  have HWW := Lib.hid hW
  obtain ⟨q0, q1, f0, f1⟩ := blk2 KW.out
  clear hva hvb hbs hbW hW HSP HC HH0 HN0 HHs HNs
  rw [HWW.out] at q0 q1 f0 f1
  go_wp2_with fail
  rw [← HWW.out] at q0 q1 f0 f1 ⊢
  have HK : Hid (∀ w', Below W.heap.size W w' → w'.cell? ⟨ws.heap.size, 0, none⟩ = some (.int .i64 7) ∧ w'.cell? ⟨ws.heap.size, 1, none⟩ = some (.int .i64 0)) := Lib.hid (fun w' hb => ⟨(blk2 (blkBel hb KW.out)).1, (blk2 (blkBel hb KW.out)).2.1⟩)
  clear q0 q1 f0 f1 KW HWW d0 d1
  rw [← HE.out]
  refine wp_region_inv2 [(4, 2), (4, 3), (6, 1), (6, 4), (6, 5), (7, 0), (7, 6), (8, 0), (8, 1), (8, 2), (8, 3), (8, 4), (8, 5), (8, 6), (8, 7)] (fun listed a w' => ∃ (b0 b1 b2 b3 b4 b5 b6 b7 b8 : Bool) (x4 x68 x72 x73 x74 x75 : Value) (r0 r1 : Option Rw), listed = #[b0, b1, b2, b3, b4, b5, b6, b7, b8] ∧ a = { tmps := #[Value.slice (some ⟨bb, off, none⟩) (m + 1) cap, Value.int IntKind.i64 c, undef, undef, x4, Value.slice (some ⟨w.heap.size, 0, none⟩) 1 1, Value.slice aa ta.flat.length ca, Value.slice ab 0 cb, Value.pointer (some ⟨ws.heap.size, 0, none⟩), undef, Value.agg #[Value.int IntKind.i64 1, Value.int IntKind.i64 0], Value.slice (some ⟨w.heap.size, 0, none⟩) 1 1, Value.tuple #[Value.slice aa ta.flat.length ca, Value.slice ab 0 cb], Value.slice (some ⟨bb, off, none⟩) (m + 1) cap, Value.tuple #[Value.slice aa ta.flat.length ca, Value.slice ab 0 cb], Value.slice aa ta.flat.length ca, Value.slice ab 0 cb, Value.slice (some ⟨bb, off, none⟩) (m + 1) cap, Value.slice (some ⟨bb, off, none⟩) (m + 1) cap, Value.int IntKind.i64 (↑m + 1), Value.int IntKind.i64 ↑m, Value.pointer (some ⟨bb, off + m * 2, none⟩), Value.agg #[Value.int IntKind.i64 7, Value.int IntKind.i64 0], Value.pointer (some ⟨ws.heap.size, 0, none⟩), Value.int IntKind.i64 7, Value.bool false, Value.bool false, undef, undef, undef, undef, undef, undef, Value.bool false, Value.bool false, undef, undef, undef, undef, undef, undef, undef, undef, undef, undef, undef, undef, undef, undef, undef, undef, undef, undef, Value.bool false, Value.bool false, Value.bool false, undef, undef, undef, undef, undef, undef, undef, undef, undef, undef, Value.bool true, Value.bool true, x68, cond b1 (.agg #[.int .i64 7, .int .i64 0]) (undef), cond b2 (Value.slice aa ta.flat.length ca) (undef), cond b3 (.int .i64 c) (undef), x72, x73, x74, x75, undef, undef, undef, undef, undef, undef, undef, undef, undef, undef, undef, undef], defers := [] } ∧ Hid ((b0 = false → r0 = none) ∧ (b0 = true → ∃ (g : Nat) (c : Nat), x68 = .slice (some ⟨g, 0, none⟩) (0) c ∧ (b7 = false → r0 = some ⟨67, 2, x68, 0, []⟩)) ∧ (b7 = true → ∃ (g : Nat) (c : Nat), x75 = .slice (some ⟨g, 0, none⟩) (R.flat.length) c ∧ r0 = some ⟨67, 2, x75, R.flat.length, ([] ++ cells2 R.flat)⟩) ∧ (b5 = false → r1 = none) ∧ (b5 = true → ∃ (g : Nat) (c : Nat), x73 = .slice (some ⟨g, 0, none⟩) (0) c ∧ r1 = some ⟨67, 2, x73, 0, []⟩) ∧ (b4 = true → b7 = false → PR w' x72 (ta.der c)) ∧ (b6 = true → b7 = false → PR w' x74 R) ∧ (b8 = true → ∃ (g c' : Nat), x4 = .slice (some ⟨g, 0, none⟩) R.flat.length c' ∧ w'.ownsRow W.heap.size 67 2 x4 R.flat.length ([] ++ cells2 R.flat) ∧ Below W.heap.size W w') ∧ (b8 = false → Sr W w' none [r0, r1]))) (fun G => ∀ (x4 x68 x72 x73 x74 x75 : Value) (w' : World), (∃ (g c' : Nat), x4 = .slice (some ⟨g, 0, none⟩) R.flat.length c' ∧ w'.ownsRow W.heap.size 67 2 x4 R.flat.length ([] ++ cells2 R.flat) ∧ Below W.heap.size W w') → G { tmps := #[Value.slice (some ⟨bb, off, none⟩) (m + 1) cap, Value.int IntKind.i64 c, undef, undef, x4, Value.slice (some ⟨w.heap.size, 0, none⟩) 1 1, Value.slice aa ta.flat.length ca, Value.slice ab 0 cb, Value.pointer (some ⟨ws.heap.size, 0, none⟩), undef, Value.agg #[Value.int IntKind.i64 1, Value.int IntKind.i64 0], Value.slice (some ⟨w.heap.size, 0, none⟩) 1 1, Value.tuple #[Value.slice aa ta.flat.length ca, Value.slice ab 0 cb], Value.slice (some ⟨bb, off, none⟩) (m + 1) cap, Value.tuple #[Value.slice aa ta.flat.length ca, Value.slice ab 0 cb], Value.slice aa ta.flat.length ca, Value.slice ab 0 cb, Value.slice (some ⟨bb, off, none⟩) (m + 1) cap, Value.slice (some ⟨bb, off, none⟩) (m + 1) cap, Value.int IntKind.i64 (↑m + 1), Value.int IntKind.i64 ↑m, Value.pointer (some ⟨bb, off + m * 2, none⟩), Value.agg #[Value.int IntKind.i64 7, Value.int IntKind.i64 0], Value.pointer (some ⟨ws.heap.size, 0, none⟩), Value.int IntKind.i64 7, Value.bool false, Value.bool false, undef, undef, undef, undef, undef, undef, Value.bool false, Value.bool false, undef, undef, undef, undef, undef, undef, undef, undef, undef, undef, undef, undef, undef, undef, undef, undef, undef, undef, Value.bool false, Value.bool false, Value.bool false, undef, undef, undef, undef, undef, undef, undef, undef, undef, undef, Value.bool true, Value.bool true, x68, .agg #[.int .i64 7, .int .i64 0], Value.slice aa ta.flat.length ca, .int .i64 c, x72, x73, x74, x75, undef, undef, undef, undef, undef, undef, undef, undef, undef, undef, undef, undef], defers := [] } w') (by kernel_rfl) (by kernel_rfl) (by kernel_rfl) (by kernel_rfl) ?_ ?_ ?_ ?_
  · exact ⟨false, false, false, false, false, false, false, false, false, Value.slice none 0 0, undef, undef, undef, undef, undef, none, none, rfl, rfl, Lib.hid ⟨fun _ => rfl, nofun, nofun, fun _ => rfl, nofun, nofun, nofun, nofun, fun _ => Sr.start W 2⟩⟩
  · refine StepsU.cons ?_ ?_
    · intro Q E0 listed a w' hI hM hk haft K hK
      obtain ⟨b0, b1, b2, b3, b4, b5, b6, b7, b8, x4, x68, x72, x73, x74, x75, r0, r1, hl, ha, HF⟩ := hI
      subst hl; subst ha
      obtain ⟨N0, P0_0, P0_1, N1, P1_0, R4, R6, Z, HS⟩ := HF.out
      clear HF
      have hk' : b0 = false := hk
      subst hk'
      clear hk
      obtain rfl : b7 = false := by cases b7 with | false => rfl | true => exact absurd (hM 7 0 rfl rfl) Bool.false_ne_true
      obtain rfl : b8 = false := by cases b8 with | false => rfl | true => exact absurd (hM 8 0 rfl rfl) Bool.false_ne_true
      clear haft
      have hSr := HS rfl
      have hBl := hSr.bel
      obtain ⟨q0, q1⟩ := HK.out w' hBl
      obtain rfl := N0 rfl
      go_simp
      exact hK _ _ ⟨true, b1, b2, b3, b4, b5, b6, false, false, _, .slice (some ⟨w'.heap.size, 0, none⟩) 0 0, _, _, _, _, some ⟨67, 2, .slice (some ⟨w'.heap.size, 0, none⟩) 0 0, 0, []⟩, _, rfl, rfl, Lib.hid ⟨nofun, fun _ => ⟨w'.heap.size, 0, rfl, fun _ => rfl⟩, nofun, N1, P1_0, fun h h2 => (R4 h h2).stay ((Below.refl _ _).alloc (Nat.le_refl _) _), fun h h2 => (R6 h h2).stay ((Below.refl _ _).alloc (Nat.le_refl _) _), nofun, fun _ => Sr.call [] [r1] ⟨67, 2, .slice (some ⟨w'.heap.size, 0, none⟩) 0 0, 0, []⟩ hSr ((Below.refl _ _).alloc (Nat.le_refl _) _) (ownLit (n := 0) [] (Nat.le_refl _) (by omega) rfl)⟩⟩
    refine StepsU.cons ?_ ?_
    · intro Q E0 listed a w' hI hM hk haft K hK
      obtain ⟨b0, b1, b2, b3, b4, b5, b6, b7, b8, x4, x68, x72, x73, x74, x75, r0, r1, hl, ha, HF⟩ := hI
      subst hl; subst ha
      obtain ⟨N0, P0_0, P0_1, N1, P1_0, R4, R6, Z, HS⟩ := HF.out
      clear HF
      have hk' : b1 = false := hk
      subst hk'
      clear hk
      obtain rfl : b6 = false := by cases b6 with | false => rfl | true => exact absurd (hM 6 1 rfl rfl) Bool.false_ne_true
      obtain rfl : b7 = false := by cases b7 with | false => rfl | true => exact absurd (hM 7 6 rfl rfl) Bool.false_ne_true
      obtain rfl : b8 = false := by cases b8 with | false => rfl | true => exact absurd (hM 8 1 rfl rfl) Bool.false_ne_true
      clear haft
      have hSr := HS rfl
      have hBl := hSr.bel
      obtain ⟨q0, q1⟩ := HK.out w' hBl
      go_simp
      exact hK _ _ ⟨b0, true, b2, b3, b4, b5, false, false, false, _, _, _, _, _, _, _, _, rfl, rfl, Lib.hid ⟨N0, P0_0, nofun, N1, P1_0, R4, nofun, nofun, fun _ => hSr⟩⟩
    refine StepsU.cons ?_ ?_
    · intro Q E0 listed a w' hI hM hk haft K hK
      obtain ⟨b0, b1, b2, b3, b4, b5, b6, b7, b8, x4, x68, x72, x73, x74, x75, r0, r1, hl, ha, HF⟩ := hI
      subst hl; subst ha
      obtain ⟨N0, P0_0, P0_1, N1, P1_0, R4, R6, Z, HS⟩ := HF.out
      clear HF
      have hk' : b2 = false := hk
      subst hk'
      clear hk
      obtain rfl : b4 = false := by cases b4 with | false => rfl | true => exact absurd (hM 4 2 rfl rfl) Bool.false_ne_true
      obtain rfl : b6 = false := by cases b6 with | false => rfl | true => exact absurd (hM 6 4 rfl rfl) Bool.false_ne_true
      obtain rfl : b7 = false := by cases b7 with | false => rfl | true => exact absurd (hM 7 6 rfl rfl) Bool.false_ne_true
      obtain rfl : b8 = false := by cases b8 with | false => rfl | true => exact absurd (hM 8 2 rfl rfl) Bool.false_ne_true
      clear haft
      have hSr := HS rfl
      have hBl := hSr.bel
      obtain ⟨q0, q1⟩ := HK.out w' hBl
      go_simp
      exact hK _ _ ⟨b0, b1, true, b3, false, b5, false, false, false, _, _, _, _, _, _, _, _, rfl, rfl, Lib.hid ⟨N0, P0_0, nofun, N1, P1_0, nofun, nofun, nofun, fun _ => hSr⟩⟩
    refine StepsU.cons ?_ ?_
    · intro Q E0 listed a w' hI hM hk haft K hK
      obtain ⟨b0, b1, b2, b3, b4, b5, b6, b7, b8, x4, x68, x72, x73, x74, x75, r0, r1, hl, ha, HF⟩ := hI
      subst hl; subst ha
      obtain ⟨N0, P0_0, P0_1, N1, P1_0, R4, R6, Z, HS⟩ := HF.out
      clear HF
      have hk' : b3 = false := hk
      subst hk'
      clear hk
      obtain rfl : b4 = false := by cases b4 with | false => rfl | true => exact absurd (hM 4 3 rfl rfl) Bool.false_ne_true
      obtain rfl : b6 = false := by cases b6 with | false => rfl | true => exact absurd (hM 6 4 rfl rfl) Bool.false_ne_true
      obtain rfl : b7 = false := by cases b7 with | false => rfl | true => exact absurd (hM 7 6 rfl rfl) Bool.false_ne_true
      obtain rfl : b8 = false := by cases b8 with | false => rfl | true => exact absurd (hM 8 3 rfl rfl) Bool.false_ne_true
      clear haft
      have hSr := HS rfl
      have hBl := hSr.bel
      obtain ⟨q0, q1⟩ := HK.out w' hBl
      go_simp
      exact hK _ _ ⟨b0, b1, b2, true, false, b5, false, false, false, _, _, _, _, _, _, _, _, rfl, rfl, Lib.hid ⟨N0, P0_0, nofun, N1, P1_0, nofun, nofun, nofun, fun _ => hSr⟩⟩
    refine StepsU.cons ?_ ?_
    · intro Q E0 listed a w' hI hM hk haft K hK
      obtain ⟨b0, b1, b2, b3, b4, b5, b6, b7, b8, x4, x68, x72, x73, x74, x75, r0, r1, hl, ha, HF⟩ := hI
      subst hl; subst ha
      obtain ⟨N0, P0_0, P0_1, N1, P1_0, R4, R6, Z, HS⟩ := HF.out
      clear HF
      have hk' : b4 = false := hk
      subst hk'
      clear hk
      obtain rfl : b6 = false := by cases b6 with | false => rfl | true => exact absurd (hM 6 4 rfl rfl) Bool.false_ne_true
      obtain rfl : b7 = false := by cases b7 with | false => rfl | true => exact absurd (hM 7 6 rfl rfl) Bool.false_ne_true
      obtain rfl : b8 = false := by cases b8 with | false => rfl | true => exact absurd (hM 8 4 rfl rfl) Bool.false_ne_true
      obtain rfl : b2 = true := haft ⟨2, .data⟩ (by simp) rfl
      obtain rfl : b3 = true := haft ⟨3, .data⟩ (by simp) rfl
      clear haft
      have hSr := HS rfl
      have hBl := hSr.bel
      obtain ⟨q0, q1⟩ := HK.out w' hBl
      go_simp
      go_at_call 89
      refine (IA.out w' _ (HAW.out.stay hBl)).mono ?_
      rintro e w1 ⟨vv, rfl, hbc, ho⟩
      have hrd := ho.out.pr (der_wf c HWA.out)
      exact hK _ _ ⟨b0, b1, true, true, true, b5, false, false, false, _, _, _, _, _, _, _, _, rfl, rfl, Lib.hid ⟨N0, P0_0, nofun, N1, P1_0, fun _ _ => hrd, nofun, nofun, fun _ => hSr.stay hbc⟩⟩
    refine StepsU.cons ?_ ?_
    · intro Q E0 listed a w' hI hM hk haft K hK
      obtain ⟨b0, b1, b2, b3, b4, b5, b6, b7, b8, x4, x68, x72, x73, x74, x75, r0, r1, hl, ha, HF⟩ := hI
      subst hl; subst ha
      obtain ⟨N0, P0_0, P0_1, N1, P1_0, R4, R6, Z, HS⟩ := HF.out
      clear HF
      have hk' : b5 = false := hk
      subst hk'
      clear hk
      obtain rfl : b6 = false := by cases b6 with | false => rfl | true => exact absurd (hM 6 5 rfl rfl) Bool.false_ne_true
      obtain rfl : b7 = false := by cases b7 with | false => rfl | true => exact absurd (hM 7 6 rfl rfl) Bool.false_ne_true
      obtain rfl : b8 = false := by cases b8 with | false => rfl | true => exact absurd (hM 8 5 rfl rfl) Bool.false_ne_true
      clear haft
      have hSr := HS rfl
      have hBl := hSr.bel
      obtain ⟨q0, q1⟩ := HK.out w' hBl
      obtain rfl := N1 rfl
      go_simp
      exact hK _ _ ⟨b0, b1, b2, b3, b4, true, false, false, false, _, _, _, .slice (some ⟨w'.heap.size, 0, none⟩) 0 0, _, _, _, some ⟨67, 2, .slice (some ⟨w'.heap.size, 0, none⟩) 0 0, 0, []⟩, rfl, rfl, Lib.hid ⟨N0, P0_0, nofun, nofun, fun _ => ⟨w'.heap.size, 0, rfl, rfl⟩, fun h h2 => (R4 h h2).stay ((Below.refl _ _).alloc (Nat.le_refl _) _), nofun, nofun, fun _ => Sr.call [r0] [] ⟨67, 2, .slice (some ⟨w'.heap.size, 0, none⟩) 0 0, 0, []⟩ hSr ((Below.refl _ _).alloc (Nat.le_refl _) _) (ownLit (n := 0) [] (Nat.le_refl _) (by omega) rfl)⟩⟩
    refine StepsU.cons ?_ ?_
    · intro Q E0 listed a w' hI hM hk haft K hK
      obtain ⟨b0, b1, b2, b3, b4, b5, b6, b7, b8, x4, x68, x72, x73, x74, x75, r0, r1, hl, ha, HF⟩ := hI
      subst hl; subst ha
      obtain ⟨N0, P0_0, P0_1, N1, P1_0, R4, R6, Z, HS⟩ := HF.out
      clear HF
      have hk' : b6 = false := hk
      subst hk'
      clear hk
      obtain rfl : b7 = false := by cases b7 with | false => rfl | true => exact absurd (hM 7 6 rfl rfl) Bool.false_ne_true
      obtain rfl : b8 = false := by cases b8 with | false => rfl | true => exact absurd (hM 8 6 rfl rfl) Bool.false_ne_true
      obtain rfl : b1 = true := haft ⟨1, .data⟩ (by simp) rfl
      obtain rfl : b4 = true := haft ⟨4, .data⟩ (by simp) rfl
      obtain rfl : b5 = true := haft ⟨5, .data⟩ (by simp) rfl
      obtain rfl : b2 = true := hM 4 2 rfl rfl
      obtain rfl : b3 = true := hM 4 3 rfl rfl
      clear haft
      obtain ⟨g5, c5, rfl, rfl⟩ := P1_0 rfl
      have hSr := HS rfl
      have hBl := hSr.bel
      obtain ⟨q0, q1⟩ := HK.out w' hBl
      have r4 := R4 rfl rfl
      have hrow := hSr.own _ (List.mem_cons_of_mem _ (List.mem_cons_self ..))
      have hE0 := OwnP.pl0 (xs := []) (show OwnP w' W.heap.size (.slice (some ⟨g5, 0, none⟩) 0 c5) [] from hrow)
      go_simp
      go_at_call 105
      refine (l5Make_c _ _ _ _ _ HL5.out _ _ w' r4.2 hE0 HLS.out).mono ?_
      rintro e w1 ⟨vv, rfl, hbc, hp⟩
      have hrd := hp.out
      exact hK _ _ ⟨b0, true, true, true, true, true, true, false, false, _, _, _, _, _, _, _, _, rfl, rfl, Lib.hid ⟨N0, P0_0, nofun, N1, fun _ => ⟨_, _, rfl, rfl⟩, fun h h2 => (R4 h h2).stay hbc, fun _ _ => hrd, nofun, fun _ => hSr.stay hbc⟩⟩
    refine StepsU.cons ?_ ?_
    · intro Q E0 listed a w' hI hM hk haft K hK
      obtain ⟨b0, b1, b2, b3, b4, b5, b6, b7, b8, x4, x68, x72, x73, x74, x75, r0, r1, hl, ha, HF⟩ := hI
      subst hl; subst ha
      obtain ⟨N0, P0_0, P0_1, N1, P1_0, R4, R6, Z, HS⟩ := HF.out
      clear HF
      have hk' : b7 = false := hk
      subst hk'
      clear hk
      obtain rfl : b8 = false := by cases b8 with | false => rfl | true => exact absurd (hM 8 7 rfl rfl) Bool.false_ne_true
      obtain rfl : b0 = true := haft ⟨0, .data⟩ (by simp) rfl
      obtain rfl : b6 = true := haft ⟨6, .data⟩ (by simp) rfl
      obtain rfl : b1 = true := hM 6 1 rfl rfl
      obtain rfl : b4 = true := hM 6 4 rfl rfl
      obtain rfl : b5 = true := hM 6 5 rfl rfl
      obtain rfl : b2 = true := hM 4 2 rfl rfl
      obtain rfl : b3 = true := hM 4 3 rfl rfl
      clear haft
      obtain ⟨g0, c0, rfl, hr0⟩ := P0_0 rfl
      obtain rfl := hr0 rfl
      obtain ⟨g5, c5, rfl, rfl⟩ := P1_0 rfl
      have hSr := HS rfl
      have hBl := hSr.bel
      obtain ⟨q0, q1⟩ := HK.out w' hBl
      have r4 := R4 rfl rfl
      have r6 := R6 rfl rfl
      have hrow := hSr.own _ (List.mem_append_right [] (List.mem_cons_self ..))
      refine stepAppX elPart (by decide) rfl (.tmp 68) (.tmp 74) rfl W.heap.size g0 (0) c0 (R.flat.length) _ _ (cells2 R.flat) w' rfl rfl hrow (r6.2) (by rw [length_cells2]; omega) (cells2_one _) (by have := HLR.out; unfold Re.len at this; omega) hBl.size ?_
      intro g' c' w1 hoc hgc hat
      rw [Nat.zero_add] at hoc ⊢
      exact hK _ _ ⟨true, true, true, true, true, true, true, true, false, _, _, _, _, _, .slice (some ⟨g', 0, none⟩) (R.flat.length) c', some ⟨67, 2, .slice (some ⟨g', 0, none⟩) (R.flat.length) c', R.flat.length, ([] ++ cells2 R.flat)⟩, _, rfl, rfl, Lib.hid ⟨nofun, fun _ => ⟨_, _, rfl, nofun⟩, fun _ => ⟨g', c', rfl, rfl⟩, N1, fun _ => ⟨_, _, rfl, rfl⟩, fun _ => nofun, fun _ => nofun, nofun, fun _ => Sr.grow [] [_] ⟨67, 2, .slice (some ⟨g', 0, none⟩) (R.flat.length) c', R.flat.length, ([] ++ cells2 R.flat)⟩ hSr rfl rfl hgc hoc hat⟩⟩
    refine StepsU.cons ?_ ?_
    · intro Q E0 listed a w' hI hM hk haft K hK
      obtain ⟨b0, b1, b2, b3, b4, b5, b6, b7, b8, x4, x68, x72, x73, x74, x75, r0, r1, hl, ha, HF⟩ := hI
      subst hl; subst ha
      obtain ⟨N0, P0_0, P0_1, N1, P1_0, R4, R6, Z, HS⟩ := HF.out
      clear HF
      have hk' : b8 = false := hk
      subst hk'
      clear hk
      obtain rfl : b7 = true := haft ⟨7, .data⟩ (by simp) rfl
      obtain rfl : b0 = true := haft ⟨0, .phase⟩ (by simp) rfl
      obtain rfl : b1 = true := haft ⟨1, .phase⟩ (by simp) rfl
      obtain rfl : b2 = true := haft ⟨2, .phase⟩ (by simp) rfl
      obtain rfl : b3 = true := haft ⟨3, .phase⟩ (by simp) rfl
      obtain rfl : b4 = true := haft ⟨4, .phase⟩ (by simp) rfl
      obtain rfl : b5 = true := haft ⟨5, .phase⟩ (by simp) rfl
      obtain rfl : b6 = true := haft ⟨6, .phase⟩ (by simp) rfl
      clear haft
      obtain ⟨g7, c7, rfl, rfl⟩ := P0_1 rfl
      obtain ⟨g5, c5, rfl, rfl⟩ := P1_0 rfl
      have hSr := HS rfl
      have hBl := hSr.bel
      obtain ⟨q0, q1⟩ := HK.out w' hBl
      go_simp
      exact hK _ _ ⟨true, true, true, true, true, true, true, true, true, _, _, _, _, _, _, _, _, rfl, rfl, Lib.hid ⟨N0, P0_0, fun _ => ⟨_, _, rfl, rfl⟩, N1, fun _ => ⟨_, _, rfl, rfl⟩, fun _ => nofun, fun _ => nofun, fun _ => ⟨_, _, rfl, hSr.own _ (List.mem_cons_self ..), hBl⟩, nofun⟩⟩
    exact StepsU.nil
  · intro G0 hG0 listed a w' hI hall
    obtain ⟨b0, b1, b2, b3, b4, b5, b6, b7, b8, x4, x68, x72, x73, x74, x75, r0, r1, hl, ha, HF⟩ := hI
    subst hl; subst ha
    obtain rfl : b0 = true := hall 0 (by decide)
    obtain rfl : b1 = true := hall 1 (by decide)
    obtain rfl : b2 = true := hall 2 (by decide)
    obtain rfl : b3 = true := hall 3 (by decide)
    obtain rfl : b4 = true := hall 4 (by decide)
    obtain rfl : b5 = true := hall 5 (by decide)
    obtain rfl : b6 = true := hall 6 (by decide)
    obtain rfl : b7 = true := hall 7 (by decide)
    obtain rfl : b8 = true := hall 8 (by decide)
    exact hG0 _ _ _ _ _ _ _ (HF.out.2.2.2.2.2.2.2.1 rfl)
  · intro x4 x68 x72 x73 x74 x75 w' hFin
    obtain ⟨g, c', rfl, ho, hb⟩ := hFin
    have hb2 := HBW.out.trans (hb.mono HBW.out.size)
    have HO : Hid (OwnP w' w.heap.size (.slice (some ⟨g, 0, none⟩) R.flat.length c') R.flat) := Lib.hid (ownBase (base := W.heap.size) (by rw [List.nil_append] at ho; exact ho) HBW.out.size)
    go_wp2
    go_ret
    exact ROx.mk hb2 (by rw [← HE.out]; exact HO.out)
set_option maxHeartbeats 2000000 in
theorem lde_star (a : Re) (c : Int) (hl : a.len ≤ 59) (iha : ∀ (w : World) (v : Value), PR w v a → Calls Try.prog 89 #[v, .int .i64 c] w (ROx w (a.der c))) (u : Value) (w : World) (h : PR w u (.star a)) : Calls Try.prog 89 #[u, .int .i64 c] w (ROx w (Re.der c (.star a))) := by
  have hla : a.flat.length ≤ 900 := by unfold Re.len at hl; omega
  have hmm := len_star a
  unfold Re.len at hmm hl
  have ht := h.1
  obtain ⟨bb, off, cap, m, rfl, hm1, hm2, c0, c1⟩ := h.last
  replace c0 : w.cell? ⟨bb, off + m * 2, none⟩ = some (.int .i64 8) := c0
  replace c1 : w.cell? ⟨bb, off + m * 2 + 1, none⟩ = some (.int .i64 0) := c1
  have hm60 : m ≤ 60 := by omega
  have hI : IntKind.i64.wrap ((m + 1 : Nat) - 1 : Int) = (m : Int) := by rw [show (((m + 1 : Nat) : Int) - 1) = (m : Int) by omega]; exact IntWalk.i64_in _ (by omega)
  have hlt : (m : Int) < (m : Int) + 1 := by omega
  have HC : Hid (∀ w', Below w.heap.size w w' → w'.cell? ⟨bb, off + m * 2, none⟩ = some (.int .i64 8) ∧ w'.cell? ⟨bb, off + m * 2 + 1, none⟩ = some (.int .i64 0)) := Lib.hid (fun w' k => ⟨kpB (S := fun _ => True) k _ _ trivial c0, kpB (S := fun _ => True) k _ _ trivial c1⟩)
  obtain ⟨W0, hW0⟩ : ∃ W0, W0 = w.alloc (.cells #[.int .i64 1, .int .i64 0] 67) := ⟨_, rfl⟩
  have hB0 : Below w.heap.size w W0 := by rw [hW0]; exact (Below.refl _ _).alloc (Nat.le_refl _) _
  have HN0 : Hid (OwnP W0 w.heap.size (.slice (some ⟨w.heap.size, 0, none⟩) 1 1) [(1, 0)]) := Lib.hid (by rw [hW0]; exact ownLit [.int .i64 1, .int .i64 0] (Nat.le_refl _) (by omega) rfl)
  have HH0 := Lib.hid (h.stay hB0)
  have HSP := Lib.hid (l2Split1_c _ a.flat 8 0 W0 (h.stay hB0).2 (by decide) (by decide) hla a.flat_pos)
  have HB0 := Lib.hid hB0
  have HW0 := Lib.hid hW0
  have HWA : Hid a.wf := Lib.hid ht
  have HS : Hid ((Re.star a).wf ∧ (Re.star a).len ≤ 900) := Lib.hid ⟨ht, by unfold Re.len; omega⟩
  have IA := Lib.hid iha
  obtain ⟨R, hR⟩ : ∃ R, R = Re.der c (.star a) := ⟨_, rfl⟩
  have HL5 : Hid (L5 4 0 (a.der c).flat (Re.star a).smp.flat R) := Lib.hid (by rw [hR]; exact l5j (der_wf c (t := a) ht) (smp_wf (t := .star a) ht))
  have HLS : Hid ((a.der c).flat.length + (Re.star a).smp.flat.length ≤ 1000000) := Lib.hid (by have h1 := len_der c a; have h2 : a.len * a.len ≤ 60 * 60 := Nat.mul_le_mul (by unfold Re.len; omega) (by unfold Re.len; omega); have h8 := len_smp (Re.star a); unfold Re.len at *; omega)
  have HLR : Hid (R.len ≤ 1000000) := Lib.hid (by rw [hR]; have h1 := len_der c (Re.star a); have h2 : (Re.star a).len * (Re.star a).len ≤ 60 * 60 := Nat.mul_le_mul (by unfold Re.len; omega) (by unfold Re.len; omega); omega)
  have HE := Lib.hid hR
  have hW9 : ∃ W9 : World, True := ⟨w, trivial⟩
  clear h c0 c1 hm1 hm2 hB0 hW0 ht hR iha hl hla hmm hW9
  go_enter Try.func89, Try.ntmps89
  go_wp2_with fail
  rw [← HW0.out]
  refine HSP.out.mono ?_
  rintro e ws ⟨va, vb, rfl, hbs, hva, hvb⟩
  have HBs := Lib.hid (HB0.out.trans (hbs.mono HB0.out.size))
  have HHs := Lib.hid (HH0.out.stay hbs)
  have HNs := Lib.hid (HN0.out.stay hbs)
  obtain ⟨aa, ca, rfl, _⟩ := hva.out.shape
  obtain ⟨ab, cb, rfl, _⟩ := hvb.out.shape
  obtain ⟨d0, d1⟩ := HC.out ws HBs.out
  obtain ⟨W, hW⟩ : ∃ W, W = ws.alloc (.cells #[.int .i64 8, .int .i64 0] 67) := ⟨_, rfl⟩
  have hbW : Below ws.heap.size ws W := by rw [hW]; exact (Below.refl _ _).alloc (Nat.le_refl _) _
  have KW : Hid (W.heap[ws.heap.size]? = some (.cells #[.int .i64 8, .int .i64 0] 67 (0, 0))) := Lib.hid (by rw [hW]; exact blkNew _ _ rfl)
  have HBW := Lib.hid (HBs.out.trans (hbW.mono HBs.out.size))
  have HHW := Lib.hid (HHs.out.stay hbW)
  have HNW := Lib.hid (HNs.out.stay hbW)
  have HAW : Hid (PR W _ a) := Lib.hid ((PR.of HWA.out hva.out hbs).stay hbW)
  have HWW := Lib.hid hW
  obtain ⟨q0, q1, f0, f1⟩ := blk2 KW.out
  clear hva hvb hbs hbW hW HSP HC HH0 HN0 HHs HNs
  rw [HWW.out] at q0 q1 f0 f1
  obtain ⟨Z, hZ⟩ : ∃ Z, Z = W.alloc (.cells #[] 67) := ⟨_, rfl⟩
  have hbZ : Below W.heap.size W Z := by rw [hZ]; exact (Below.refl _ _).alloc (Nat.le_refl _) _
  have HOZ : Hid (OwnP Z W.heap.size (.slice (some ⟨W.heap.size, 0, none⟩) 0 0) []) := Lib.hid (by rw [hZ]; exact ownLit (n := 0) [] (Nat.le_refl _) (by omega) rfl)
  have HAZ := Lib.hid (HAW.out.stay hbZ); have HHZ := Lib.hid (HHW.out.stay hbZ)
  have HBZ := Lib.hid (HBW.out.trans (hbZ.mono HBW.out.size))
  have HZZ := Lib.hid hZ
  have hzs : W.heap.size = ws.heap.size + 1 := by rw [HWW.out]; simp
  have HZS := Lib.hid hzs
  rw [hzs] at HOZ
  clear hZ hbZ hzs
  rw [HWW.out] at HZZ
  go_wp2_with fail
  rw [← HZZ.out]
  refine (IA.out Z _ HAZ.out).mono ?_
  rintro e w2 ⟨v2, rfl, hb2, ho2⟩
  have HP2 := Lib.hid (ho2.out.pr (der_wf c HWA.out))
  obtain ⟨a2, c2, rfl, _⟩ := HP2.out.shape
  have HH2 := Lib.hid (HHZ.out.stay hb2)
  have HB2 := Lib.hid (HBZ.out.trans (hb2.mono HBZ.out.size))
  have HO2 := Lib.hid (HOZ.out.stay hb2)
  have hs2 := hb2.size
  clear q0 q1 f0 f1
  go_wp2_with fail
  refine (l5Simple_c _ HS.out.1 HS.out.2 w2 _ HH2.out).mono ?_
  rintro e w3 ⟨v3, rfl, hb3, ho3⟩
  have HP3 := Lib.hid (ho3.out.pr (smp_wf HS.out.1))
  obtain ⟨a3, c3, rfl, _⟩ := HP3.out.shape
  have HP2' := Lib.hid (HP2.out.stay hb3)
  have HB3 := Lib.hid (HB2.out.trans (hb3.mono HB2.out.size))
  have HO3 := Lib.hid (HO2.out.stay hb3)
  go_wp2_with fail
  refine (l5Make_c _ _ _ _ _ HL5.out _ _ w3 HP2'.out.2 HP3.out.2 HLS.out).mono ?_
  rintro e w5 ⟨v5, rfl, hb5, hp5⟩
  obtain ⟨a5, c5, rfl, _⟩ := hp5.out.shape
  have HO5 := Lib.hid (HO3.out.stay hb5)
  have HB5 := Lib.hid (HB3.out.trans (hb5.mono HB3.out.size))
  have hs5 : ws.heap.size + 1 ≤ w5.heap.size := by have h1 := HZS.out; have h2 := hb3.size; have h3 := hb5.size; have h4 : W.heap.size ≤ Z.heap.size := (by rw [HZZ.out, ← HWW.out]; simp); omega
  have hl5 := HLR.out
  have hbw : w.heap.size ≤ ws.heap.size + 1 := by have := HBs.out.size; omega
  go_wp2_with (at_builtin; refine appMany (S := PT w5) elPart (by decide) rfl (.tmp 78) (.tmp 85) rfl (ws.heap.size + 1) _ _ 0 _ [] (cells2 _) w5 rfl rfl HO5.out hp5.out.2 (by rw [length_cells2]; omega) (cells2_one _) (by unfold Re.len at hl5; omega) hs5 ?_; intro v2 w2' h2 hg2)
  have hbz := HB5.out.grown hg2 HB5.out.size (fun k hk => Nat.le_trans hbw (World.ownsRow.lt HO5.out k hk).1)
  go_ret
  exact ROx.mk hbz (by rw [← HE.out]; exact ownBase (ownCopy h2.out rfl) hbw)
set_option maxHeartbeats 4000000 in
theorem lde_join (a b : Re) (c : Int) (hl : a.len + b.len ≤ 59) (iha : ∀ (w : World) (v : Value), PR w v a → Calls Try.prog 89 #[v, .int .i64 c] w (ROx w (a.der c))) (ihb : ∀ (w : World) (v : Value), PR w v b → Calls Try.prog 89 #[v, .int .i64 c] w (ROx w (b.der c))) (u : Value) (w : World) (h : PR w u (.join a b)) : Calls Try.prog 89 #[u, .int .i64 c] w (ROx w (Re.der c (.join a b))) := by
  have hla : (a.flat ++ b.flat).length ≤ 900 := by rw [List.length_append]; unfold Re.len at hl; omega
  have hmm := len_join a b
  unfold Re.len at hmm hl
  have ht := h.1
  obtain ⟨bb, off, cap, m, rfl, hm1, hm2, c0, c1⟩ := h.last
  replace c0 : w.cell? ⟨bb, off + m * 2, none⟩ = some (.int .i64 4) := c0
  replace c1 : w.cell? ⟨bb, off + m * 2 + 1, none⟩ = some (.int .i64 0) := c1
  have hm60 : m ≤ 60 := by omega
  have hI : IntKind.i64.wrap ((m + 1 : Nat) - 1 : Int) = (m : Int) := by rw [show (((m + 1 : Nat) : Int) - 1) = (m : Int) by omega]; exact IntWalk.i64_in _ (by omega)
  have hlt : (m : Int) < (m : Int) + 1 := by omega
  have HC : Hid (∀ w', Below w.heap.size w w' → w'.cell? ⟨bb, off + m * 2, none⟩ = some (.int .i64 4) ∧ w'.cell? ⟨bb, off + m * 2 + 1, none⟩ = some (.int .i64 0)) := Lib.hid (fun w' k => ⟨kpB (S := fun _ => True) k _ _ trivial c0, kpB (S := fun _ => True) k _ _ trivial c1⟩)
  obtain ⟨W0, hW0⟩ : ∃ W0, W0 = w.alloc (.cells #[.int .i64 1, .int .i64 0] 67) := ⟨_, rfl⟩
  have hB0 : Below w.heap.size w W0 := by rw [hW0]; exact (Below.refl _ _).alloc (Nat.le_refl _) _
  have HN0 : Hid (OwnP W0 w.heap.size (.slice (some ⟨w.heap.size, 0, none⟩) 1 1) [(1, 0)]) := Lib.hid (by rw [hW0]; exact ownLit [.int .i64 1, .int .i64 0] (Nat.le_refl _) (by omega) rfl)
  have HH0 := Lib.hid (h.stay hB0)
  have HSP := Lib.hid (l2Split2_c _ a.flat b 4 0 W0 ht.2 (h.stay hB0).2 (by decide) (by decide) hla a.flat_pos)
  have HB0 := Lib.hid hB0
  have HW0 := Lib.hid hW0
  have HWA := Lib.hid ht.1; have HWB := Lib.hid ht.2
  have IA := Lib.hid iha; have IB := Lib.hid ihb
  obtain ⟨R, hR⟩ : ∃ R, R = Re.der c (.join a b) := ⟨_, rfl⟩
  obtain ⟨X, hX⟩ : ∃ X, X = (a.der c).mkJoin b.smp := ⟨_, rfl⟩
  have HRX : Hid (R = if a.nul then X.mkEither (b.der c) else X) := Lib.hid (by rw [hR, hX]; rfl)
  have HL5 : Hid (L5 4 0 (a.der c).flat b.smp.flat X) := Lib.hid (by rw [hX]; exact l5j (der_wf c ht.1) (smp_wf ht.2))
  have HXW : Hid X.wf := Lib.hid HL5.out.1
  have HL5E : Hid (L5 5 0 X.flat (b.der c).flat (X.mkEither (b.der c))) := Lib.hid (l5e 5 (by decide) HXW.out (der_wf c ht.2) rfl)
  have hxl : X.len ≤ 20000 := by rw [hX]; have h0 := len_mkJoin (a.der c) b.smp; have h1 := len_der c a; have h2 : a.len * a.len ≤ 60 * 60 := Nat.mul_le_mul (by unfold Re.len; omega) (by unfold Re.len; omega); have h8 := len_smp b; unfold Re.len at *; omega
  have HLS : Hid ((a.der c).flat.length + b.smp.flat.length ≤ 1000000) := Lib.hid (by have h1 := len_der c a; have h2 : a.len * a.len ≤ 60 * 60 := Nat.mul_le_mul (by unfold Re.len; omega) (by unfold Re.len; omega); have h8 := len_smp b; unfold Re.len at *; omega)
  have HLE : Hid (X.flat.length + (b.der c).flat.length ≤ 1000000) := Lib.hid (by have h3 := len_der c b; have h4 : b.len * b.len ≤ 60 * 60 := Nat.mul_le_mul (by unfold Re.len; omega) (by unfold Re.len; omega); unfold Re.len at *; omega)
  have HLA : Hid (a.flat.length ≤ 900) := Lib.hid (by omega)
  have HLB : Hid (b.len ≤ 900) := Lib.hid (by unfold Re.len; omega)
  have HLR : Hid (R.len ≤ 1000000) := Lib.hid (by rw [hR]; have h1 := len_der c (Re.join a b); have h2 : (Re.join a b).len * (Re.join a b).len ≤ 60 * 60 := Nat.mul_le_mul (by unfold Re.len; omega) (by unfold Re.len; omega); omega)
  have HE := Lib.hid hR
  clear h c0 c1 hm1 hm2 hB0 hW0 ht hR hX hxl iha ihb hl hla hmm
  go_enter Try.func89, Try.ntmps89
  go_wp2_with fail
  rw [← HW0.out]
  refine HSP.out.mono ?_
  rintro e ws ⟨va, vb, rfl, hbs, hva, hvb⟩
  have HBs := Lib.hid (HB0.out.trans (hbs.mono HB0.out.size))
  have HHs := Lib.hid (HH0.out.stay hbs)
  have HNs := Lib.hid (HN0.out.stay hbs)
  obtain ⟨aa, ca, rfl, _⟩ := hva.out.shape
  obtain ⟨ab, cb, rfl, _⟩ := hvb.out.shape
  obtain ⟨d0, d1⟩ := HC.out ws HBs.out
  obtain ⟨W, hW⟩ : ∃ W, W = ws.alloc (.cells #[.int .i64 4, .int .i64 0] 67) := ⟨_, rfl⟩
  have hbW : Below ws.heap.size ws W := by rw [hW]; exact (Below.refl _ _).alloc (Nat.le_refl _) _
  have KW : Hid (W.heap[ws.heap.size]? = some (.cells #[.int .i64 4, .int .i64 0] 67 (0, 0))) := Lib.hid (by rw [hW]; exact blkNew _ _ rfl)
  have HBW := Lib.hid (HBs.out.trans (hbW.mono HBs.out.size))
  have HHW := Lib.hid (HHs.out.stay hbW)
  have HNW := Lib.hid (HNs.out.stay hbW)
  have HAW : Hid (PR W _ a) := Lib.hid ((PR.of HWA.out hva.out hbs).stay hbW)
  have HBB : Hid (PR W _ b) := Lib.hid ((PR.of HWB.out hvb.out hbs).stay hbW)
  have HWW := Lib.hid hW
  obtain ⟨q0, q1, f0, f1⟩ := blk2 KW.out
  clear hva hvb hbs hbW hW HSP HC HH0 HN0 HHs HNs
  rw [HWW.out] at q0 q1 f0 f1
  go_wp2_with fail
  rw [← HWW.out] at q0 q1 f0 f1 ⊢
  have KD : Hid (W.drew.cell? ⟨ws.heap.size, 0, none⟩ = some (.int .i64 4) ∧ W.drew.cell? ⟨ws.heap.size, 1, none⟩ = some (.int .i64 0)) := ⟨q0, q1⟩
  have HD1 := Lib.hid (HAW.out.stay (Below.refl _ _).drew); have HD2 := Lib.hid (HBB.out.stay (Below.refl _ _).drew)
  clear q0 q1 f0 f1 HWW d0 d1
  go_region_held3 (fun w' => w'.cell? ⟨ws.heap.size, 0, none⟩ = some (.int .i64 4) ∧ w'.cell? ⟨ws.heap.size, 1, none⟩ = some (.int .i64 0))
    (first | exact KD.out | exact ⟨kpB (S := fun _ => True) hb2 _ _ trivial KD.out.1, kpB (S := fun _ => True) hb2 _ _ trivial KD.out.2⟩ | exact ⟨kpB (S := fun _ => True) hb4 _ _ trivial KD.out.1, kpB (S := fun _ => True) hb4 _ _ trivial KD.out.2⟩ | exact ⟨kpB (S := fun _ => True) hb3 _ _ trivial KD.out.1, kpB (S := fun _ => True) hb3 _ _ trivial KD.out.2⟩)
    (first
      | (go_at_call 89
         (with_reducible refine (IA.out W.drew _ HD1.out).mono ?_)
         rintro e w2 ⟨v2, rfl, hb2, ho2⟩
         have hpa := ho2.out.pr (der_wf c HWA.out)
         obtain ⟨aA, cA, rfl, _⟩ := hpa.shape)
      | (go_at_call 125
         (with_reducible refine (l5Simple_c b HWB.out HLB.out w2 _ (HD2.out.stay hb2)).mono ?_)
         rintro e w3 ⟨v3, rfl, hb3', ho3⟩
         have hb3 := hb2.trans (hb3'.mono hb2.size)
         have hpb := ho3.out.pr (smp_wf HWB.out)
         obtain ⟨aB, cB, rfl, _⟩ := hpb.shape)
      | (go_at_call 105
         have hp1 := (hpa.stay hb3').2
         have hp2 := hpb.2
         (with_reducible refine (l5Make_c _ _ _ _ _ HL5.out _ _ w3 hp1 hp2 HLS.out).mono ?_)
         rintro e w4 ⟨v4, rfl, hb4', hpc⟩
         have hb4 := hb3.trans (hb4'.mono hb3.size)
         obtain ⟨aC, cC, rfl, _⟩ := hpc.out.shape))
  have HB4 := Lib.hid (HBW.out.trans (((Below.refl _ _).drew.trans hb4).mono HBW.out.size))
  have HP1 := Lib.hid (HD1.out.stay hb4); have HP2 := Lib.hid (HD2.out.stay hb4)
  clear HD1 HD2 KD hb2 hb3 hb3' hb4 hb4' hpa hpb ho2 ho3
  go_wp2_with fail
  refine (l2Empty_c a HWA.out HLA.out _ w4 HP1.out.any).mono ?_
  rintro e w5 ⟨rfl, hb5⟩
  have HP2 := Lib.hid (HP2.out.stay hb5)
  have HPC := Lib.hid (hpc.out.stay hb5)
  have HB5 := Lib.hid (HB4.out.trans (hb5.mono HB4.out.size))
  generalize a.nul = q at *
  cases q
  · rw [if_neg (by decide)] at HRX
    have HY : X.flat.length ≤ 1000000 := by have := HLE.out; omega
    obtain ⟨Z, hZ⟩ : ∃ Z, Z = w5.alloc (.cells #[] 67) := ⟨_, rfl⟩
    have hbZ : Below w5.heap.size w5 Z := by rw [hZ]; exact (Below.refl _ _).alloc (Nat.le_refl _) _
    have HOZ : Hid (OwnP Z w5.heap.size (.slice (some ⟨w5.heap.size, 0, none⟩) 0 0) []) := Lib.hid (by rw [hZ]; exact ownLit (n := 0) [] (Nat.le_refl _) (by omega) rfl)
    have HPZ := Lib.hid (HPC.out.stay hbZ)
    have hbs := hbZ.size
    have hl5 := HLR.out
    have HZZ := Lib.hid hZ
    have hl6 : ∀ Y : Re, Hid (R = Y) → Y.flat.length ≤ 1000000 := fun Y h => by rw [← h.out]; exact hl5
    have hl7 := HY
    clear hZ
    go_wp2_with (rw [← HZZ.out]; at_builtin; refine appMany (S := PT Z) elPart (by decide) rfl (.tmp 50) (.tmp 51) rfl w5.heap.size _ _ 0 _ [] (cells2 _) Z rfl rfl HOZ.out HPZ.out.2 (by rw [length_cells2]; omega) (cells2_one _) (by omega) hbs ?_; intro v2 w2' h2 hg2)
    have hbz : Below w5.heap.size w5 w2' := hbZ.grown hg2 hbs (fun k hk => (World.ownsRow.lt HOZ.out k hk).1)
    go_ret
    exact ROx.mk (HB5.out.trans (hbz.mono HB5.out.size)) (by rw [← HE.out, HRX.out]; exact ownBase (ownCopy h2.out rfl) HB5.out.size)
  · rw [if_pos rfl] at HRX
    go_wp2_with fail
    refine (IB.out w5 _ HP2.out).mono ?_
    rintro e w6 ⟨v6, rfl, hb6, ho6⟩
    have HP6 := Lib.hid (ho6.out.pr (der_wf c HWB.out))
    obtain ⟨aD, cD, rfl, _⟩ := HP6.out.shape
    have HPX := Lib.hid (HPC.out.stay hb6)
    have HB6 := Lib.hid (HB5.out.trans (hb6.mono HB5.out.size))
    go_wp2_with fail
    refine (l5Make_c _ _ _ _ _ HL5E.out _ _ w6 HPX.out.2 HP6.out.2 HLE.out).mono ?_
    rintro e w7 ⟨v7, rfl, hb7, hp7⟩
    obtain ⟨aE, cE, rfl, _⟩ := hp7.out.shape
    have HB7 := Lib.hid (HB6.out.trans (hb7.mono HB6.out.size))
    have HY : (X.mkEither (b.der c)).flat.length ≤ 1000000 := by have := HLR.out; rw [HRX.out] at this; exact this
    obtain ⟨Z, hZ⟩ : ∃ Z, Z = w7.alloc (.cells #[] 67) := ⟨_, rfl⟩
    have hbZ : Below w7.heap.size w7 Z := by rw [hZ]; exact (Below.refl _ _).alloc (Nat.le_refl _) _
    have HOZ : Hid (OwnP Z w7.heap.size (.slice (some ⟨w7.heap.size, 0, none⟩) 0 0) []) := Lib.hid (by rw [hZ]; exact ownLit (n := 0) [] (Nat.le_refl _) (by omega) rfl)
    have HPZ := Lib.hid (hp7.out.stay hbZ)
    have hbs := hbZ.size
    have hl5 := HLR.out
    have HZZ := Lib.hid hZ
    have hl6 : ∀ Y : Re, Hid (R = Y) → Y.flat.length ≤ 1000000 := fun Y h => by rw [← h.out]; exact hl5
    have hl7 := HY
    clear hZ
    go_wp2_with (rw [← HZZ.out]; at_builtin; refine appMany (S := PT Z) elPart (by decide) rfl (.tmp 50) (.tmp 51) rfl w7.heap.size _ _ 0 _ [] (cells2 _) Z rfl rfl HOZ.out HPZ.out.2 (by rw [length_cells2]; omega) (cells2_one _) (by omega) hbs ?_; intro v2 w2' h2 hg2)
    have hbz : Below w7.heap.size w7 w2' := hbZ.grown hg2 hbs (fun k hk => (World.ownsRow.lt HOZ.out k hk).1)
    go_ret
    exact ROx.mk (HB7.out.trans (hbz.mono HB7.out.size)) (by rw [← HE.out, HRX.out]; exact ownBase (ownCopy h2.out rfl) HB7.out.size)
theorem l6Derive_c (t : Re) (c : Int) : t.wf → t.len ≤ 60 → ∀ (w : World) (v : Value), PR w v t → Calls Try.prog 89 #[v, .int .i64 c] w (ROx w (t.der c)) := by
  induction t with
  | none => exact fun _ _ w v h => lde_none c v w h
  | empty => exact fun _ _ w v h => lde_empty c v w h
  | letter d => exact fun _ _ w v h => lde_letter d c v w h
  | join a b iha ihb => exact fun ht hl w v h => lde_join a b c (by rw [len_join] at hl; omega) (iha ht.1 (by rw [len_join] at hl; omega)) (ihb ht.2 (by rw [len_join] at hl; omega)) v w h
  | either a b iha ihb => exact fun ht hl w v h => lde_either a b c (by rw [len_either] at hl; omega) (iha ht.1 (by rw [len_either] at hl; omega)) (ihb ht.2 (by rw [len_either] at hl; omega)) v w h
  | both a b iha ihb => exact fun ht hl w v h => lde_both a b c (by rw [len_both] at hl; omega) (iha ht.1 (by rw [len_both] at hl; omega)) (ihb ht.2 (by rw [len_both] at hl; omega)) v w h
  | not a iha => exact fun ht hl w v h => lde_not a c (by rw [len_not] at hl; omega) (iha ht (by rw [len_not] at hl; omega)) v w h
  | star a iha => exact fun ht hl w v h => lde_star a c (by rw [len_star] at hl; omega) (iha ht (by rw [len_star] at hl; omega)) v w h
end Go.Proofs.Ytbcjhiponbfbnaa
namespace Go.Proofs.Ytbcjhiponbfbnaa
open Go.RowKit
set_option maxRecDepth 100000
variable {S T : Nat → Prop}
/-- The call answers an expression and that it is possible, or no parts. -/
def REs (w : World) (o : Option Re) (e : Ending) (w' : World) : Prop := ∃ (v : Value) (b : Bool), e = .returned (.tuple #[v, .bool b]) ∧ Below w.heap.size w w' ∧ Hid (b = o.isSome) ∧ Hid (∀ t, o = some t → PR w' v t) ∧ Hid (o = none → PL0 w' v [])
theorem pl0Lit (w : World) : PL0 (w.alloc (.cells #[] 67)) (.slice (some ⟨w.heap.size, 0, none⟩) 0 0) [] :=
  OwnP.pl0 (base := w.heap.size) (xs := []) (ownLit (n := 0) [] (Nat.le_refl _) (by omega) rfl)
theorem belLit (w : World) (o : Obj) : Below w.heap.size w (w.alloc o) := (Below.refl _ _).alloc (Nat.le_refl _) _
set_option maxHeartbeats 800000 in
theorem sDerive_c (t : Re) (c : Int) (hc : 0 ≤ c ∧ c ≤ 2) (ht : t.len ≤ 60) (u : Value) (w : World) (h : PR w u t) : Calls Try.prog 46 #[u, .int .i64 c] w (REs w (der1 c t)) := by
  obtain ⟨a, cap, rfl, hn⟩ := h.shape
  have hok : ExprOk t.flat := (exprOk_iff _).2 ⟨t, h.1, rfl, ht⟩
  have H := Lib.hid h; have HT := Lib.hid ht; have HO := Lib.hid hok; have HC := Lib.hid hc
  clear h ht hok hc
  go_enter Try.func46, Try.ntmps46
  go_wp2_with fail
  refine (sExprValid_c _ t.flat w H.out.2 (by have := HT.out; unfold Re.len at this; omega)).mono ?_
  rintro x w1 ⟨b1, rfl, hb1, hv⟩
  obtain rfl : b1 = true := hv.out.2 HO.out
  clear hv
  have H1 := Lib.hid (H.out.stay hb1)
  have HB1 := Lib.hid hb1; clear hb1
  go_wp2_with fail
  refine (l1In_c c 0 2 w1).mono ?_
  rintro x w2 ⟨b2, rfl, rfl, hv⟩
  obtain rfl : b2 = true := hv.out.2 HC.out
  clear hv
  go_wp2_with fail
  refine (l6Derive_c t c H1.out.1 HT.out w1 _ H1.out).mono ?_
  rintro x w2 ⟨v2, rfl, hb2, ho2⟩
  have hp2 := Lib.hid (ho2.out.pr (der_wf c H1.out.1))
  have HB2 := Lib.hid (HB1.out.trans (hb2.mono HB1.out.size))
  obtain ⟨a2, c2, rfl, hn2⟩ := hp2.out.shape
  have hD : Hid (der1 c t = if (t.der c).len ≤ 60 then some (t.der c) else none) := Lib.hid rfl
  have hq : (t.der c).len = (t.der c).flat.length := rfl
  obtain ⟨q, hq2⟩ : ∃ q, q = (t.der c).flat.length := ⟨_, rfl⟩
  rw [hq] at hD
  rw [← hq2] at hD hn2 hp2 ⊢
  clear hb2 hq hq2 ho2
  by_cases hl : q ≤ 60
  · rw [if_pos hl] at hD
    have hlI : ¬ ((60 : Int) < (q : Int)) := by omega
    go_wp2
    refine bodyPost_ret (results_tmp2 rfl _ _ _) rfl ?_
    exact ⟨_, true, rfl, HB2.out, by rw [hD.out]; exact Lib.hid rfl, Lib.hid (fun t' e => by rw [hD.out] at e; cases e; exact hp2.out), Lib.hid (fun e => by rw [hD.out] at e; cases e)⟩
  · rw [if_neg hl] at hD
    have hlI : ((60 : Int) < (q : Int)) := by omega
    go_wp2
    refine bodyPost_ret (results_tmp2 rfl _ _ _) rfl ?_
    exact ⟨_, false, rfl, HB2.out.trans ((belLit _ _).mono HB2.out.size), by rw [hD.out]; exact Lib.hid rfl, Lib.hid (fun t' e => by rw [hD.out] at e; cases e), Lib.hid (fun _ => pl0Lit _)⟩
set_option maxHeartbeats 1600000 in
theorem sDeriveWord_yes (t : Re) (ht : t.wf) (hl : t.len ≤ 60) (s : ByteArray) (hs : letS s ∧ s.size ≤ 8) (v : Value) (w : World) (h : Pairs S w v t.flat) : Calls Try.prog 10 #[v, .string s] w (REs w (derW (ltrs s) t)) := by
  obtain ⟨a, cap, rfl, hn⟩ := h.shape
  have hok : ExprOk t.flat := (exprOk_iff _).2 ⟨t, ht, rfl, hl⟩
  have hsm : s.size ≤ maxLen := by have := hs.2; unfold maxLen; omega
  have h8 := hs.2
  have H := Lib.hid h; have HT := Lib.hid ht; have HL := Lib.hid hl; have HO := Lib.hid hok; have HS := Lib.hid hs.1
  have HLL := ltrs_len s
  obtain ⟨L, hL⟩ : ∃ L, L = ltrs s := ⟨_, rfl⟩
  rw [← hL] at HLL ⊢
  have HLS := Lib.hid hL
  have HLN := Lib.hid HLL
  clear h ht hl hok hL HLL hs
  go_enter Try.func10, Try.ntmps10
  go_wp2_with fail
  refine (sExprValid_c _ t.flat w H.out (by have := HL.out; unfold Re.len at this; omega)).mono ?_
  rintro x w1 ⟨b1, rfl, hb1, hv⟩
  obtain rfl : b1 = true := hv.out.2 HO.out
  clear hv
  have H1 := Lib.hid (H.out.stay (kpB hb1))
  have HB1 := Lib.hid hb1; clear hb1 H
  go_wp2_with fail
  refine (sWordValid_c s w1 hsm).mono ?_
  rintro x w2 ⟨b2, rfl, rfl, hv⟩
  obtain rfl : b2 = true := hv.out.2 ⟨HS.out, h8⟩
  clear hv
  obtain ⟨Z, hZ⟩ : ∃ Z, Z = w1.alloc (.cells #[] 67) := ⟨_, rfl⟩
  have hbZ : Below w1.heap.size w1 Z := by rw [hZ]; exact belLit _ _
  have HOZ : Hid (OwnP Z w1.heap.size (.slice (some ⟨w1.heap.size, 0, none⟩) 0 0) []) := Lib.hid (by rw [hZ]; exact ownLit (n := 0) [] (Nat.le_refl _) (by omega) rfl)
  have HPZ := Lib.hid (H1.out.stay (kpB hbZ))
  have hbs := hbZ.size
  have hl5 : t.flat.length ≤ 60 := HL.out
  have HZZ := Lib.hid hZ
  have HbZ := Lib.hid hbZ
  clear hZ hbZ H1
  go_wp2_with (rw [← HZZ.out]; at_builtin; refine appMany (S := S) elPart (by decide) rfl (.tmp 19) (.tmp 20) rfl w1.heap.size _ _ 0 _ [] (cells2 _) Z rfl rfl HOZ.out HPZ.out (by rw [length_cells2]; omega) (cells2_ones _) (by omega) hbs ?_; intro v2 w2 h2 hg2; have HP2 := Lib.hid ((ownCopy h2.out rfl).pr HT.out); have HB2 := Lib.hid (HB1.out.trans ((HbZ.out.grown hg2 hbs (fun k hk => (World.ownsRow.lt HOZ.out k hk).1)).mono HB1.out.size)))
  clear h2 hg2 HOZ HPZ HB1 hsm HZZ HbZ hbs hl5
  go_loopw [6, 7] (fun x i wr => ∃ (k : Nat) (u : Re), k ≤ s.size ∧ i = .int .i64 k ∧ Hid (derW (L.take k) t = some u) ∧ Hid (u.len ≤ 60) ∧ Hid (Below w.heap.size w wr) ∧ Hid (PR wr x u)) (fun _ i _ => s.size - (intOf i).toNat)
  case atStart => exact ⟨0, t, by omega, rfl, Lib.hid rfl, HL, HB2, HP2⟩
  case round =>
    obtain ⟨k, u, hk, rfl, HD, HU, HB, HP⟩ := hrel
    clear HP2 HB2
    obtain ⟨ax, cx, rfl, _⟩ := HP.out.shape
    by_cases hlt : k < s.size
    · have HK := Lib.hid (derW_take (by rw [HLN.out]; exact hlt) HD.out)
      have hb97 := HS.out k hlt
      have h97 : (97 : Int) ≤ (s[k].toNat : Int) := hb97.1
      have h99 : (s[k].toNat : Int) ≤ 99 := hb97.2
      have hcw : IntKind.u8.wrap ((s[k].toNat : Int) - 97) = (s[k].toNat : Int) - 97 := by unfold IntKind.wrap; simp [IntKind.bits, IntKind.signed]; omega
      obtain ⟨c, hc⟩ : ∃ c : Int, c = (s[k].toNat : Int) - 97 := ⟨_, rfl⟩
      have hc0 : 0 ≤ c ∧ c ≤ 2 := by omega
      have HKc : Hid (derW (L.take (k + 1)) t = der1 c u) := Lib.hid (by rw [HK.out, HLS.out, ltrs_at hlt, ← hc])
      rw [← hc] at hcw
      have HC0 := Lib.hid hc0
      go_wp2_with fail
      rw [← hc]
      clear h97 h99 hb97 hcw hc hc0 HK
      refine (sDerive_c u c HC0.out HU.out _ wr HP.out).mono ?_
      rintro e w4 ⟨v4, b4, rfl, hb4, hi4, hs4, hn4⟩
      have HB4 := Lib.hid (HB.out.trans (hb4.mono HB.out.size))
      rcases hd1 : der1 c u with _ | u'
      · rw [hd1] at hi4 hn4 HKc
        obtain rfl : b4 = false := hi4.out
        obtain ⟨a4, c4, rfl, _⟩ := Pairs.shape (hn4.out rfl)
        have HN := Lib.hid (derW_stop HKc.out)
        clear hd1 hi4 hs4 hn4 HKc
        go_wp2
        refine bodyPost_ret (results_tmp2 rfl _ _ _) rfl ?_
        exact ⟨_, false, rfl, HB4.out.trans ((belLit _ _).mono HB4.out.size), by rw [HN.out]; exact Lib.hid rfl, Lib.hid (fun t' e => by rw [HN.out] at e; cases e), Lib.hid (fun _ => pl0Lit _)⟩
      · rw [hd1] at hi4 hs4 HKc
        obtain rfl : b4 = true := hi4.out
        have HP4 := Lib.hid (hs4.out u' rfl)
        have HU4 : Hid (u'.len ≤ 60) := Lib.hid (by unfold der1 at hd1; split at hd1; · rename_i h; cases hd1; exact h
                                                    · cases hd1)
        obtain ⟨a4, c4, rfl, _⟩ := HP4.out.shape
        clear hd1 hi4 hs4 hn4
        go_wp2
        go_roundw
        case rel => exact ⟨k + 1, u', by omega, by go_num, HKc, HU4, HB4, HP4⟩
        case measure => simp [intOf]; omega
    · obtain rfl : k = s.size := by omega
      have HF : Hid (derW L t = some u) := Lib.hid (by have := HD.out; rw [← HLN.out, List.take_length] at this; exact this)
      clear HD
      go_wp2
      refine bodyPost_ret (results_tmp2 rfl _ _ _) rfl ?_
      exact ⟨_, true, rfl, HB.out, by rw [HF.out]; exact Lib.hid rfl, Lib.hid (fun t' e => by rw [HF.out] at e; cases e; exact HP.out), Lib.hid (fun e => by rw [HF.out] at e; cases e)⟩
theorem sDeriveWord_no (e : List (Int × Int)) (he : e.length ≤ 1048576) (s : ByteArray) (hsm : s.size ≤ maxLen) (hno : ¬ (ExprOk e ∧ letS s ∧ s.size ≤ 8)) (v : Value) (w : World) (h : Pairs S w v e) : Calls Try.prog 10 #[v, .string s] w (REs w none) := by
  obtain ⟨a, cap, rfl, hn⟩ := h.shape
  have H := Lib.hid h; have HN := Lib.hid hno; clear h hno
  go_enter Try.func10, Try.ntmps10
  go_wp2_with fail
  refine (sExprValid_c _ e w H.out he).mono ?_
  rintro x w1 ⟨b1, rfl, hb1, hv⟩
  cases b1
  · clear hv
    go_wp2
    refine bodyPost_ret (results_tmp2 rfl _ _ _) rfl ?_
    exact ⟨_, false, rfl, hb1.trans ((belLit _ _).mono hb1.size), Lib.hid rfl, Lib.hid (fun t' e => by cases e), Lib.hid (fun _ => pl0Lit _)⟩
  · have HO := Lib.hid (hbT hv); clear hv
    go_wp2_with fail
    refine (sWordValid_c s w1 hsm).mono ?_
    rintro x w2 ⟨b2, rfl, rfl, hv⟩
    cases b2
    · clear hv
      go_wp2
      refine bodyPost_ret (results_tmp2 rfl _ _ _) rfl ?_
      exact ⟨_, false, rfl, hb1.trans ((belLit _ _).mono hb1.size), Lib.hid rfl, Lib.hid (fun t' e => by cases e), Lib.hid (fun _ => pl0Lit _)⟩
    · exact absurd ⟨HO.out, hbT hv⟩ HN.out
end Go.Proofs.Ytbcjhiponbfbnaa

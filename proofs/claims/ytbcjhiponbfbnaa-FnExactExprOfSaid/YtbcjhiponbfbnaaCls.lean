/- Classes of states: the reference's. -/
import Derived.Laws.OwnMore
import Derived.Test.YtbcjhiponbfbnaaGG
set_option linter.unusedSimpArgs false
set_option linter.unusedVariables false
set_option linter.unusedSectionVars false
namespace Go.Proofs.Ytbcjhiponbfbnaa
open Go.RowKit
set_option maxRecDepth 100000
variable {S T : Nat → Prop}
/-- f numbers the classes of round k. -/
def krn (D : DfaD) (k : Nat) (f : Nat → Nat) : Prop := ∀ s t, s < D.1.length → t < D.1.length → (f s = f t ↔ eqv D k s t)
theorem krn_zero (D : DfaD) : krn D 0 (fun s => if de D s then 1 else 0) := fun s t _ _ => by
  rw [eqv_zero]
  show (if de D s = true then 1 else 0) = (if de D t = true then 1 else 0) ↔ de D s = de D t
  generalize de D s = x
  generalize de D t = y
  cases x <;> cases y <;> simp
theorem krn_fc (D : DfaD) (k : Nat) : krn D k (fc D k) := fun _ _ _ _ => fc_same D
theorem krn_step {D : DfaD} (hD : okD D) {k : Nat} {f : Nat → Nat} (h : krn D k f) {s t : Nat} (hs : s < D.1.length) (ht : t < D.1.length) :
    eqv D (k + 1) s t ↔ f s = f t ∧ f (dn D s 0) = f (dn D t 0) ∧ f (dn D s 1) = f (dn D t 1) ∧ f (dn D s 2) = f (dn D t 2) := by
  rw [eqv_succ, h s t hs ht, h _ _ (dn_lt hD hs (by omega)) (dn_lt hD ht (by omega)), h _ _ (dn_lt hD hs (by omega)) (dn_lt hD ht (by omega)), h _ _ (dn_lt hD hs (by omega)) (dn_lt hD ht (by omega))]
/-- Nothing has changed: the classes are those of the languages. -/
theorem krn_end {D : DfaD} (hD : okD D) {k : Nat} {f : Nat → Nat} (h : krn D k f) (he : ∀ s t, s < D.1.length → t < D.1.length → eqv D k s t → eqv D (k + 1) s t) {s t : Nat} (hs : s < D.1.length) (ht : t < D.1.length) :
    f s = f t ↔ cls D s = cls D t := by
  rw [h s t hs ht, cls_same]
  exact ⟨eqv_stable D hD he hs ht, eqv_of_lg D⟩
/-- Something has changed: there are more classes. -/
theorem krn_lt {D : DfaD} {k : Nat} (he : ¬ ∀ s t, s < D.1.length → t < D.1.length → eqv D k s t → eqv D (k + 1) s t) : nc D k < nc D (k + 1) := by
  refine nc_lt D fun hh => he fun s t hs ht h => ?_
  exact fc_stable_eqv D hh hs ht h
/-- The first k numbers. -/
def fK (k : Nat) (f : Nat → Nat) : List Value := (List.range k).map fun s => .int .i64 ((f s : Nat) : Int)
theorem fK_len (k : Nat) (f : Nat → Nat) : (fK k f).length = k := by simp [fK]
theorem fK_succ (k : Nat) (f : Nat → Nat) : fK (k + 1) f = fK k f ++ [.int .i64 ((f k : Nat) : Int)] := by simp [fK, List.range_succ]
theorem fK_get {k s : Nat} (f : Nat → Nat) (h : s < k) : (fK k f)[s]? = some (.int .i64 ((f s : Nat) : Int)) := by simp [fK, h]
theorem fK_fL (D : DfaD) (f : Nat → Nat) : fK D.1.length f = (fL D f).map (.int .i64 ·) := by simp [fK, fL]
/-- What the search for an earlier state of the same class has found. -/
def fnd (D : DfaD) (k s j x : Nat) : Prop := (x = s ∧ ∀ t, j ≤ t → t < s → ¬ eqv D k t s) ∨ x = fc D k s
theorem fnd_start (D : DfaD) (k s : Nat) : fnd D k s s s := .inl ⟨rfl, fun t h1 h2 => by omega⟩
theorem fnd_no {D : DfaD} {k s j x : Nat} (h : fnd D k s (j + 1) x) (hn : ¬ eqv D k j s) : fnd D k s j x := by
  rcases h with ⟨e, h⟩ | h
  · refine .inl ⟨e, fun t h1 h2 => ?_⟩
    rcases Nat.eq_or_lt_of_le h1 with rfl | h1
    · exact hn
    · exact h t h1 h2
  · exact .inr h
theorem fnd_yes {D : DfaD} {k s j : Nat} (hy : eqv D k j s) : fnd D k s j (fc D k j) := .inr ((fc_same D).2 hy)
theorem fnd_end {D : DfaD} {k s x : Nat} (h : fnd D k s 0 x) : x = fc D k s := by
  rcases h with ⟨e, h⟩ | h
  · subst e
    exact (fc_eq D (eqv_refl D k x) fun j hj => h j (by omega) hj).symm
  · exact h
/-- Two states whose equality has changed. -/
def chg (f F : Nat → Nat) (j i : Nat) : Prop := ¬ (f j = f i ↔ F j = F i)
theorem krn_stop {D : DfaD} {k : Nat} {f : Nat → Nat} (h : krn D k f) (hn : ¬ ∃ i j, j < i ∧ i < D.1.length ∧ chg f (fc D (k + 1)) j i) :
    ∀ s t, s < D.1.length → t < D.1.length → eqv D k s t → eqv D (k + 1) s t := by
  have key : ∀ s t, s < t → t < D.1.length → eqv D k s t → eqv D (k + 1) s t := fun s t hst ht he => by
    by_cases hc : chg f (fc D (k + 1)) s t
    · exact absurd ⟨t, s, hst, ht, hc⟩ hn
    · have := Classical.not_not.1 hc
      exact (fc_same D).1 (this.1 ((h s t (by omega) ht).2 he))
  intro s t hs ht he
  rcases Nat.lt_trichotomy s t with h1 | rfl | h1
  · exact key s t h1 ht he
  · exact eqv_refl D _ _
  · exact eqv_symm D (key t s h1 hs (eqv_symm D he))
theorem krn_more {D : DfaD} {k : Nat} {f : Nat → Nat} (h : krn D k f) (hn : ∃ i j, j < i ∧ i < D.1.length ∧ chg f (fc D (k + 1)) j i) : nc D k < nc D (k + 1) := by
  refine krn_lt fun he => ?_
  obtain ⟨i, j, h1, h2, h3⟩ := hn
  refine h3 ⟨fun e => (fc_same D).2 (he j i (by omega) h2 ((h j i (by omega) h2).1 e)), fun e => (h j i (by omega) h2).2 ?_⟩
  exact ((eqv_succ D).1 ((fc_same D).1 e)).1
theorem own_fK {w : World} {base g n cap : Nat} {f : Nat → Nat} (ho : w.ownsRow base 3 1 (.slice (some ⟨g, 0, none⟩) n cap) n (fK n f)) {s : Nat} (hs : s < n) :
    w.cell? ⟨g, s, none⟩ = some (.int .i64 ((f s : Nat) : Int)) := by rw [ho.cellAt s (by omega), fK_get f hs]
theorem dint {a b : Nat} : decide (((a : Nat) : Int) = ((b : Nat) : Int)) = true ↔ a = b := by simp; omega
/-- The same class, and the first c moves lead to the same classes. -/
def sameC (D : DfaD) (f : Nat → Nat) (t s c : Nat) : Prop := f t = f s ∧ ∀ l, l < c → f (dn D t l) = f (dn D s l)
theorem sameC_zero (D : DfaD) (f : Nat → Nat) (t s : Nat) : sameC D f t s 0 ↔ f t = f s := ⟨fun h => h.1, fun h => ⟨h, fun l hl => absurd hl (Nat.not_lt_zero _)⟩⟩
theorem sameC_succ (D : DfaD) (f : Nat → Nat) (t s c : Nat) : sameC D f t s (c + 1) ↔ sameC D f t s c ∧ f (dn D t c) = f (dn D s c) := by
  constructor
  · intro h
    exact ⟨⟨h.1, fun l hl => h.2 l (by omega)⟩, h.2 c (by omega)⟩
  · intro h
    refine ⟨h.1.1, fun l hl => ?_⟩
    rcases Nat.lt_succ_iff_lt_or_eq.1 hl with h1 | rfl
    · exact h.1.2 l h1
    · exact h.2
theorem krn_same {D : DfaD} (hD : okD D) {k : Nat} {f : Nat → Nat} (h : krn D k f) {s t : Nat} (ht : t < D.1.length) (hs : s < D.1.length) : sameC D f t s 3 ↔ eqv D (k + 1) t s := by
  rw [krn_step hD h ht hs]
  constructor
  · intro h
    exact ⟨h.1, h.2 0 (by omega), h.2 1 (by omega), h.2 2 (by omega)⟩
  · intro h
    refine ⟨h.1, fun l hl => ?_⟩
    have : l = 0 ∨ l = 1 ∨ l = 2 := by omega
    rcases this with rfl | rfl | rfl
    · exact h.2.1
    · exact h.2.2.1
    · exact h.2.2.2
theorem bint {a b : Nat} : ((((a : Nat) : Int) == ((b : Nat) : Int)) = true) ↔ a = b := by simp; omega
theorem chg_bool (a b c d : Nat) : (((((a : Nat) : Int) == ((b : Nat) : Int)) != (((c : Nat) : Int) == ((d : Nat) : Int))) = true) ↔ ¬ (a = b ↔ c = d) := by
  have h1 := bint (a := a) (b := b)
  have h2 := bint (a := c) (b := d)
  rw [← h1, ← h2]
  generalize (((a : Nat) : Int) == ((b : Nat) : Int)) = x
  generalize (((c : Nat) : Int) == ((d : Nat) : Int)) = y
  cases x <;> cases y <;> decide
theorem chg_more {f F : Nat → Nat} {p : Nat} : (∃ i j, j < i ∧ i < p + 1 ∧ chg f F j i) ↔ (∃ i j, j < i ∧ i < p ∧ chg f F j i) ∨ ∃ j, j < p ∧ chg f F j p := by
  constructor
  · rintro ⟨i, j, h1, h2, h3⟩
    rcases Nat.lt_succ_iff_lt_or_eq.1 h2 with h | rfl
    · exact .inl ⟨i, j, h1, h, h3⟩
    · exact .inr ⟨j, h1, h3⟩
  · rintro (⟨i, j, h1, h2, h3⟩ | ⟨j, h1, h3⟩)
    · exact ⟨i, j, h1, by omega, h3⟩
    · exact ⟨p, j, h1, by omega, h3⟩
theorem chg_next {f F : Nat → Nat} {p q : Nat} {A : Prop} : (A ∨ ∃ j, j < q + 1 ∧ chg f F j p) ↔ ((A ∨ ∃ j, j < q ∧ chg f F j p) ∨ chg f F q p) := by
  constructor
  · rintro (h | ⟨j, h1, h2⟩)
    · exact .inl (.inl h)
    · rcases Nat.lt_succ_iff_lt_or_eq.1 h1 with h | rfl
      · exact .inl (.inr ⟨j, h, h2⟩)
      · exact .inr h2
  · rintro ((h | ⟨j, h1, h2⟩) | h)
    · exact .inl h
    · exact .inr ⟨j, by omega, h2⟩
    · exact .inr ⟨q, by omega, h⟩
set_option maxHeartbeats 4000000 in
theorem l10Classes_c (vn ve : Value) (D : DfaD) (w : World) (h : DfaR S w vn ve D) (hD : okD D) :
    Calls Try.prog 104 #[.agg #[vn, ve]] w (RVn w fun v w' => w'.ownsRow w.heap.size 3 1 v D.1.length (fK D.1.length (cls D))) := by
  obtain ⟨a, c, b, d, rfl, rfl, hn, hm⟩ := (h).shapes
  obtain ⟨W, hW⟩ : ∃ W, W = w.alloc (.cells #[.slice a D.1.length c, .slice b D.2.length d] 52) := ⟨_, rfl⟩
  have Hb0 : Hid (Below w.heap.size w W) := by rw [hW]; exact (Below.refl _ _).alloc (Nat.le_refl _) _
  have c0 : W.cell? ⟨w.heap.size, 0, none⟩ = some (.slice a D.1.length c) := by rw [hW, World.cell?_alloc_mark]; rfl
  have c1 : W.cell? ⟨w.heap.size, 1, none⟩ = some (.slice b D.2.length d) := by rw [hW, World.cell?_alloc_mark]; rfl
  have K0 : Hid (W.heap[w.heap.size]? = some (.cells #[.slice a D.1.length c, .slice b D.2.length d] 52 (0, 0))) := by rw [hW]; exact blkNew _ _ rfl
  have Hz : Hid (W.heap.size = w.heap.size + 1) := by rw [hW]; simp [Hid]
  have H := Lib.hid ((h).stay (kpB Hb0.out)); clear h
  have HW := Lib.hid hW; clear hW
  have HD := Lib.hid hD
  have hn40 : D.1.length ≤ 40 := hD.1.2
  have hn1 : 1 ≤ D.1.length := hD.1.1
  have Hdl := Lib.hid hD.2.1
  clear hD
  rw [HW.out] at c0 c1
  go_enter Try.func104, Try.ntmps104
  go_wp2_with fail
  clear c0 c1
  rw [← HW.out]
  have ho0 : Hid ((W.alloc (.cells #[] 3)).ownsRow W.heap.size 3 1 (.slice (some ⟨w.heap.size + 1, 0, none⟩) 0 0) 0 []) := by rw [← Hz.out]; exact ownLit [] (Nat.le_refl _) (by omega) rfl
  have hb0 : Below W.heap.size W (W.alloc (.cells #[] 3)) := (Below.refl _ _).alloc (Nat.le_refl _) _
  generalize W.alloc (.cells #[] 3) = w1 at *
  go_loopw [3, 4] (fun m i wr => ∃ k : Nat, k ≤ D.1.length ∧ i = .int .i64 k ∧ Below W.heap.size W wr ∧ Hid (wr.ownsRow W.heap.size 3 1 m k (fK k (fun s => if de D s then 1 else 0)))) (fun _ i _ => D.1.length - (intOf i).toNat)
  case atStart => exact ⟨0, by omega, rfl, hb0, ho0⟩
  case round =>
    clear hb0 ho0
    obtain ⟨k, hk, rfl, hb, ho⟩ := hrel
    obtain ⟨c0, c1, _, _⟩ := blk2 (blkBel hb K0.out)
    by_cases hlt : k < D.1.length
    · obtain ⟨be, oe, e1, he⟩ := (H.out.stay (kpB hb)).mark HD.out hlt
      cases e1
      have hkI : (k : Int) < (D.2.length : Int) := by rw [Hdl.out]; omega
      have hk2 : k < D.2.length := by rw [Hdl.out]; exact hlt
      obtain ⟨x, hx⟩ : ∃ x, x = de D k := ⟨_, rfl⟩
      have Hmk := Lib.hid (fun w' (hb : Below W.heap.size W w') => (H.out.stay (kpB hb)).mark HD.out hlt)
      rw [← hx] at he Hmk
      have Hf : Hid (fK (k + 1) (fun s => if de D s then 1 else 0) = fK k (fun s => if de D s then 1 else 0) ++ [.int .i64 (((if x then 1 else 0 : Nat) : Nat) : Int)]) := by rw [fK_succ, hx]; rfl
      clear hx
      have Hl1 := Lib.hid (fK_len k (fun s => if de D s then 1 else 0))
      generalize fK k (fun s => if de D s then 1 else 0) = l1 at *
      cases x
      all_goals (
        go_wp2_with (
          refine appAt elInt (by decide) rfl (.tmp 24) (.tmp 25) rfl W.heap.size _ _ _ [.int .i64 0] wr (B := wr.heap.size) rfl rfl rfl ho.out rfl (by simp [Value.oneCell']) (by omega) hb.size ?_
          intro v2 w2 ho2 hg2 hat2
          have hb2 : Below W.heap.size W w2 := hb.grown hg2 hb.size (fun b hb => (own_ge ho.out b hb).1)
          obtain ⟨g, cap, rfl, hgb, cur, hgg⟩ := own_some ho2.out (by omega)
          obtain ⟨c0', c1', _, _⟩ := blk2 (blkBel hb2 K0.out)
          obtain ⟨be', oe', e1, he'⟩ := Hmk.out w2 hb2
          cases e1
          have hcc := ho2.out.cellAt k (by omega)
          rw [List.getElem?_append_right (by have := Hl1.out; omega), Hl1.out, Nat.sub_self] at hcc
          simp only [List.getElem?_cons_zero] at hcc
          have hfz := ho2.out.frozenAt k))
      · go_roundw
        case rel => exact ⟨k + 1, by omega, by go_num, hb2, by rw [Hf.out]; exact ho2.out⟩
        case measure => simp [intOf]; omega
      · have ho3 := ho2.out.stored k (.int .i64 1)
        have hb3 := hb2.setCell (p := ⟨g, k, none⟩) hgb (.int .i64 1)
        go_roundw
        case rel => exact ⟨k + 1, by omega, by go_num, hb3, by
          rw [Hf.out]
          have e : (l1 ++ [Value.int .i64 0]).set k (.int .i64 1) = l1 ++ [.int .i64 1] := by
            rw [List.set_append_right _ _ (by have := Hl1.out; omega), Hl1.out, Nat.sub_self]; rfl
          rw [e] at ho3
          exact ho3.1⟩
        case measure => simp [intOf]; omega
    · obtain rfl : k = D.1.length := by omega
      have hkk : ¬ ((D.1.length : Int) < (D.1.length : Int)) := by omega
      go_wp2_with fail
      clear c0 c1 hlt hk hkk
      go_loopg [3, 5] (D.1.length + 1 - nc D 0) (fun m v3 v5 wr => ∃ (k : Nat) (f : Nat → Nat) (bb : Bool), v5 = .bool bb ∧ Below W.heap.size W wr ∧ Hid (wr.ownsRow W.heap.size 3 1 v3 D.1.length (fK D.1.length f)) ∧ Hid (krn D k f) ∧
        Hid (bb = true → D.1.length + 1 - nc D k ≤ m) ∧ Hid (bb = false → ∀ s t, s < D.1.length → t < D.1.length → (f s = f t ↔ cls D s = cls D t)))
      case atStart => exact ⟨0, _, true, rfl, hb, ho, krn_zero D, fun _ => Nat.le_refl _, nofun⟩
      case round =>
        clear hb ho
        obtain ⟨k, f, bb, rfl, hb, ho, Hk, Hm, Hst⟩ := hrel
        cases bb
        · have hst := Hst.out rfl
          have hz := hb.size
          obtain ⟨g3, cap3, rfl, hg3, _, _⟩ := own_some ho.out (by omega)
          have HI : Hid (∀ w' : World, w'.ownsRow W.heap.size 3 1 (.slice (some ⟨g3, 0, none⟩) D.1.length cap3) D.1.length (fK D.1.length f) → ∀ s, s < D.1.length → Calls Try.prog 141 #[.slice (some ⟨g3, 0, none⟩) D.1.length cap3, .int .i64 ((f s : Nat) : Int)] w' (fun e w'' => e = .returned (.int .i64 ((cls D s : Nat) : Int)) ∧ w'' = w')) := fun w' ho' s hs => by
            have h1 : cls D s < (fL D f).length := by have := cls_le D s; simp [fL]; omega
            refine l7Name_c (S := (W.heap.size ≤ ·)) _ (fL D f) _ _ w' ?_ h1 ?_ ?_
            · have := (ownFl ho').fl
              rw [fK_fL] at this
              unfold Ints
              simpa [fL] using this
            · have h2 := (hst (cls D s) s (Nat.lt_of_le_of_lt (cls_le D s) hs) hs).2 (cls_idem D s)
              simp [fL, h2]
            · intro j hj e
              have h2 : f j = f s := by simp [fL] at e; omega
              have h5 := cls_le D s
              have h3 := (hst j s (by omega) hs).1 h2
              have h4 := cls_le D j
              omega
          clear Hst Hm hst Hk
          have ho14 : Hid ((wr.alloc (.cells #[] 3)).ownsRow W.heap.size 3 1 (.slice (some ⟨wr.heap.size, 0, none⟩) 0 0) 0 (fK 0 (cls D))) := ownLit [] hz (by omega) rfl
          have hb14 := hb.alloc hz (.cells #[] 3)
          have hoA := Lib.hid (ho.out.alloc (.cells #[] 3))
          have hne : Hid ((Value.slice (some ⟨g3, 0, none⟩) D.1.length cap3).ownBlock ≠ Value.ownBlock (.slice (some ⟨wr.heap.size, 0, none⟩) 0 0)) := fun he => by
            have := (own_ge ho.out wr.heap.size he).2
            omega
          clear ho hb
          go_wp2_with fail
          obtain ⟨B14, hB14⟩ : ∃ B14, B14 = wr.heap.size := ⟨_, rfl⟩
          rw [← hB14] at ho14 hne ⊢
          clear hB14 hz
          generalize wr.alloc (.cells #[] 3) = w14 at *
          go_loopw [14, 15] (fun m i wr => ∃ s : Nat, s ≤ D.1.length ∧ i = .int .i64 s ∧ Below W.heap.size W wr ∧ Hid (wr.ownsRow W.heap.size 3 1 (.slice (some ⟨g3, 0, none⟩) D.1.length cap3) D.1.length (fK D.1.length f)) ∧ Hid (wr.ownsRow W.heap.size 3 1 m s (fK s (cls D))) ∧ Hid ((Value.slice (some ⟨g3, 0, none⟩) D.1.length cap3).ownBlock ≠ m.ownBlock)) (fun _ i _ => D.1.length - (intOf i).toNat)
          case atStart => exact ⟨0, by omega, rfl, hb14, hoA, ho14, hne⟩
          case round =>
            clear hb14 hoA ho14 hne
            obtain ⟨s, hs, rfl, hb, ho, ho6, hne⟩ := hrel
            by_cases hlt : s < D.1.length
            · obtain ⟨a6, cap6, rfl, hm6⟩ := (ownFl ho6.out).shape
              have hsI : (s : Int) < (D.1.length : Int) := by omega
              have e2 := own_fK ho.out hlt
              have Hnew : Hid (fK (s + 1) (cls D) = fK s (cls D) ++ [.int .i64 ((cls D s : Nat) : Int)]) := fK_succ s (cls D)
              have HC := Lib.hid (HI.out wr ho.out s hlt)
              generalize cls D s = y at *
              go_wp2_with fail
              clear e2
              refine HC.out.mono ?_
              rintro e w5 ⟨rfl, rfl⟩
              go_wp2_with (
                refine appAt elInt (by decide) rfl (.tmp 139) (.tmp 146) rfl W.heap.size _ _ _ [.int .i64 ((y : Nat) : Int)] w5 (B := w5.heap.size) rfl rfl rfl ho6.out rfl (by simp [Value.oneCell']) (by omega) hb.size ?_
                intro v7 w7 ho7 hg7 hat7
                have hb7 : Below W.heap.size W w7 := hb.grown hg7 hb.size (fun b hb => (own_ge ho6.out b hb).1)
                have ho3 := Lib.hid (ho.out.kept hg7 (.inr hne.out))
                have hne7 : Hid ((Value.slice (some ⟨g3, 0, none⟩) D.1.length cap3).ownBlock ≠ v7.ownBlock) := fun he => by
                  rcases hat7.out with h | h
                  · exact hne.out (he.trans h)
                  · have := (own_ge ho.out (w5.heap.size + 1) (he.trans h)).2
                    omega
                rw [← Hnew.out] at ho7
                clear hat7 hg7)
              go_roundw
              case rel => exact ⟨s + 1, by omega, by go_num, hb7, ho3, ho7, hne7⟩
              case measure => simp [intOf]; omega
            · obtain rfl : s = D.1.length := by omega
              have hnk : ¬ ((D.1.length : Int) < (D.1.length : Int)) := by omega
              have hfin := Lib.hid (ownBase ho6.out Hb0.out.size)
              have hB := Hb0.out.trans (hb.mono Hb0.out.size)
              clear ho ho6 hlt hs
              go_wp2
              go_ret
              exact RVn.mk hB hfin.out
        · have hm := Hm.out rfl
          have hnc := nc_le D k
          clear Hst Hm
          have hz := hb.size
          obtain ⟨g3, cap3, rfl, hg3, _, _⟩ := own_some ho.out (by omega)
          have ho6 : Hid ((wr.alloc (.cells #[] 3)).ownsRow W.heap.size 3 1 (.slice (some ⟨wr.heap.size, 0, none⟩) 0 0) 0 (fK 0 (fc D (k + 1)))) := ownLit [] hz (by omega) rfl
          have hb6 := hb.alloc hz (.cells #[] 3)
          have hoA := Lib.hid (ho.out.alloc (.cells #[] 3))
          have hne : Hid ((Value.slice (some ⟨g3, 0, none⟩) D.1.length cap3).ownBlock ≠ Value.ownBlock (.slice (some ⟨wr.heap.size, 0, none⟩) 0 0)) := fun he => by
            have := (own_ge ho.out wr.heap.size he).2
            omega
          clear ho hb
          obtain ⟨F, hF⟩ : ∃ F, F = fc D (k + 1) := ⟨_, rfl⟩
          rw [← hF] at ho6
          have HF := Lib.hid hF
          clear hF
          go_wp2_with fail
          obtain ⟨B6, hB6⟩ : ∃ B6, B6 = wr.heap.size := ⟨_, rfl⟩
          rw [← hB6] at ho6 hne ⊢
          have Hmk := Lib.hid hm
          clear hB6 hz hm hnc
          generalize wr.alloc (.cells #[] 3) = w6 at *
          go_loopw [6, 7] (fun m i wr => ∃ s : Nat, s ≤ D.1.length ∧ i = .int .i64 s ∧ Below W.heap.size W wr ∧ Hid (wr.ownsRow W.heap.size 3 1 (.slice (some ⟨g3, 0, none⟩) D.1.length cap3) D.1.length (fK D.1.length f)) ∧ Hid (wr.ownsRow W.heap.size 3 1 m s (fK s F)) ∧ Hid ((Value.slice (some ⟨g3, 0, none⟩) D.1.length cap3).ownBlock ≠ m.ownBlock)) (fun _ i _ => D.1.length - (intOf i).toNat)
          case atStart => exact ⟨0, by omega, rfl, hb6, hoA, ho6, hne⟩
          case round =>
            clear hb6 hoA ho6 hne
            obtain ⟨s, hs, rfl, hb, ho, ho6, hne⟩ := hrel
            by_cases hlt : s < D.1.length
            · obtain ⟨a6, cap6, rfl, hm6⟩ := (ownFl ho6.out).shape
              go_wp2_with fail
              go_loopw [8, 9] (fun v8 i wr => ∃ j x : Nat, j ≤ s ∧ v8 = .int .i64 x ∧ i = .int .i64 ((j : Int) - 1) ∧ Below W.heap.size W wr ∧ Hid (wr.ownsRow W.heap.size 3 1 (.slice (some ⟨g3, 0, none⟩) D.1.length cap3) D.1.length (fK D.1.length f)) ∧ Hid (wr.ownsRow W.heap.size 3 1 (.slice a6 s cap6) s (fK s F)) ∧ Hid (fnd D (k + 1) s j x)) (fun _ i _ => (intOf i + 1).toNat)
              case atStart => exact ⟨s, s, by omega, rfl, by go_num, hb, ho, ho6, fnd_start D _ s⟩
              case round =>
                clear hb ho ho6
                obtain ⟨j, x, hj, rfl, rfl, hb, ho, ho6, hf⟩ := hrel
                rcases Nat.eq_zero_or_pos j with rfl | hj0
                · have hx : x = F s := by rw [HF.out]; exact fnd_end hf.out
                  subst hx
                  have hnk : ¬ ((0 : Int) ≤ ((0 : Nat) : Int) - 1) := by omega
                  have Hnew : Hid (fK (s + 1) F = fK s F ++ [.int .i64 ((F s : Nat) : Int)]) := fK_succ s F
                  clear hf
                  generalize F s = y at *
                  go_wp2_with (
                    refine appAt elInt (by decide) rfl (.tmp 94) (.tmp 96) rfl W.heap.size _ _ _ [.int .i64 ((y : Nat) : Int)] wr (B := wr.heap.size) rfl rfl rfl ho6.out rfl (by simp [Value.oneCell']) (by omega) hb.size ?_
                    intro v7 w7 ho7 hg7 hat7
                    have hb7 : Below W.heap.size W w7 := hb.grown hg7 hb.size (fun b hb => (own_ge ho6.out b hb).1)
                    have ho3 := Lib.hid (ho.out.kept hg7 (.inr hne.out))
                    have hne7 : Hid ((Value.slice (some ⟨g3, 0, none⟩) D.1.length cap3).ownBlock ≠ v7.ownBlock) := fun he => by
                      rcases hat7.out with h | h
                      · exact hne.out (he.trans h)
                      · have := (own_ge ho.out (wr.heap.size + 1) (he.trans h)).2
                        omega
                    rw [← Hnew.out] at ho7
                    clear hat7 hg7)
                  go_roundw
                  case rel => exact ⟨s + 1, by omega, by go_num, hb7, ho3, ho7, hne7⟩
                  case measure => simp [intOf]; omega
                · obtain ⟨t, rfl⟩ : ∃ t, j = t + 1 := ⟨j - 1, by omega⟩
                  have et : (((t + 1 : Nat) : Int) - 1) = (t : Int) := by omega
                  rw [et]
                  clear et
                  have htn : t < D.1.length := by omega
                  have htnI : (t : Int) < (D.1.length : Int) := by omega
                  have hsnI : (s : Int) < (D.1.length : Int) := by omega
                  have e1 := own_fK ho.out htn
                  have e2 := own_fK ho.out hlt
                  obtain ⟨c0, c1, _, _⟩ := blk2 (blkBel hb K0.out)
                  go_wp2_with fail
                  go_quiet (fail)
                  go_wp2_with fail
                  have hbq : Below W.heap.size W (wr.drewN nq) := belDrewN hb _
                  have hoq : Hid ((wr.drewN nq).ownsRow _ _ _ _ _ _) := ho.out
                  have ho6q : Hid ((wr.drewN nq).ownsRow _ _ _ _ _ _) := ho6.out
                  clear e1 e2 c0 c1 hb ho ho6
                  generalize wr.drewN nq = w8 at *
                  obtain ⟨g6, cap6', e6, hg6, _, _⟩ := own_some ho6q.out (by omega)
                  cases e6
                  go_loopw [10, 11] (fun v10 i wr => ∃ (l : Nat) (bb : Bool), l ≤ 3 ∧ v10 = .bool bb ∧ i = .int .i64 l ∧ Below W.heap.size W wr ∧ Hid (wr.ownsRow W.heap.size 3 1 (.slice (some ⟨g3, 0, none⟩) D.1.length cap3) D.1.length (fK D.1.length f)) ∧ Hid (wr.ownsRow W.heap.size 3 1 (.slice (some ⟨g6, 0, none⟩) s cap6) s (fK s F)) ∧ Hid (bb = true ↔ sameC D f t s l)) (fun _ i _ => 3 - (intOf i).toNat)
                  case atStart => exact ⟨0, _, by omega, rfl, rfl, hbq, hoq, ho6q, bint.trans (sameC_zero D f t s).symm⟩
                  case round =>
                    clear hbq hoq ho6q
                    obtain ⟨l, bb, hl, rfl, rfl, hb, ho, ho6, hq⟩ := hrel
                    by_cases hl3 : l < 3
                    · have Hsuc := Lib.hid (sameC_succ D f t s l)
                      cases bb
                      · have hno := Lib.hid (hbF hq)
                        go_wp2_with fail
                        go_quiet (fail)
                        go_wp2
                        go_roundw
                        case rel => exact ⟨l + 1, false, by omega, rfl, by go_num, belDrewN hb _, ho, ho6, ⟨nofun, fun h => absurd (Hsuc.out.1 h).1 hno.out⟩⟩
                        case measure => simp [intOf]; omega
                      · have hyes := Lib.hid (hbT hq)
                        obtain ⟨bn, on, br, or_, cr, e1, hs1, hs2, hs3⟩ := (H.out.stay (kpB hb)).step HD.out htn hl3
                        cases e1
                        obtain ⟨bn', on', br', or', cr', e1, hs1', hs2', hs3'⟩ := (H.out.stay (kpB hb)).step HD.out hlt hl3
                        cases e1
                        have d1 := own_fK ho.out hs3
                        have d2 := own_fK ho.out hs3'
                        obtain ⟨c0, c1, _, _⟩ := blk2 (blkBel hb K0.out)
                        obtain ⟨u, hu⟩ : ∃ u, u = dn D t l := ⟨_, rfl⟩
                        obtain ⟨u', hu'⟩ : ∃ u', u' = dn D s l := ⟨_, rfl⟩
                        rw [← hu] at hs2 hs3 d1 Hsuc
                        rw [← hu'] at hs2' hs3' d2 Hsuc
                        clear hu hu'
                        have hlI : (l : Int) < 3 := by omega
                        have huI : (u : Int) < (D.1.length : Int) := by omega
                        have huI' : (u' : Int) < (D.1.length : Int) := by omega
                        go_wp2_with fail
                        go_quiet (fail)
                        go_wp2
                        go_roundw
                        case rel => exact ⟨l + 1, _, by omega, rfl, by go_num, belDrewN hb _, ho, ho6, bint.trans ⟨fun h => Hsuc.out.2 ⟨hyes.out, h⟩, fun h => (Hsuc.out.1 h).2⟩⟩
                        case measure => simp [intOf]; omega
                    · obtain rfl : l = 3 := by omega
                      have Hsm := Lib.hid (krn_same HD.out Hk.out htn hlt)
                      cases bb
                      · have hno := Lib.hid (hbF hq)
                        go_wp2
                        go_roundw
                        case rel => exact ⟨t, x, by omega, rfl, by go_num, hb, ho, ho6, fnd_no hf.out (fun h => hno.out (Hsm.out.2 h))⟩
                        case measure => simp [intOf]
                      · have hyes := Lib.hid (hbT hq)
                        have Hfy : Hid (fnd D (k + 1) s t (F t)) := by rw [HF.out]; exact fnd_yes (Hsm.out.1 hyes.out)
                        have htI : (t : Int) < (s : Int) := by omega
                        have e6 := own_fK ho6.out (show t < s by omega)
                        generalize F t = y at *
                        go_wp2
                        go_roundw
                        case rel => exact ⟨t, y, by omega, rfl, by go_num, hb, ho, ho6, Hfy⟩
                        case measure => simp [intOf]
            · obtain rfl : s = D.1.length := by omega
              obtain ⟨g6, cap6, rfl, hg6, _, _⟩ := own_some ho6.out (by omega)
              have hnk : ¬ ((D.1.length : Int) < (D.1.length : Int)) := by omega
              go_wp2_with fail
              clear hnk hlt hs
              go_loopw [5, 12] (fun v5 i wr => ∃ (p : Nat) (bb : Bool), p ≤ D.1.length ∧ v5 = .bool bb ∧ i = .int .i64 p ∧ Below W.heap.size W wr ∧ Hid (wr.ownsRow W.heap.size 3 1 (.slice (some ⟨g3, 0, none⟩) D.1.length cap3) D.1.length (fK D.1.length f)) ∧ Hid (wr.ownsRow W.heap.size 3 1 (.slice (some ⟨g6, 0, none⟩) D.1.length cap6) D.1.length (fK D.1.length F)) ∧ Hid (bb = true ↔ ∃ i j, j < i ∧ i < p ∧ chg f F j i)) (fun _ i _ => D.1.length - (intOf i).toNat)
              case atStart => exact ⟨0, false, by omega, rfl, rfl, hb, ho, ho6, ⟨nofun, fun ⟨i, j, _, h, _⟩ => absurd h (Nat.not_lt_zero _)⟩⟩
              case round =>
                clear hb ho ho6 hne
                obtain ⟨p, bb, hp, rfl, rfl, hb, ho, ho6, hq⟩ := hrel
                by_cases hlt : p < D.1.length
                · have hpI : (p : Int) < (D.1.length : Int) := by omega
                  go_wp2_with fail
                  go_loopw [5, 13] (fun v5 i wr => ∃ (q : Nat) (bb : Bool), q ≤ p ∧ v5 = .bool bb ∧ i = .int .i64 q ∧ Below W.heap.size W wr ∧ Hid (wr.ownsRow W.heap.size 3 1 (.slice (some ⟨g3, 0, none⟩) D.1.length cap3) D.1.length (fK D.1.length f)) ∧ Hid (wr.ownsRow W.heap.size 3 1 (.slice (some ⟨g6, 0, none⟩) D.1.length cap6) D.1.length (fK D.1.length F)) ∧ Hid (bb = true ↔ (∃ i j, j < i ∧ i < p ∧ chg f F j i) ∨ ∃ j, j < q ∧ chg f F j p)) (fun _ i _ => p - (intOf i).toNat)
                  case atStart => exact ⟨0, bb, by omega, rfl, rfl, hb, ho, ho6, hq.out.trans ⟨.inl, fun h => h.elim id (fun ⟨j, h, _⟩ => absurd h (Nat.not_lt_zero _))⟩⟩
                  case round =>
                    clear hb ho ho6 hq
                    obtain ⟨q, bb', hqp, rfl, rfl, hb, ho, ho6, hq⟩ := hrel
                    by_cases hq3 : q < p
                    · have Hsuc := Lib.hid (chg_next (f := f) (F := F) (p := p) (q := q) (A := ∃ i j, j < i ∧ i < p ∧ chg f F j i))
                      cases bb'
                      · have hno := Lib.hid (hbF hq)
                        have hqn : q < D.1.length := by omega
                        have hqI : (q : Int) < (D.1.length : Int) := by omega
                        have d1 := own_fK ho.out hqn
                        have d2 := own_fK ho.out hlt
                        have d3 := own_fK ho6.out hqn
                        have d4 := own_fK ho6.out hlt
                        go_wp2_with fail
                        go_quiet (fail)
                        go_wp2
                        go_roundw
                        case rel => exact ⟨q + 1, _, by omega, rfl, by go_num, belDrewN hb _, ho, ho6, (chg_bool _ _ _ _).trans ⟨fun h => Hsuc.out.2 (.inr h), fun h => (Hsuc.out.1 h).elim (fun h => absurd h hno.out) id⟩⟩
                        case measure => simp [intOf]; omega
                      · have hyes := Lib.hid (hbT hq)
                        go_wp2_with fail
                        go_quiet (fail)
                        go_wp2
                        go_roundw
                        case rel => exact ⟨q + 1, true, by omega, rfl, by go_num, belDrewN hb _, ho, ho6, ⟨fun _ => Hsuc.out.2 (.inl hyes.out), fun _ => rfl⟩⟩
                        case measure => simp [intOf]; omega
                    · obtain rfl : q = p := by omega
                      have Hmo := Lib.hid (chg_more (f := f) (F := F) (p := q))
                      go_wp2
                      go_roundw
                      case rel => exact ⟨q + 1, bb', by omega, rfl, by go_num, hb, ho, ho6, hq.out.trans Hmo.out.symm⟩
                      case measure => simp [intOf]; omega
                · obtain rfl : p = D.1.length := by omega
                  have HkF : Hid (krn D (k + 1) F) := by rw [HF.out]; exact krn_fc D (k + 1)
                  have Hm1 : Hid (bb = true → D.1.length + 1 - nc D (k + 1) ≤ gk - 1) := fun h => by
                    have h1 := hq.out.1 h
                    rw [HF.out] at h1
                    have := krn_more Hk.out h1
                    have := nc_le D (k + 1)
                    have := Hmk.out
                    omega
                  have Hst1 : Hid (bb = false → ∀ s t, s < D.1.length → t < D.1.length → (F s = F t ↔ cls D s = cls D t)) := fun h s t hs ht => by
                    have h1 : ¬ ∃ i j, j < i ∧ i < D.1.length ∧ chg f F j i := fun h2 => by
                      have := hq.out.2 h2
                      rw [h] at this
                      cases this
                    rw [HF.out] at h1 ⊢
                    have h2 := krn_stop Hk.out h1
                    rw [fc_same]
                    constructor
                    · intro h3
                      exact (krn_end HD.out Hk.out h2 hs ht).1 ((Hk.out s t hs ht).2 ((eqv_succ D).1 h3).1)
                    · intro h3
                      exact h2 s t hs ht ((Hk.out s t hs ht).1 ((krn_end HD.out Hk.out h2 hs ht).2 h3))
                  go_wp2
                  go_roundg (gk - 1)
                  case measure => have := Hmk.out; have := nc_le D k; omega
                  case rel => exact ⟨k + 1, F, bb, rfl, hb, ho6, HkF, Hm1, Hst1⟩
end Go.Proofs.Ytbcjhiponbfbnaa

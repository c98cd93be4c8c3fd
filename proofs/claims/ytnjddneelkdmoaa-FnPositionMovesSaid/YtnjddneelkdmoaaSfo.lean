/- The pairs of letters that follow each other: the reference's list. -/
import Derived.Deep.RegionLaw
import Derived.Test.YtnjddneelkdmoaaEnds
import Derived.Test.YtnjddneelkdmoaaPsn
import Derived.Test.YtnjddneelkdmoaaGF
set_option linter.unusedSimpArgs false
set_option linter.unusedVariables false
set_option linter.unusedSectionVars false
namespace Go.Proofs.Ytnjddneelkdmoaa
open Go.RowKit
set_option maxRecDepth 100000
variable {S T : Nat → Prop}
theorem fol_len (t : Re) : t.flat.length ≤ 60 → ∀ f, (t.fol f).length ≤ t.flat.length * 3600 := by
  have key : ∀ (xs ys : List Int), xs.length ≤ 60 → ys.length ≤ 60 → (prodL xs ys).length ≤ 3600 := by
    intro xs ys hx hy
    have : (prodL xs ys).length = xs.length * ys.length := by
      unfold prodL
      induction xs with
      | nil => simp
      | cons x xs ih => rw [List.flatMap_cons, List.length_append, ih (by simp at hx; omega), List.length_map, List.length_cons, Nat.succ_mul]; omega
    rw [this]
    exact Nat.mul_le_mul hx hy
  have lp : ∀ (t : Re) (f : Int), t.flat.length ≤ 60 → (t.lps f).length ≤ 60 := fun t f h => by have := (lps_asc t f).2.2; omega
  have fp : ∀ (t : Re) (f : Int), t.flat.length ≤ 60 → (t.fps f).length ≤ 60 := fun t f h => by have := (fps_asc t f).2.2; omega
  induction t with
  | none => intro _ f; simp [Re.fol]
  | empty => intro _ f; simp [Re.fol]
  | letter c => intro _ f; simp [Re.fol]
  | join a b iha ihb =>
    intro h f
    simp only [Re.flat, Re.fol, List.length_append, List.length_singleton] at h ⊢
    have h1 := iha (by omega) f
    have h2 := ihb (by omega) (f + a.flat.length)
    have h3 := key _ _ (lp a f (by omega)) (fp b (f + a.flat.length) (by omega))
    omega
  | either a b iha ihb =>
    intro h f
    simp only [Re.flat, Re.fol, List.length_append, List.length_singleton] at h ⊢
    have h1 := iha (by omega) f
    have h2 := ihb (by omega) (f + a.flat.length)
    omega
  | both a b iha ihb =>
    intro h f
    simp only [Re.flat, Re.fol, List.length_append, List.length_singleton] at h ⊢
    have h1 := iha (by omega) f
    have h2 := ihb (by omega) (f + a.flat.length)
    omega
  | not a iha =>
    intro h f
    simp only [Re.flat, Re.fol, List.length_append, List.length_singleton] at h ⊢
    have h1 := iha (by omega) f
    omega
  | star a iha =>
    intro h f
    simp only [Re.flat, Re.fol, List.length_append, List.length_singleton] at h ⊢
    have h1 := iha (by omega) f
    have h3 := key _ _ (lp a f (by omega)) (fp a f (by omega))
    omega
theorem prodL_len (xs ys : List Int) : (prodL xs ys).length = xs.length * ys.length := by
  unfold prodL
  induction xs with
  | nil => simp
  | cons x xs ih => rw [List.flatMap_cons, List.length_append, ih, List.length_map, List.length_cons, Nat.succ_mul]; omega
theorem prodS_step (xs ys : List Int) {k : Nat} (hk : k < xs.length) : prodL (xs.take (k + 1)) ys = prodL (xs.take k) ys ++ ys.map fun b => (xs[k], b) := by
  unfold prodL; rw [List.take_succ_eq_append_getElem hk, List.flatMap_append]; simp
theorem mapS_step (x : Int) (ys : List Int) {j : Nat} (hj : j < ys.length) : (ys.take (j + 1)).map (fun b => (x, b)) = (ys.take j).map (fun b => (x, b)) ++ [(x, ys[j])] := by
  rw [List.take_succ_eq_append_getElem hj, List.map_append]; rfl
/-- The list of pairs, behind a pointer. -/
def FLs (base P : Nat) (w : World) (L : List (Int × Int)) : Prop := ∃ vN rs, w.heap[P]? = some (.cells #[vN] 63 (0, 0)) ∧ LR base rs vN w ∧ rs.map (·.2) = L.map fun p => [p.1, p.2]
theorem FLs.stay {base P : Nat} {w w' : World} {L : List (Int × Int)} (h : FLs base P w L) (k : Below w.heap.size w w') : FLs base P w' L := let ⟨a, b, c, d, e⟩ := h; ⟨a, b, blkBel k c, d.stay k, e⟩
theorem LR.setP {base P o : Nat} {rs : List (Value × List Int)} {vN : Value} {w : World} {cs : Array Value} {fz : Nat × Nat} (h : LR base rs vN w) (hP : w.heap[P]? = some (.cells cs 63 fz)) (v : Value) : LR base rs vN (w.setCell ⟨P, o, none⟩ v) :=
  ⟨ownSetNe h.own (ownNe h.own hP (by decide)) v, fun p hp => ownSetNe (h.rows p hp) (ownNe (h.rows p hp) hP (by decide)) v⟩
theorem own2Lit (w : World) (a b : Int) {base : Nat} (hb : base ≤ w.heap.size) : OwnI (w.alloc (.cells #[.int .i64 a, .int .i64 b] 3)) base (.slice (some ⟨w.heap.size, 0, none⟩) 2 2) [a, b] := ownLit (n := 2) [.int .i64 a, .int .i64 b] hb (by omega) rfl
/-- A pair appended. -/
theorem FLs.add {base P : Nat} {w w7 : World} {L : List (Int × Int)} {vN va vb v' : Value} {rs : List (Value × List Int)} {xs ys : List Int} {a b : Int} (h4 : w.heap[P]? = some (.cells #[vN] 63 (0, 0))) (hl : LR base rs vN w)
    (hm : rs.map (·.2) = L.map fun p => [p.1, p.2]) (ha : OwnI w base va xs) (hb : OwnI w base vb ys) (hbase : base ≤ w.heap.size) (hP : base ≤ P)
    (hg : ((w.drew.alloc (.cells #[.int .i64 a, .int .i64 b] 3)).alloc (.cells #[.slice (some ⟨w.heap.size, 0, none⟩) 2 2] 34)).grownBy w7 vN.ownBlock)
    (ho : w7.ownsRow base 34 1 v' (rs.length + 1) (rs.map (·.1) ++ [.slice (some ⟨w.heap.size, 0, none⟩) 2 2])) :
    FLs base P (w7.setCell ⟨P, 0, none⟩ v') (L ++ [(a, b)]) ∧ OwnI (w7.setCell ⟨P, 0, none⟩ v') base va xs ∧ OwnI (w7.setCell ⟨P, 0, none⟩ v') base vb ys ∧ Below base w (w7.setCell ⟨P, 0, none⟩ v') := by
  obtain ⟨w6, hw6⟩ : ∃ z, z = (w.drew.alloc (.cells #[.int .i64 a, .int .i64 b] 3)).alloc (.cells #[.slice (some ⟨w.heap.size, 0, none⟩) 2 2] 34) := ⟨_, rfl⟩
  have hb6 : Below w.heap.size w w6 := by rw [hw6]; exact ((Below.refl _ _).drew.alloc (Nat.le_refl _) _).alloc (by simp) _
  have hu : OwnI w6 base (.slice (some ⟨w.heap.size, 0, none⟩) 2 2) [a, b] := by
    rw [hw6]
    exact (own2Lit w.drew a b (base := base) hbase).stay ((Below.refl _ _).alloc (Nat.le_refl _) _)
  rw [← hw6] at hg
  have hl6 := hl.stay hb6
  have k6 := blkBel hb6 h4
  have hne : ∀ {v : Value} {n : Nat} {cs : List Value}, w6.ownsRow base 3 1 v n cs → w7.ownsRow base 3 1 v n cs := fun h => h.kept hg (ownOr h hl6.own (ownNe2 h hl6.own (by decide)))
  have k7 := blkGrow hg k6 (fun e => ownNe hl6.own k6 (by decide) e.symm)
  have hl7 := (hl6.add hu hg ho).setP (o := 0) k7 v'
  have key : ∀ {v : Value} {zs : List Int}, OwnI w base v zs → OwnI (w7.setCell ⟨P, 0, none⟩ v') base v zs := fun h => by
    have h7 := hne (h.stay hb6)
    exact ownSetNe h7 (ownNe h7 k7 (by decide)) v'
  refine ⟨⟨v', _, heap_set k7 0 v', hl7, ?_⟩, key ha, key hb, ?_⟩
  · rw [List.map_append, List.map_append, hm]; rfl
  · exact (((hb6.mono hbase).grown hg (Nat.le_trans hbase hb6.size) (fun k hk => (World.ownsRow.lt hl6.own k hk).1))).setCell hP v'
/-- The two empty lists. -/
def two (w : World) : World := (w.alloc (.cells #[] 3)).alloc (.cells #[] 3)
theorem twoBel (w : World) : Below w.heap.size w (two w) := ((Below.refl _ _).alloc (Nat.le_refl _) _).alloc (by simp) _
/-- What the call does. -/
def RFo (base P : Nat) (w : World) (L : List (Int × Int)) (e : Ending) (w' : World) : Prop := e = .returned (.tuple #[]) ∧ Hid (Below base w w') ∧ Hid (w.heap.size ≤ w'.heap.size) ∧ Hid (FLs base P w' L)
set_option maxHeartbeats 8000000 in
theorem l12Follow_c {base P : Nat} (hP : base ≤ P) : ∀ (t : Re), t.wf → t.flat.length ≤ 60 → ∀ (v : Value) (f : Int) (L : List (Int × Int)) (w : World), base ≤ w.heap.size → L.length + (t.fol f).length ≤ 1000000 → 0 ≤ f → f ≤ 1000000 - t.flat.length → Pairs (· < base) w v t.flat → FLs base P w L →
    Calls Try.prog 118 #[v, .int .i64 f, .pointer (some ⟨P, 0, none⟩)] w (RFo base P w (L ++ t.fol f)) := by
  have HP := Lib.hid hP; clear hP
  intro t
  induction t with
  | none =>
    intro ht hl v f L w hbw hn hf0 hf1 h hi
    replace h : Pairs (· < base) w v [(1, 0)] := h
    obtain ⟨ad, cap, hv, _⟩ := h.shape
    change v = .slice ad 1 cap at hv
    subst hv
    have H := Lib.hid h; have HII := Lib.hid hi; clear h hl hf1 hi hn
    go_enter Try.func118, Try.ntmps118
    go_wp2_with fail
    refine (l2Split0_c _ 1 0 w H.out (by first | decide | exact .inl ⟨rfl, ht.1, ht.2⟩) (by decide)).mono ?_
    rintro e w1 ⟨va, vb, rfl, hb1, hva, hvb⟩
    obtain ⟨aa, ca, rfl, _⟩ := hva.out.shape
    obtain ⟨ab, cb, rfl, _⟩ := hvb.out.shape
    obtain ⟨W2, hW⟩ : ∃ W, W = two w1 := ⟨_, rfl⟩
    have hb2 : Below w.heap.size w W2 := by rw [hW]; exact hb1.trans ((twoBel w1).mono hb1.size)
    have HB2 := Lib.hid (hb2.mono hbw)
    have HZ2 := Lib.hid hb2.size
    have FL2 := Lib.hid (HII.out.stay hb2)
    obtain ⟨b, off, rfl, k0, k1⟩ := (H.out.stay (kpB hb2)).at (k := 0) (by show 0 < 1; decide)
    replace k0 : W2.cell? ⟨b, off, none⟩ = some (.int .i64 1) := by simpa using k0
    clear k1 hva hvb hb1 hb2
    rw [hW] at k0
    unfold two at hW k0
    have HW := Lib.hid hW; clear hW
    go_wp2_with fail
    rw [← HW.out]
    go_loopw [10] (fun i wr => i = .int .i64 0 ∧ W2 = wr) (fun _ _ => 0)
    case atStart => exact ⟨rfl, rfl⟩
    case round =>
      obtain ⟨rfl, rfl⟩ := hrel
      go_wp2
      refine bodyPost_end (v := .tuple #[]) (by simp [results, Try.results118, go_sem]) rfl ⟨rfl, HB2, HZ2, Lib.hid (by simpa [Re.fol] using FL2.out)⟩
  | empty =>
    intro ht hl v f L w hbw hn hf0 hf1 h hi
    replace h : Pairs (· < base) w v [(2, 0)] := h
    obtain ⟨ad, cap, hv, _⟩ := h.shape
    change v = .slice ad 1 cap at hv
    subst hv
    have H := Lib.hid h; have HII := Lib.hid hi; clear h hl hf1 hi hn
    go_enter Try.func118, Try.ntmps118
    go_wp2_with fail
    refine (l2Split0_c _ 2 0 w H.out (by first | decide | exact .inl ⟨rfl, ht.1, ht.2⟩) (by decide)).mono ?_
    rintro e w1 ⟨va, vb, rfl, hb1, hva, hvb⟩
    obtain ⟨aa, ca, rfl, _⟩ := hva.out.shape
    obtain ⟨ab, cb, rfl, _⟩ := hvb.out.shape
    obtain ⟨W2, hW⟩ : ∃ W, W = two w1 := ⟨_, rfl⟩
    have hb2 : Below w.heap.size w W2 := by rw [hW]; exact hb1.trans ((twoBel w1).mono hb1.size)
    have HB2 := Lib.hid (hb2.mono hbw)
    have HZ2 := Lib.hid hb2.size
    have FL2 := Lib.hid (HII.out.stay hb2)
    obtain ⟨b, off, rfl, k0, k1⟩ := (H.out.stay (kpB hb2)).at (k := 0) (by show 0 < 1; decide)
    replace k0 : W2.cell? ⟨b, off, none⟩ = some (.int .i64 2) := by simpa using k0
    clear k1 hva hvb hb1 hb2
    rw [hW] at k0
    unfold two at hW k0
    have HW := Lib.hid hW; clear hW
    go_wp2_with fail
    rw [← HW.out]
    go_loopw [10] (fun i wr => i = .int .i64 0 ∧ W2 = wr) (fun _ _ => 0)
    case atStart => exact ⟨rfl, rfl⟩
    case round =>
      obtain ⟨rfl, rfl⟩ := hrel
      go_wp2
      refine bodyPost_end (v := .tuple #[]) (by simp [results, Try.results118, go_sem]) rfl ⟨rfl, HB2, HZ2, Lib.hid (by simpa [Re.fol] using FL2.out)⟩
  | letter c =>
    intro ht hl v f L w hbw hn hf0 hf1 h hi
    replace h : Pairs (· < base) w v [(3, c)] := h
    obtain ⟨ad, cap, hv, _⟩ := h.shape
    change v = .slice ad 1 cap at hv
    subst hv
    have H := Lib.hid h; have HII := Lib.hid hi; clear h hl hf1 hi hn
    go_enter Try.func118, Try.ntmps118
    go_wp2_with fail
    refine (l2Split0_c _ 3 c w H.out (by first | decide | exact .inl ⟨rfl, ht.1, ht.2⟩) (by decide)).mono ?_
    rintro e w1 ⟨va, vb, rfl, hb1, hva, hvb⟩
    obtain ⟨aa, ca, rfl, _⟩ := hva.out.shape
    obtain ⟨ab, cb, rfl, _⟩ := hvb.out.shape
    obtain ⟨W2, hW⟩ : ∃ W, W = two w1 := ⟨_, rfl⟩
    have hb2 : Below w.heap.size w W2 := by rw [hW]; exact hb1.trans ((twoBel w1).mono hb1.size)
    have HB2 := Lib.hid (hb2.mono hbw)
    have HZ2 := Lib.hid hb2.size
    have FL2 := Lib.hid (HII.out.stay hb2)
    obtain ⟨b, off, rfl, k0, k1⟩ := (H.out.stay (kpB hb2)).at (k := 0) (by show 0 < 1; decide)
    replace k0 : W2.cell? ⟨b, off, none⟩ = some (.int .i64 3) := by simpa using k0
    clear k1 hva hvb hb1 hb2
    rw [hW] at k0
    unfold two at hW k0
    have HW := Lib.hid hW; clear hW
    go_wp2_with fail
    rw [← HW.out]
    go_loopw [10] (fun i wr => i = .int .i64 0 ∧ W2 = wr) (fun _ _ => 0)
    case atStart => exact ⟨rfl, rfl⟩
    case round =>
      obtain ⟨rfl, rfl⟩ := hrel
      go_wp2
      refine bodyPost_end (v := .tuple #[]) (by simp [results, Try.results118, go_sem]) rfl ⟨rfl, HB2, HZ2, Lib.hid (by simpa [Re.fol] using FL2.out)⟩
  | join a c iha ihc =>
    intro ht hl v f L w hbw hn hf0 hf1 h hi
    replace h : Pairs (· < base) w v (a.flat ++ c.flat ++ [(4, 0)]) := h
    obtain ⟨ad, cap, hv, _⟩ := h.shape
    subst hv
    obtain ⟨n, hnn⟩ : ∃ n, n = (a.flat ++ c.flat).length := ⟨_, rfl⟩
    have e1 : (Re.join a c).flat.length = n + 1 := by rw [hnn]; show (a.flat ++ c.flat ++ [(4, 0)]).length = _; rw [List.length_append]; rfl
    have e2 : (a.flat ++ c.flat ++ [((4 : Int), (0 : Int))]).length = n + 1 := e1
    rw [e1] at hl hf1
    rw [e2] at h ⊢
    have hnn' : n = a.flat.length + c.flat.length := by rw [hnn, List.length_append]
    have hla : a.flat.length ≤ 60 := by omega
    have hlc : c.flat.length ≤ 60 := by omega
    have hn60 : (n : Int) ≤ 60 := by omega
    have hla6 : (a.flat.length : Int) ≤ 60 := by omega
    have hfa : f ≤ 1000000 - (a.flat.length : Int) := by omega
    have hfc : f + (a.flat.length : Int) ≤ 1000000 - (c.flat.length : Int) := by omega
    have hfc0 : 0 ≤ f + (a.flat.length : Int) := by omega
    have hfn : f ≤ 1000000 := by omega
    have HPA := a.flat_pos
    have HPC := c.flat_pos
    have hnp : (0 : Int) < (a.flat.length : Int) := by omega
    have hnpc : (0 : Int) < (c.flat.length : Int) := by omega
    have HEQ : Hid ((Re.join a c).fol f = a.fol f ++ c.fol (f + (a.flat.length : Int)) ++ prodL (a.lps f) (c.fps (f + (a.flat.length : Int)))) := Lib.hid rfl
    rw [HEQ.out] at hn ⊢
    rw [List.length_append, List.length_append] at hn
    have HNL := Lib.hid hn
    have IHA : Hid (∀ (v : Value) (w : World), base ≤ w.heap.size → Pairs (· < base) w v a.flat → FLs base P w L → Calls Try.prog 118 #[v, .int .i64 f, .pointer (some ⟨P, 0, none⟩)] w (RFo base P w (L ++ a.fol f))) := Lib.hid (fun v w hb hp hi => iha ht.1 hla v f L w hb (by omega) hf0 hfa hp hi)
    have IHC : Hid (∀ (v : Value) (w : World), base ≤ w.heap.size → Pairs (· < base) w v c.flat → FLs base P w (L ++ a.fol f) → Calls Try.prog 118 #[v, .int .i64 (f + (a.flat.length : Int)), .pointer (some ⟨P, 0, none⟩)] w (RFo base P w (L ++ a.fol f ++ c.fol (f + (a.flat.length : Int))))) := Lib.hid (fun v w hb hp hi => ihc ht.2 hlc v _ _ w hb (by rw [List.length_append]; omega) hfc0 hfc hp hi)
    have H := Lib.hid h; have HII := Lib.hid hi; have HN := Lib.hid hnn; have HLA' := Lib.hid hla; have HLC' := Lib.hid hlc; have HBW := Lib.hid hbw
    have HT : Hid (a.wf ∧ c.wf) := ht
    have HNC := Lib.hid hnn'
    clear iha ihc hnn e1 e2 hl hla hlc hf1 hn h hi ht hnn'
    go_enter Try.func118, Try.ntmps118
    go_wp2_with fail
    refine (l2Split2_c _ a.flat c 4 0 w HT.out.2 H.out (by decide) (by decide) (by rw [← HN.out]; have := HLA'.out; have := HLC'.out; have := HNC.out; omega) HPA).mono ?_
    rintro e w1 ⟨va, vb, rfl, hb1, hva, hvb⟩
    obtain ⟨aa, ca, rfl, _⟩ := hva.out.shape
    obtain ⟨ab, cb, rfl, _⟩ := hvb.out.shape
    have hs1 := hb1.size
    have HB1 := Lib.hid (hb1.mono hbw)
    have HF1 := Lib.hid (HII.out.stay hb1)
    have HA1 := hva
    have HC1 := hvb
    clear hva hvb hb1
    go_wp2_with fail
    refine (IHA.out _ w1 (by have := HBW.out; omega) HA1.out HF1.out).mono ?_
    rintro e w2 ⟨rfl, hB2, hZ2, hF2⟩
    have HC2 := Lib.hid (HC1.out.stay (kpL hB2.out))
    have HA2 := Lib.hid (HA1.out.stay (kpL hB2.out))
    have HB2' := Lib.hid (HB1.out.trans hB2.out)
    have hbw2 : base ≤ w2.heap.size := by have := HBW.out; have := hZ2.out; omega
    have HZ2' : Hid (w.heap.size ≤ w2.heap.size) := Lib.hid (by have := hZ2.out; omega)
    clear HA1 HC1 HB1 HF1 hB2 hZ2 IHA
    go_wp2_with fail
    refine (IHC.out _ w2 hbw2 HC2.out hF2.out).mono ?_
    rintro e w3 ⟨rfl, hB3, hZ3, hF3⟩
    obtain ⟨W2, hW⟩ : ∃ W, W = two w3 := ⟨_, rfl⟩
    have hb2 : Below w3.heap.size w3 W2 := by rw [hW]; exact twoBel w3
    have hbw3 : base ≤ w3.heap.size := by have := hZ3.out; omega
    have HB2 := Lib.hid ((HB2'.out.trans hB3.out).trans (hb2.mono hbw3))
    have HZ2 : Hid (w.heap.size ≤ W2.heap.size) := Lib.hid (by have := HZ2'.out; have := hZ3.out; have := hb2.size; omega)
    have FL2 := Lib.hid (hF3.out.stay hb2)
    have HA3 := Lib.hid ((HA2.out.stay (kpL hB3.out)).stay (kpL (hb2.mono hbw3)))
    have HC3 := Lib.hid ((HC2.out.stay (kpL hB3.out)).stay (kpL (hb2.mono hbw3)))
    obtain ⟨b, off, rfl, k0, k1⟩ := (H.out.stay (kpL HB2.out)).at (k := n) (by rw [HN.out, List.length_append (bs := [(_, _)])]; exact Nat.lt_succ_self _)
    have k2 : Hid (W2.cell? ⟨b, off + n * 2, none⟩ = some (.int .i64 4)) := Lib.hid (by have hn := HN.out; subst hn; rw [flatOne] at k0; exact k0)
    clear k0 k1 hb2 hB3 hZ3 hF3 HA2 HC2 hF2 HB2' HZ2' IHC
    have k3 := k2.out
    rw [hW] at k3
    unfold two at hW k3
    have HW := Lib.hid hW; clear hW
    go_wp2_with fail
    rw [← HW.out]
    clear k3
    have hbW2 : base ≤ W2.heap.size := by have := HBW.out; have := HZ2.out; omega
    refine (l12Ends_c a HT.out.1 (by have := HLA'.out; omega) _ f W2 hf0 hfa HA3.out).mono ?_
    rintro e w4 ⟨y1, y2, rfl, hb4, hy1, hy2⟩
    have hox4 := Lib.hid (ownBase hy2.out hbW2)
    have HB4 := Lib.hid (HB2.out.trans (hb4.mono hbW2))
    have HZ4 : Hid (w.heap.size ≤ w4.heap.size) := Lib.hid (by have := HZ2.out; have := hb4.size; omega)
    have FL4 := Lib.hid (FL2.out.stay hb4)
    have HC4 := Lib.hid (HC3.out.stay (kpB hb4))
    obtain ⟨a1, c1, rfl, _⟩ := hy1.out.shape
    obtain ⟨a2, c2, rfl, hl2⟩ := hy2.out.shape
    clear hy1 hy2 hb4 HB2 HZ2 FL2 HC3 HA3
    go_wp2_with fail
    have hbw4 : base ≤ w4.heap.size := by have := HBW.out; have := HZ4.out; omega
    refine (l12Ends_c c HT.out.2 (by have := HLC'.out; omega) _ (f + (a.flat.length : Int)) w4 hfc0 hfc HC4.out).mono ?_
    rintro e w5 ⟨z1, z2, rfl, hb5, hz1, hz2⟩
    have hoy5 := Lib.hid (ownBase hz1.out hbw4)
    have hox5 : Hid (OwnI w5 base (.slice a2 (a.lps f).length c2) (a.lps f)) := Lib.hid (ownStay hox4.out hb5)
    have HBz := Lib.hid (HB4.out.trans (hb5.mono hbw4))
    have HZz : Hid (w.heap.size ≤ w5.heap.size) := Lib.hid (by have := HZ4.out; have := hb5.size; omega)
    have FLz := Lib.hid (FL4.out.stay hb5)
    obtain ⟨a3, c3, rfl, hl3⟩ := hz1.out.shape
    obtain ⟨a4, c4, rfl, _⟩ := hz2.out.shape
    obtain ⟨YS, hYS⟩ : ∃ z, z = c.fps (f + (a.flat.length : Int)) := ⟨_, rfl⟩
    obtain ⟨XS, hXS⟩ : ∃ z, z = a.lps f := ⟨_, rfl⟩
    obtain ⟨LA, hLA⟩ : ∃ z, z = L ++ a.fol f ++ c.fol (f + (a.flat.length : Int)) := ⟨_, rfl⟩
    have HNN : Hid (LA.length + (prodL XS YS).length ≤ 1000000) := Lib.hid (by rw [hLA, hXS, hYS, List.length_append, List.length_append]; have := HNL.out; omega)
    replace HEQ : Hid (L ++ (a.fol f ++ c.fol (f + (a.flat.length : Int)) ++ prodL (a.lps f) (c.fps (f + (a.flat.length : Int)))) = LA ++ prodL XS YS) := Lib.hid (by rw [hLA, hXS, hYS]; simp only [List.append_assoc])
    rw [← hLA] at FLz
    rw [← hYS] at hoy5 hl3 ⊢
    rw [← hXS] at hox5 hl2 ⊢
    obtain ⟨ax, hax⟩ : ∃ z, z = a2 := ⟨_, rfl⟩
    obtain ⟨cx, hcx⟩ : ∃ z, z = c2 := ⟨_, rfl⟩
    obtain ⟨ay, hay⟩ : ∃ z, z = a3 := ⟨_, rfl⟩
    obtain ⟨cy, hcy⟩ : ∃ z, z = c3 := ⟨_, rfl⟩
    rw [← hax, ← hcx] at hox5 ⊢
    rw [← hay, ← hcy] at hoy5 ⊢
    have hox := hox5; have hoy := hoy5
    have HYS := Lib.hid hYS; have HXS := Lib.hid hXS; have HLA := Lib.hid hLA
    clear hYS hXS hLA hz1 hz2 hb5 hfa hfc hfc0 hox5 hoy5 hax hcx hay hcy
    go_wp2_with fail
    go_loopw [10] (fun i wr => ∃ k : Nat, k ≤ XS.length ∧ i = .int .i64 k ∧ Hid (Below base w wr) ∧ Hid (w.heap.size ≤ wr.heap.size) ∧ Hid (FLs base P wr (LA ++ prodL (XS.take k) YS)) ∧ Hid (OwnI wr base (.slice ax XS.length cx) XS) ∧ Hid (OwnI wr base (.slice ay YS.length cy) YS)) (fun i _ => XS.length - (intOf i).toNat)
    case atStart => exact ⟨0, by omega, rfl, HBz, HZz, Lib.hid (by simpa [prodL] using FLz.out), hox, hoy⟩
    case round =>
      obtain ⟨k, hk, rfl, hB, hZ, hF, hx, hy⟩ := hrel
      generalize wr = wq at *
      by_cases hlt : k < XS.length
      · have hkI : (k : Int) < (XS.length : Int) := by omega
        have HPS := Lib.hid (prodS_step XS YS hlt)
        obtain ⟨x, hx9⟩ : ∃ x, x = XS[k] := ⟨_, rfl⟩
        rw [← hx9] at HPS
        have Hx9 := Lib.hid hx9; clear hx9
        go_wp2_with fail
        go_loopw [11] (fun i wr => ∃ j : Nat, j ≤ YS.length ∧ i = .int .i64 j ∧ Hid (Below base w wr) ∧ Hid (w.heap.size ≤ wr.heap.size) ∧ Hid (FLs base P wr (LA ++ prodL (XS.take k) YS ++ (YS.take j).map fun b => (x, b))) ∧ Hid (OwnI wr base (.slice ax XS.length cx) XS) ∧ Hid (OwnI wr base (.slice ay YS.length cy) YS)) (fun i _ => YS.length - (intOf i).toNat)
        case atStart => exact ⟨0, by omega, rfl, hB, hZ, Lib.hid (by simpa using hF.out), hx, hy⟩
        case round =>
          obtain ⟨j, hj, rfl, hB2, hZ2, hF2, hx2, hy2⟩ := hrel
          generalize wr = wp at *
          by_cases hlt2 : j < YS.length
          · have hjI : (j : Int) < (YS.length : Int) := by omega
            have HMS := Lib.hid (mapS_step x YS hlt2)
            obtain ⟨b1, o1, e1, c1⟩ := hx2.out.rd.at hlt
            rw [← Hx9.out] at c1
            obtain ⟨b2, o2, e2, c2⟩ := hy2.out.rd.at hlt2
            obtain ⟨y, hy9⟩ : ∃ y, y = YS[j] := ⟨_, rfl⟩
            rw [← hy9] at c2 HMS
            clear hy9
            obtain ⟨vN, rs, h4, hl, hm⟩ := hF2.out
            have hrl : rs.length = (LA ++ prodL (XS.take k) YS ++ (YS.take j).map fun b => (x, b)).length := by rw [← List.length_map (f := fun p : Value × List Int => p.2), hm, List.length_map]
            have hpl : (prodL (XS.take k) YS).length + ((YS.take j).map fun b => (x, b)).length ≤ (prodL XS YS).length := by
              rw [prodL_len, prodL_len, List.length_take, List.length_map, List.length_take]
              have h1 : k * YS.length + YS.length ≤ XS.length * YS.length := by rw [← Nat.succ_mul]; exact Nat.mul_le_mul_right _ hlt
              rw [Nat.min_eq_left hk, Nat.min_eq_left hj]; omega
            have Hrl : Hid (rs.length ≤ 1000000000) := Lib.hid (by rw [hrl, List.length_append, List.length_append]; have := HNN.out; omega)
            have hzb : base ≤ wp.heap.size := by have := hZ2.out; have := HBW.out; omega
            have HMM := Lib.hid hm; have HL := Lib.hid hl; have H4 := Lib.hid h4
            obtain ⟨aN, nN, cN, hvN⟩ : ∃ a n c, vN = .slice a n c := by obtain ⟨a, c, e, _⟩ := (ownFl hl.own).shape; exact ⟨a, _, c, e⟩
            subst hvN
            have c4 := cell_of_row wp P 0 _ _ _ h4
            simp only [List.getElem?_toArray, List.getElem?_cons_zero] at c4
            cases e1
            cases e2
            have c1D : wp.drew.cell? ⟨b1, o1 + k, none⟩ = _ := c1
            have c2D : wp.drew.cell? ⟨b2, o2 + j, none⟩ = _ := c2
            have c4D : wp.drew.cell? ⟨P, 0, none⟩ = _ := c4
            have A1 : ∀ o : Obj, (wp.drew.alloc o).cell? ⟨P, 0, none⟩ = _ := fun o => kpAlloc (S := fun _ => True) _ _ trivial c4D
            have A2 : ∀ o : Obj, (wp.alloc o).drew.cell? ⟨P, 0, none⟩ = _ := A1
            have A3 : ∀ o o' : Obj, ((wp.drew.alloc o).alloc o').cell? ⟨P, 0, none⟩ = _ := fun o o' => kpAlloc (S := fun _ => True) _ _ trivial (A1 o)
            have A4 : ∀ o o' : Obj, ((wp.alloc o).alloc o').drew.cell? ⟨P, 0, none⟩ = _ := A3
            have A5 : ∀ o o' : Obj, ((wp.alloc o).drew.alloc o').cell? ⟨P, 0, none⟩ = _ := A3
            clear hrl hpl hl hm h4
            go_wp2_with fail
            go_region_law
              (refine stepAppAt elInts (by decide) rfl (.tmp 83) (.tmp 93) rfl base (.slice aN nN cN) rs.length (rs.map (·.1)) [.slice (some ⟨wp.heap.size, 0, none⟩) 2 2] _ (wp.heap.size + 1) rfl rfl (by exact ((HL.out.own.alloc _).alloc _)) (by exact blkNew _ _ (by simp)) rfl (by simp [Value.oneCell']) (by exact Hrl.out) (by simp; omega) ?_
               intro g7 cap7 w7 ho7 hg7 hat7
               have hb6 : Below wp.heap.size wp ((wp.drew.alloc (.cells #[.int .i64 x, .int .i64 y] 3)).alloc (.cells #[.slice (some ⟨wp.heap.size, 0, none⟩) 2 2] 34)) := ((Below.refl _ _).drew.alloc (Nat.le_refl _) _).alloc (by simp) _
               have k7 := blkGrow hg7 (blkBel hb6 H4.out) (fun e => ownNe (HL.out.stay hb6).own (blkBel hb6 H4.out) (by decide) e.symm)
               have c7 := cell_of_row w7 P 0 _ _ _ k7
               simp only [List.getElem?_toArray, List.getElem?_cons_zero] at c7
               have f7 := blkFz k7 0)
            all_goals (
              obtain ⟨q1, q2, q3, q4⟩ := FLs.add H4.out HL.out HMM.out hx2.out hy2.out hzb HP.out hg7 ho7.out
              have Q1 := Lib.hid q1; have Q2 := Lib.hid q2; have Q3 := Lib.hid q3
              have Q4 := Lib.hid (hB2.out.trans q4)
              have Q5 : Hid (w.heap.size ≤ (w7.setCell ⟨P, 0, none⟩ (.slice (some ⟨g7, 0, none⟩) (rs.length + 1) cap7)).heap.size) := Lib.hid (by
                have h1 : wp.heap.size + 1 + 1 ≤ w7.heap.size := by have h := hg7.size; simpa using h
                have h2 := hZ2.out
                simp [World.setCell]; omega)
              clear q1 q2 q3 q4 c7 f7 k7 hb6 hg7 ho7 hat7 c1D c2D c4D A1 A2 A3 A4 A5 c1 c2 c4
              go_wp2_with fail
              go_roundw
              case rel => exact ⟨j + 1, by omega, by go_num, Q4, Q5, Lib.hid (by rw [HMS.out, ← List.append_assoc]; exact Q1.out), Q2, Q3⟩
              case measure => simp [intOf]; omega)
          · obtain rfl : j = YS.length := by omega
            rw [List.take_length] at hF2
            go_wp2_with fail
            go_roundw
            case rel => exact ⟨k + 1, by omega, by go_num, hB2, hZ2, Lib.hid (by rw [HPS.out, ← List.append_assoc]; exact hF2.out), hx2, hy2⟩
            case measure => simp [intOf]; omega
      · obtain rfl : k = XS.length := by omega
        rw [List.take_length] at hF
        go_wp2
        refine bodyPost_end (v := .tuple #[]) (by simp [results, Try.results118, go_sem]) rfl ⟨rfl, hB, hZ, Lib.hid (by rw [HEQ.out]; exact hF.out)⟩
  | either a c iha ihc =>
    intro ht hl v f L w hbw hn hf0 hf1 h hi
    replace h : Pairs (· < base) w v (a.flat ++ c.flat ++ [(5, 0)]) := h
    obtain ⟨ad, cap, hv, _⟩ := h.shape
    subst hv
    obtain ⟨n, hnn⟩ : ∃ n, n = (a.flat ++ c.flat).length := ⟨_, rfl⟩
    have e1 : (Re.either a c).flat.length = n + 1 := by rw [hnn]; show (a.flat ++ c.flat ++ [(5, 0)]).length = _; rw [List.length_append]; rfl
    have e2 : (a.flat ++ c.flat ++ [((5 : Int), (0 : Int))]).length = n + 1 := e1
    rw [e1] at hl hf1
    rw [e2] at h ⊢
    have hnn' : n = a.flat.length + c.flat.length := by rw [hnn, List.length_append]
    have hla : a.flat.length ≤ 60 := by omega
    have hlc : c.flat.length ≤ 60 := by omega
    have hn60 : (n : Int) ≤ 60 := by omega
    have hla6 : (a.flat.length : Int) ≤ 60 := by omega
    have hfa : f ≤ 1000000 - (a.flat.length : Int) := by omega
    have hfc : f + (a.flat.length : Int) ≤ 1000000 - (c.flat.length : Int) := by omega
    have hfc0 : 0 ≤ f + (a.flat.length : Int) := by omega
    have hfn : f ≤ 1000000 := by omega
    have HPA := a.flat_pos
    have HPC := c.flat_pos
    have hnp : (0 : Int) < (a.flat.length : Int) := by omega
    have hnpc : (0 : Int) < (c.flat.length : Int) := by omega
    have HEQ : Hid ((Re.either a c).fol f = a.fol f ++ c.fol (f + (a.flat.length : Int))) := Lib.hid rfl
    rw [HEQ.out] at hn ⊢
    rw [List.length_append] at hn
    have HNL := Lib.hid hn
    have IHA : Hid (∀ (v : Value) (w : World), base ≤ w.heap.size → Pairs (· < base) w v a.flat → FLs base P w L → Calls Try.prog 118 #[v, .int .i64 f, .pointer (some ⟨P, 0, none⟩)] w (RFo base P w (L ++ a.fol f))) := Lib.hid (fun v w hb hp hi => iha ht.1 hla v f L w hb (by omega) hf0 hfa hp hi)
    have IHC : Hid (∀ (v : Value) (w : World), base ≤ w.heap.size → Pairs (· < base) w v c.flat → FLs base P w (L ++ a.fol f) → Calls Try.prog 118 #[v, .int .i64 (f + (a.flat.length : Int)), .pointer (some ⟨P, 0, none⟩)] w (RFo base P w (L ++ a.fol f ++ c.fol (f + (a.flat.length : Int))))) := Lib.hid (fun v w hb hp hi => ihc ht.2 hlc v _ _ w hb (by rw [List.length_append]; omega) hfc0 hfc hp hi)
    have H := Lib.hid h; have HII := Lib.hid hi; have HN := Lib.hid hnn; have HLA' := Lib.hid hla; have HLC' := Lib.hid hlc; have HBW := Lib.hid hbw
    have HT : Hid (a.wf ∧ c.wf) := ht
    have HNC := Lib.hid hnn'
    clear iha ihc hnn e1 e2 hl hla hlc hf1 hn h hi ht hnn'
    go_enter Try.func118, Try.ntmps118
    go_wp2_with fail
    refine (l2Split2_c _ a.flat c 5 0 w HT.out.2 H.out (by decide) (by decide) (by rw [← HN.out]; have := HLA'.out; have := HLC'.out; have := HNC.out; omega) HPA).mono ?_
    rintro e w1 ⟨va, vb, rfl, hb1, hva, hvb⟩
    obtain ⟨aa, ca, rfl, _⟩ := hva.out.shape
    obtain ⟨ab, cb, rfl, _⟩ := hvb.out.shape
    have hs1 := hb1.size
    have HB1 := Lib.hid (hb1.mono hbw)
    have HF1 := Lib.hid (HII.out.stay hb1)
    have HA1 := hva
    have HC1 := hvb
    clear hva hvb hb1
    go_wp2_with fail
    refine (IHA.out _ w1 (by have := HBW.out; omega) HA1.out HF1.out).mono ?_
    rintro e w2 ⟨rfl, hB2, hZ2, hF2⟩
    have HC2 := Lib.hid (HC1.out.stay (kpL hB2.out))
    have HA2 := Lib.hid (HA1.out.stay (kpL hB2.out))
    have HB2' := Lib.hid (HB1.out.trans hB2.out)
    have hbw2 : base ≤ w2.heap.size := by have := HBW.out; have := hZ2.out; omega
    have HZ2' : Hid (w.heap.size ≤ w2.heap.size) := Lib.hid (by have := hZ2.out; omega)
    clear HA1 HC1 HB1 HF1 hB2 hZ2 IHA
    go_wp2_with fail
    refine (IHC.out _ w2 hbw2 HC2.out hF2.out).mono ?_
    rintro e w3 ⟨rfl, hB3, hZ3, hF3⟩
    obtain ⟨W2, hW⟩ : ∃ W, W = two w3 := ⟨_, rfl⟩
    have hb2 : Below w3.heap.size w3 W2 := by rw [hW]; exact twoBel w3
    have hbw3 : base ≤ w3.heap.size := by have := hZ3.out; omega
    have HB2 := Lib.hid ((HB2'.out.trans hB3.out).trans (hb2.mono hbw3))
    have HZ2 : Hid (w.heap.size ≤ W2.heap.size) := Lib.hid (by have := HZ2'.out; have := hZ3.out; have := hb2.size; omega)
    have FL2 := Lib.hid (hF3.out.stay hb2)
    have HA3 := Lib.hid ((HA2.out.stay (kpL hB3.out)).stay (kpL (hb2.mono hbw3)))
    have HC3 := Lib.hid ((HC2.out.stay (kpL hB3.out)).stay (kpL (hb2.mono hbw3)))
    obtain ⟨b, off, rfl, k0, k1⟩ := (H.out.stay (kpL HB2.out)).at (k := n) (by rw [HN.out, List.length_append (bs := [(_, _)])]; exact Nat.lt_succ_self _)
    have k2 : Hid (W2.cell? ⟨b, off + n * 2, none⟩ = some (.int .i64 5)) := Lib.hid (by have hn := HN.out; subst hn; rw [flatOne] at k0; exact k0)
    clear k0 k1 hb2 hB3 hZ3 hF3 HA2 HC2 hF2 HB2' HZ2' IHC
    have k3 := k2.out
    rw [hW] at k3
    unfold two at hW k3
    have HW := Lib.hid hW; clear hW
    go_wp2_with fail
    rw [← HW.out]
    clear k3
    skip
    go_loopw [10] (fun i wr => i = .int .i64 0 ∧ W2 = wr) (fun _ _ => 0)
    case atStart => exact ⟨rfl, rfl⟩
    case round =>
      obtain ⟨rfl, rfl⟩ := hrel
      go_wp2
      refine bodyPost_end (v := .tuple #[]) (by simp [results, Try.results118, go_sem]) rfl ⟨rfl, HB2, HZ2, Lib.hid (by rw [← List.append_assoc]; exact FL2.out)⟩
  | both a c iha ihc =>
    intro ht hl v f L w hbw hn hf0 hf1 h hi
    replace h : Pairs (· < base) w v (a.flat ++ c.flat ++ [(6, 0)]) := h
    obtain ⟨ad, cap, hv, _⟩ := h.shape
    subst hv
    obtain ⟨n, hnn⟩ : ∃ n, n = (a.flat ++ c.flat).length := ⟨_, rfl⟩
    have e1 : (Re.both a c).flat.length = n + 1 := by rw [hnn]; show (a.flat ++ c.flat ++ [(6, 0)]).length = _; rw [List.length_append]; rfl
    have e2 : (a.flat ++ c.flat ++ [((6 : Int), (0 : Int))]).length = n + 1 := e1
    rw [e1] at hl hf1
    rw [e2] at h ⊢
    have hnn' : n = a.flat.length + c.flat.length := by rw [hnn, List.length_append]
    have hla : a.flat.length ≤ 60 := by omega
    have hlc : c.flat.length ≤ 60 := by omega
    have hn60 : (n : Int) ≤ 60 := by omega
    have hla6 : (a.flat.length : Int) ≤ 60 := by omega
    have hfa : f ≤ 1000000 - (a.flat.length : Int) := by omega
    have hfc : f + (a.flat.length : Int) ≤ 1000000 - (c.flat.length : Int) := by omega
    have hfc0 : 0 ≤ f + (a.flat.length : Int) := by omega
    have hfn : f ≤ 1000000 := by omega
    have HPA := a.flat_pos
    have HPC := c.flat_pos
    have hnp : (0 : Int) < (a.flat.length : Int) := by omega
    have hnpc : (0 : Int) < (c.flat.length : Int) := by omega
    have HEQ : Hid ((Re.both a c).fol f = a.fol f ++ c.fol (f + (a.flat.length : Int))) := Lib.hid rfl
    rw [HEQ.out] at hn ⊢
    rw [List.length_append] at hn
    have HNL := Lib.hid hn
    have IHA : Hid (∀ (v : Value) (w : World), base ≤ w.heap.size → Pairs (· < base) w v a.flat → FLs base P w L → Calls Try.prog 118 #[v, .int .i64 f, .pointer (some ⟨P, 0, none⟩)] w (RFo base P w (L ++ a.fol f))) := Lib.hid (fun v w hb hp hi => iha ht.1 hla v f L w hb (by omega) hf0 hfa hp hi)
    have IHC : Hid (∀ (v : Value) (w : World), base ≤ w.heap.size → Pairs (· < base) w v c.flat → FLs base P w (L ++ a.fol f) → Calls Try.prog 118 #[v, .int .i64 (f + (a.flat.length : Int)), .pointer (some ⟨P, 0, none⟩)] w (RFo base P w (L ++ a.fol f ++ c.fol (f + (a.flat.length : Int))))) := Lib.hid (fun v w hb hp hi => ihc ht.2 hlc v _ _ w hb (by rw [List.length_append]; omega) hfc0 hfc hp hi)
    have H := Lib.hid h; have HII := Lib.hid hi; have HN := Lib.hid hnn; have HLA' := Lib.hid hla; have HLC' := Lib.hid hlc; have HBW := Lib.hid hbw
    have HT : Hid (a.wf ∧ c.wf) := ht
    have HNC := Lib.hid hnn'
    clear iha ihc hnn e1 e2 hl hla hlc hf1 hn h hi ht hnn'
    go_enter Try.func118, Try.ntmps118
    go_wp2_with fail
    refine (l2Split2_c _ a.flat c 6 0 w HT.out.2 H.out (by decide) (by decide) (by rw [← HN.out]; have := HLA'.out; have := HLC'.out; have := HNC.out; omega) HPA).mono ?_
    rintro e w1 ⟨va, vb, rfl, hb1, hva, hvb⟩
    obtain ⟨aa, ca, rfl, _⟩ := hva.out.shape
    obtain ⟨ab, cb, rfl, _⟩ := hvb.out.shape
    have hs1 := hb1.size
    have HB1 := Lib.hid (hb1.mono hbw)
    have HF1 := Lib.hid (HII.out.stay hb1)
    have HA1 := hva
    have HC1 := hvb
    clear hva hvb hb1
    go_wp2_with fail
    refine (IHA.out _ w1 (by have := HBW.out; omega) HA1.out HF1.out).mono ?_
    rintro e w2 ⟨rfl, hB2, hZ2, hF2⟩
    have HC2 := Lib.hid (HC1.out.stay (kpL hB2.out))
    have HA2 := Lib.hid (HA1.out.stay (kpL hB2.out))
    have HB2' := Lib.hid (HB1.out.trans hB2.out)
    have hbw2 : base ≤ w2.heap.size := by have := HBW.out; have := hZ2.out; omega
    have HZ2' : Hid (w.heap.size ≤ w2.heap.size) := Lib.hid (by have := hZ2.out; omega)
    clear HA1 HC1 HB1 HF1 hB2 hZ2 IHA
    go_wp2_with fail
    refine (IHC.out _ w2 hbw2 HC2.out hF2.out).mono ?_
    rintro e w3 ⟨rfl, hB3, hZ3, hF3⟩
    obtain ⟨W2, hW⟩ : ∃ W, W = two w3 := ⟨_, rfl⟩
    have hb2 : Below w3.heap.size w3 W2 := by rw [hW]; exact twoBel w3
    have hbw3 : base ≤ w3.heap.size := by have := hZ3.out; omega
    have HB2 := Lib.hid ((HB2'.out.trans hB3.out).trans (hb2.mono hbw3))
    have HZ2 : Hid (w.heap.size ≤ W2.heap.size) := Lib.hid (by have := HZ2'.out; have := hZ3.out; have := hb2.size; omega)
    have FL2 := Lib.hid (hF3.out.stay hb2)
    have HA3 := Lib.hid ((HA2.out.stay (kpL hB3.out)).stay (kpL (hb2.mono hbw3)))
    have HC3 := Lib.hid ((HC2.out.stay (kpL hB3.out)).stay (kpL (hb2.mono hbw3)))
    obtain ⟨b, off, rfl, k0, k1⟩ := (H.out.stay (kpL HB2.out)).at (k := n) (by rw [HN.out, List.length_append (bs := [(_, _)])]; exact Nat.lt_succ_self _)
    have k2 : Hid (W2.cell? ⟨b, off + n * 2, none⟩ = some (.int .i64 6)) := Lib.hid (by have hn := HN.out; subst hn; rw [flatOne] at k0; exact k0)
    clear k0 k1 hb2 hB3 hZ3 hF3 HA2 HC2 hF2 HB2' HZ2' IHC
    have k3 := k2.out
    rw [hW] at k3
    unfold two at hW k3
    have HW := Lib.hid hW; clear hW
    go_wp2_with fail
    rw [← HW.out]
    clear k3
    skip
    go_loopw [10] (fun i wr => i = .int .i64 0 ∧ W2 = wr) (fun _ _ => 0)
    case atStart => exact ⟨rfl, rfl⟩
    case round =>
      obtain ⟨rfl, rfl⟩ := hrel
      go_wp2
      refine bodyPost_end (v := .tuple #[]) (by simp [results, Try.results118, go_sem]) rfl ⟨rfl, HB2, HZ2, Lib.hid (by rw [← List.append_assoc]; exact FL2.out)⟩
  | not a iha =>
    intro ht hl v f L w hbw hn hf0 hf1 h hi
    replace h : Pairs (· < base) w v (a.flat ++ [(7, 0)]) := h
    obtain ⟨ad, cap, hv, _⟩ := h.shape
    subst hv
    obtain ⟨n, hnn⟩ : ∃ n, n = a.flat.length := ⟨_, rfl⟩
    have e1 : (Re.not a).flat.length = n + 1 := by rw [hnn]; show (a.flat ++ [(7, 0)]).length = _; rw [List.length_append]; rfl
    have e2 : (a.flat ++ [((7 : Int), (0 : Int))]).length = n + 1 := e1
    rw [e1] at hl hf1
    rw [e2] at h ⊢
    have hl' : a.flat.length ≤ 60 := by omega
    have hn60 : (n : Int) ≤ 60 := by omega
    have hfa : f ≤ 1000000 - (a.flat.length : Int) := by omega
    have hfn : f ≤ 1000000 := by omega
    have HPA := a.flat_pos
    have hnp : (0 : Int) < (a.flat.length : Int) := by omega
    have HEQ : Hid ((Re.not a).fol f = a.fol f) := Lib.hid rfl
    rw [HEQ.out] at hn ⊢

    have IHA : Hid (∀ (v : Value) (w : World), base ≤ w.heap.size → Pairs (· < base) w v a.flat → FLs base P w L → Calls Try.prog 118 #[v, .int .i64 f, .pointer (some ⟨P, 0, none⟩)] w (RFo base P w (L ++ a.fol f))) := Lib.hid (fun v w hb hp hi => iha ht hl' v f L w hb (by omega) hf0 hfa hp hi)
    have H := Lib.hid h; have HII := Lib.hid hi; have HN := Lib.hid hnn; have HL' := Lib.hid hl'; have HBW := Lib.hid hbw
    have HT : Hid a.wf := ht
    clear iha hnn e1 e2 hl hl' hf1 hn h hi ht
    go_enter Try.func118, Try.ntmps118
    go_wp2_with fail
    refine (l2Split1_c _ a.flat 7 0 w H.out (by decide) (by decide) (by have := HL'.out; omega) HPA).mono ?_
    rintro e w1 ⟨va, vb, rfl, hb1, hva, hvb⟩
    obtain ⟨aa, ca, rfl, _⟩ := hva.out.shape
    obtain ⟨ab, cb, rfl, _⟩ := hvb.out.shape
    have hs1 := hb1.size
    have HB1 := Lib.hid (hb1.mono hbw)
    have HF1 := Lib.hid (HII.out.stay hb1)
    have HA1 := hva
    clear hva hvb hb1
    go_wp2_with fail
    refine (IHA.out _ w1 (by have := HBW.out; omega) HA1.out HF1.out).mono ?_
    rintro e w2 ⟨rfl, hB2, hZ2, hF2⟩
    obtain ⟨W2, hW⟩ : ∃ W, W = two w2 := ⟨_, rfl⟩
    have hb2 : Below w2.heap.size w2 W2 := by rw [hW]; exact twoBel w2
    have hbw2 : base ≤ w2.heap.size := by have := HBW.out; have := hZ2.out; omega
    have HB2 := Lib.hid ((HB1.out.trans hB2.out).trans (hb2.mono hbw2))
    have HZ2 : Hid (w.heap.size ≤ W2.heap.size) := Lib.hid (by have := hZ2.out; have := hb2.size; omega)
    have FL2 := Lib.hid (hF2.out.stay hb2)
    have HA2 := Lib.hid ((HA1.out.stay (kpL hB2.out)).stay (kpL (hb2.mono hbw2)))
    obtain ⟨b, off, rfl, k0, k1⟩ := (H.out.stay (kpL HB2.out)).at (k := n) (by rw [HN.out, List.length_append]; exact Nat.lt_succ_self _)
    have k2 : Hid (W2.cell? ⟨b, off + n * 2, none⟩ = some (.int .i64 7)) := Lib.hid (by have hn := HN.out; subst hn; rw [flatOne] at k0; exact k0)
    clear k0 k1 hb2 hB2 hZ2 hF2 HA1 HF1 HB1 IHA
    have k3 := k2.out
    rw [hW] at k3
    unfold two at hW k3
    have HW := Lib.hid hW; clear hW
    go_wp2_with fail
    rw [← HW.out]
    clear k3
    go_loopw [10] (fun i wr => i = .int .i64 0 ∧ W2 = wr) (fun _ _ => 0)
    case atStart => exact ⟨rfl, rfl⟩
    case round =>
      obtain ⟨rfl, rfl⟩ := hrel
      go_wp2
      refine bodyPost_end (v := .tuple #[]) (by simp [results, Try.results118, go_sem]) rfl ⟨rfl, HB2, HZ2, Lib.hid (by simpa [Re.fol] using FL2.out)⟩
  | star a iha =>
    intro ht hl v f L w hbw hn hf0 hf1 h hi
    replace h : Pairs (· < base) w v (a.flat ++ [(8, 0)]) := h
    obtain ⟨ad, cap, hv, _⟩ := h.shape
    subst hv
    obtain ⟨n, hnn⟩ : ∃ n, n = a.flat.length := ⟨_, rfl⟩
    have e1 : (Re.star a).flat.length = n + 1 := by rw [hnn]; show (a.flat ++ [(8, 0)]).length = _; rw [List.length_append]; rfl
    have e2 : (a.flat ++ [((8 : Int), (0 : Int))]).length = n + 1 := e1
    rw [e1] at hl hf1
    rw [e2] at h ⊢
    have hl' : a.flat.length ≤ 60 := by omega
    have hn60 : (n : Int) ≤ 60 := by omega
    have hfa : f ≤ 1000000 - (a.flat.length : Int) := by omega
    have hfn : f ≤ 1000000 := by omega
    have HPA := a.flat_pos
    have hnp : (0 : Int) < (a.flat.length : Int) := by omega
    have HEQ : Hid ((Re.star a).fol f = a.fol f ++ prodL (a.lps f) (a.fps f)) := Lib.hid rfl
    rw [HEQ.out] at hn ⊢
    rw [List.length_append] at hn
    have HNL := Lib.hid hn
    have IHA : Hid (∀ (v : Value) (w : World), base ≤ w.heap.size → Pairs (· < base) w v a.flat → FLs base P w L → Calls Try.prog 118 #[v, .int .i64 f, .pointer (some ⟨P, 0, none⟩)] w (RFo base P w (L ++ a.fol f))) := Lib.hid (fun v w hb hp hi => iha ht hl' v f L w hb (by omega) hf0 hfa hp hi)
    have H := Lib.hid h; have HII := Lib.hid hi; have HN := Lib.hid hnn; have HL' := Lib.hid hl'; have HBW := Lib.hid hbw
    have HT : Hid a.wf := ht
    clear iha hnn e1 e2 hl hl' hf1 hn h hi ht
    go_enter Try.func118, Try.ntmps118
    go_wp2_with fail
    refine (l2Split1_c _ a.flat 8 0 w H.out (by decide) (by decide) (by have := HL'.out; omega) HPA).mono ?_
    rintro e w1 ⟨va, vb, rfl, hb1, hva, hvb⟩
    obtain ⟨aa, ca, rfl, _⟩ := hva.out.shape
    obtain ⟨ab, cb, rfl, _⟩ := hvb.out.shape
    have hs1 := hb1.size
    have HB1 := Lib.hid (hb1.mono hbw)
    have HF1 := Lib.hid (HII.out.stay hb1)
    have HA1 := hva
    clear hva hvb hb1
    go_wp2_with fail
    refine (IHA.out _ w1 (by have := HBW.out; omega) HA1.out HF1.out).mono ?_
    rintro e w2 ⟨rfl, hB2, hZ2, hF2⟩
    obtain ⟨W2, hW⟩ : ∃ W, W = two w2 := ⟨_, rfl⟩
    have hb2 : Below w2.heap.size w2 W2 := by rw [hW]; exact twoBel w2
    have hbw2 : base ≤ w2.heap.size := by have := HBW.out; have := hZ2.out; omega
    have HB2 := Lib.hid ((HB1.out.trans hB2.out).trans (hb2.mono hbw2))
    have HZ2 : Hid (w.heap.size ≤ W2.heap.size) := Lib.hid (by have := hZ2.out; have := hb2.size; omega)
    have FL2 := Lib.hid (hF2.out.stay hb2)
    have HA2 := Lib.hid ((HA1.out.stay (kpL hB2.out)).stay (kpL (hb2.mono hbw2)))
    obtain ⟨b, off, rfl, k0, k1⟩ := (H.out.stay (kpL HB2.out)).at (k := n) (by rw [HN.out, List.length_append]; exact Nat.lt_succ_self _)
    have k2 : Hid (W2.cell? ⟨b, off + n * 2, none⟩ = some (.int .i64 8)) := Lib.hid (by have hn := HN.out; subst hn; rw [flatOne] at k0; exact k0)
    clear k0 k1 hb2 hB2 hZ2 hF2 HA1 HF1 HB1 IHA
    have k3 := k2.out
    rw [hW] at k3
    unfold two at hW k3
    have HW := Lib.hid hW; clear hW
    go_wp2_with fail
    rw [← HW.out]
    clear k3
    refine (l12Ends_c a HT.out (by have := HL'.out; omega) _ f W2 hf0 hfa HA2.out).mono ?_
    rintro e w3 ⟨y1, y2, rfl, hb3, hy1, hy2⟩
    have hbW2 : base ≤ W2.heap.size := by have := HBW.out; have := HZ2.out; omega
    have hoy := Lib.hid (ownBase hy1.out hbW2)
    have hox := Lib.hid (ownBase hy2.out hbW2)
    have HBz := Lib.hid (HB2.out.trans (hb3.mono hbW2))
    have HZz : Hid (w.heap.size ≤ w3.heap.size) := Lib.hid (by have := HZ2.out; have := hb3.size; omega)
    have FLz := Lib.hid (FL2.out.stay hb3)
    obtain ⟨YS, hYS⟩ : ∃ z, z = a.fps f := ⟨_, rfl⟩
    obtain ⟨XS, hXS⟩ : ∃ z, z = a.lps f := ⟨_, rfl⟩
    obtain ⟨LA, hLA⟩ : ∃ z, z = L ++ a.fol f := ⟨_, rfl⟩
    have hoy' : OwnI w3 base y1 YS := by rw [hYS]; exact hoy.out
    have hox' : OwnI w3 base y2 XS := by rw [hXS]; exact hox.out
    have HNN : Hid (LA.length + (prodL XS YS).length ≤ 1000000) := Lib.hid (by rw [hLA, hXS, hYS, List.length_append]; have := HNL.out; omega)
    replace HEQ : Hid (L ++ (a.fol f ++ prodL (a.lps f) (a.fps f)) = LA ++ prodL XS YS) := Lib.hid (by rw [hLA, hXS, hYS, List.append_assoc])
    rw [← hLA] at FLz
    obtain ⟨ay, cy, rfl, _⟩ := hoy'.shape
    obtain ⟨ax, cx, rfl, _⟩ := hox'.shape
    have hoy := Lib.hid hoy'; have hox := Lib.hid hox'
    have HYS := Lib.hid hYS; have HXS := Lib.hid hXS; have HLA := Lib.hid hLA
    clear hYS hXS hLA hoy' hox' hy1 hy2 hb3 hfa
    go_wp2_with fail
    go_loopw [10] (fun i wr => ∃ k : Nat, k ≤ XS.length ∧ i = .int .i64 k ∧ Hid (Below base w wr) ∧ Hid (w.heap.size ≤ wr.heap.size) ∧ Hid (FLs base P wr (LA ++ prodL (XS.take k) YS)) ∧ Hid (OwnI wr base (.slice ax XS.length cx) XS) ∧ Hid (OwnI wr base (.slice ay YS.length cy) YS)) (fun i _ => XS.length - (intOf i).toNat)
    case atStart => exact ⟨0, by omega, rfl, HBz, HZz, Lib.hid (by simpa [prodL] using FLz.out), hox, hoy⟩
    case round =>
      obtain ⟨k, hk, rfl, hB, hZ, hF, hx, hy⟩ := hrel
      generalize wr = wq at *
      by_cases hlt : k < XS.length
      · have hkI : (k : Int) < (XS.length : Int) := by omega
        have HPS := Lib.hid (prodS_step XS YS hlt)
        obtain ⟨x, hx9⟩ : ∃ x, x = XS[k] := ⟨_, rfl⟩
        rw [← hx9] at HPS
        have Hx9 := Lib.hid hx9; clear hx9
        go_wp2_with fail
        go_loopw [11] (fun i wr => ∃ j : Nat, j ≤ YS.length ∧ i = .int .i64 j ∧ Hid (Below base w wr) ∧ Hid (w.heap.size ≤ wr.heap.size) ∧ Hid (FLs base P wr (LA ++ prodL (XS.take k) YS ++ (YS.take j).map fun b => (x, b))) ∧ Hid (OwnI wr base (.slice ax XS.length cx) XS) ∧ Hid (OwnI wr base (.slice ay YS.length cy) YS)) (fun i _ => YS.length - (intOf i).toNat)
        case atStart => exact ⟨0, by omega, rfl, hB, hZ, Lib.hid (by simpa using hF.out), hx, hy⟩
        case round =>
          obtain ⟨j, hj, rfl, hB2, hZ2, hF2, hx2, hy2⟩ := hrel
          generalize wr = wp at *
          by_cases hlt2 : j < YS.length
          · have hjI : (j : Int) < (YS.length : Int) := by omega
            have HMS := Lib.hid (mapS_step x YS hlt2)
            obtain ⟨b1, o1, e1, c1⟩ := hx2.out.rd.at hlt
            rw [← Hx9.out] at c1
            obtain ⟨b2, o2, e2, c2⟩ := hy2.out.rd.at hlt2
            obtain ⟨y, hy9⟩ : ∃ y, y = YS[j] := ⟨_, rfl⟩
            rw [← hy9] at c2 HMS
            clear hy9
            obtain ⟨vN, rs, h4, hl, hm⟩ := hF2.out
            have hrl : rs.length = (LA ++ prodL (XS.take k) YS ++ (YS.take j).map fun b => (x, b)).length := by rw [← List.length_map (f := fun p : Value × List Int => p.2), hm, List.length_map]
            have hpl : (prodL (XS.take k) YS).length + ((YS.take j).map fun b => (x, b)).length ≤ (prodL XS YS).length := by
              rw [prodL_len, prodL_len, List.length_take, List.length_map, List.length_take]
              have h1 : k * YS.length + YS.length ≤ XS.length * YS.length := by rw [← Nat.succ_mul]; exact Nat.mul_le_mul_right _ hlt
              rw [Nat.min_eq_left hk, Nat.min_eq_left hj]; omega
            have Hrl : Hid (rs.length ≤ 1000000000) := Lib.hid (by rw [hrl, List.length_append, List.length_append]; have := HNN.out; omega)
            have hzb : base ≤ wp.heap.size := by have := hZ2.out; have := HBW.out; omega
            have HMM := Lib.hid hm; have HL := Lib.hid hl; have H4 := Lib.hid h4
            obtain ⟨aN, nN, cN, hvN⟩ : ∃ a n c, vN = .slice a n c := by obtain ⟨a, c, e, _⟩ := (ownFl hl.own).shape; exact ⟨a, _, c, e⟩
            subst hvN
            have c4 := cell_of_row wp P 0 _ _ _ h4
            simp only [List.getElem?_toArray, List.getElem?_cons_zero] at c4
            cases e1
            cases e2
            have c1D : wp.drew.cell? ⟨b1, o1 + k, none⟩ = _ := c1
            have c2D : wp.drew.cell? ⟨b2, o2 + j, none⟩ = _ := c2
            have c4D : wp.drew.cell? ⟨P, 0, none⟩ = _ := c4
            have A1 : ∀ o : Obj, (wp.drew.alloc o).cell? ⟨P, 0, none⟩ = _ := fun o => kpAlloc (S := fun _ => True) _ _ trivial c4D
            have A2 : ∀ o : Obj, (wp.alloc o).drew.cell? ⟨P, 0, none⟩ = _ := A1
            have A3 : ∀ o o' : Obj, ((wp.drew.alloc o).alloc o').cell? ⟨P, 0, none⟩ = _ := fun o o' => kpAlloc (S := fun _ => True) _ _ trivial (A1 o)
            have A4 : ∀ o o' : Obj, ((wp.alloc o).alloc o').drew.cell? ⟨P, 0, none⟩ = _ := A3
            have A5 : ∀ o o' : Obj, ((wp.alloc o).drew.alloc o').cell? ⟨P, 0, none⟩ = _ := A3
            clear hrl hpl hl hm h4
            go_wp2_with fail
            go_region_law
              (refine stepAppAt elInts (by decide) rfl (.tmp 83) (.tmp 93) rfl base (.slice aN nN cN) rs.length (rs.map (·.1)) [.slice (some ⟨wp.heap.size, 0, none⟩) 2 2] _ (wp.heap.size + 1) rfl rfl (by exact ((HL.out.own.alloc _).alloc _)) (by exact blkNew _ _ (by simp)) rfl (by simp [Value.oneCell']) (by exact Hrl.out) (by simp; omega) ?_
               intro g7 cap7 w7 ho7 hg7 hat7
               have hb6 : Below wp.heap.size wp ((wp.drew.alloc (.cells #[.int .i64 x, .int .i64 y] 3)).alloc (.cells #[.slice (some ⟨wp.heap.size, 0, none⟩) 2 2] 34)) := ((Below.refl _ _).drew.alloc (Nat.le_refl _) _).alloc (by simp) _
               have k7 := blkGrow hg7 (blkBel hb6 H4.out) (fun e => ownNe (HL.out.stay hb6).own (blkBel hb6 H4.out) (by decide) e.symm)
               have c7 := cell_of_row w7 P 0 _ _ _ k7
               simp only [List.getElem?_toArray, List.getElem?_cons_zero] at c7
               have f7 := blkFz k7 0)
            all_goals (
              obtain ⟨q1, q2, q3, q4⟩ := FLs.add H4.out HL.out HMM.out hx2.out hy2.out hzb HP.out hg7 ho7.out
              have Q1 := Lib.hid q1; have Q2 := Lib.hid q2; have Q3 := Lib.hid q3
              have Q4 := Lib.hid (hB2.out.trans q4)
              have Q5 : Hid (w.heap.size ≤ (w7.setCell ⟨P, 0, none⟩ (.slice (some ⟨g7, 0, none⟩) (rs.length + 1) cap7)).heap.size) := Lib.hid (by
                have h1 : wp.heap.size + 1 + 1 ≤ w7.heap.size := by have h := hg7.size; simpa using h
                have h2 := hZ2.out
                simp [World.setCell]; omega)
              clear q1 q2 q3 q4 c7 f7 k7 hb6 hg7 ho7 hat7 c1D c2D c4D A1 A2 A3 A4 A5 c1 c2 c4
              go_wp2_with fail
              go_roundw
              case rel => exact ⟨j + 1, by omega, by go_num, Q4, Q5, Lib.hid (by rw [HMS.out, ← List.append_assoc]; exact Q1.out), Q2, Q3⟩
              case measure => simp [intOf]; omega)
          · obtain rfl : j = YS.length := by omega
            rw [List.take_length] at hF2
            go_wp2_with fail
            go_roundw
            case rel => exact ⟨k + 1, by omega, by go_num, hB2, hZ2, Lib.hid (by rw [HPS.out, ← List.append_assoc]; exact hF2.out), hx2, hy2⟩
            case measure => simp [intOf]; omega
      · obtain rfl : k = XS.length := by omega
        rw [List.take_length] at hF
        go_wp2
        refine bodyPost_end (v := .tuple #[]) (by simp [results, Try.results118, go_sem]) rfl ⟨rfl, hB, hZ, Lib.hid (by rw [HEQ.out]; exact hF.out)⟩
end Go.Proofs.Ytnjddneelkdmoaa

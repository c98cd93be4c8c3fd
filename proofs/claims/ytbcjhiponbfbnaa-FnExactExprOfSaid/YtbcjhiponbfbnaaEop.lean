/- The expression of an automaton: the plain law; l18Op of the reference. -/
import Derived.Deep.RegionHeld3
import Derived.Test.YtbcjhiponbfbnaaGG
import Derived.Test.YtbcjhiponbfbnaaLfm
set_option linter.unusedSimpArgs false
set_option linter.unusedVariables false
set_option linter.unusedSectionVars false
namespace Go.Proofs.Ytbcjhiponbfbnaa
open Go.RowKit
set_option maxRecDepth 100000
variable {S T : Nat → Prop}
theorem smp_mkJoin {a b : Re} (ha : a.smp = a) (hb : b.smp = b) : (a.mkJoin b).smp = a.mkJoin b := by
  unfold Re.mkJoin
  split
  · rfl
  · split
    · exact hb
    · split
      · exact ha
      · rename_i h1 h2 h3
        show a.smp.mkJoin b.smp = _
        rw [ha, hb]
        unfold Re.mkJoin
        rw [if_neg h1, if_neg h2, if_neg h3]
theorem smp_mkEither {a b : Re} (ha : a.smp = a) (hb : b.smp = b) : (a.mkEither b).smp = a.mkEither b := by
  unfold Re.mkEither
  split
  · exact hb
  · split
    · exact ha
    · rename_i h1 h2
      show a.smp.mkEither b.smp = _
      rw [ha, hb]
      unfold Re.mkEither
      rw [if_neg h1, if_neg h2]
theorem smp_mkStar {a : Re} (ha : a.smp = a) : a.mkStar.smp = a.mkStar := by
  cases a with
  | none => rfl
  | empty => rfl
  | star x => exact ha
  | _ => (show (Re.smp _).mkStar = _; rw [ha])
/-- The letters that lead from a row to state b, those below c. -/
def dirF (row : List Int) (b : Int) : Nat → Re
  | 0 => .none
  | c + 1 => if row.getD c 0 = b then (dirF row b c).mkEither (.letter c) else dirF row b c
/-- What leads straight from i to j. -/
def dirE (D : DfaD) (i j : Nat) : Re := if i = j then (dirF (D.1.getD i []) j 3).mkEither .empty else dirF (D.1.getD i []) j 3
/-- By way of k. -/
def wayE (tab : Nat → Nat → Re) (k i j : Nat) : Re := ((tab i k).mkJoin (tab k k).mkStar).mkJoin (tab k j)
/-- What leads from i to j by way of states below k. -/
def tabE (D : DfaD) : Nat → Nat → Nat → Re
  | 0 => dirE D
  | k + 1 => fun i j => (tabE D k i j).mkEither (wayE (tabE D k) k i j)
/-- What leads from state 0 to the ends below c. -/
def outE (D : DfaD) (n : Nat) : Nat → Re
  | 0 => .none
  | c + 1 => if D.2.getD c false then (outE D n c).mkEither (tabE D n 0 c) else outE D n c
/-- Nothing grows too long. -/
def fitE (D : DfaD) (k i j : Nat) : Prop := (wayE (tabE D k) k i j).len ≤ 60 ∧ (tabE D (k + 1) i j).len ≤ 60
instance (D : DfaD) (k i j : Nat) : Decidable (fitE D k i j) := inferInstanceAs (Decidable (_ ∧ _))
def fitsE (D : DfaD) (n : Nat) : Prop := ∀ k i j, k < n → i < n → j < n → fitE D k i j
theorem dirF_wf (row : List Int) (b : Int) : ∀ c, c ≤ 3 → (dirF row b c).wf
  | 0, _ => trivial
  | c + 1, h => by
    unfold dirF
    split
    · exact mkEither_wf (dirF_wf row b c (by omega)) ⟨by omega, by omega⟩
    · exact dirF_wf row b c (by omega)
theorem dirE_wf (D : DfaD) (i j : Nat) : (dirE D i j).wf := by
  unfold dirE
  split
  · exact mkEither_wf (dirF_wf _ _ 3 (by omega)) trivial
  · exact dirF_wf _ _ 3 (by omega)
theorem wayE_wf {tab : Nat → Nat → Re} (h : ∀ i j, (tab i j).wf) (k i j : Nat) : (wayE tab k i j).wf := mkJoin_wf (mkJoin_wf (h i k) (mkStar_wf (h k k))) (h k j)
theorem tabE_wf (D : DfaD) : ∀ k i j, (tabE D k i j).wf
  | 0, i, j => dirE_wf D i j
  | k + 1, i, j => mkEither_wf (tabE_wf D k i j) (wayE_wf (tabE_wf D k) k i j)
theorem outE_wf (D : DfaD) (n : Nat) : ∀ c, (outE D n c).wf
  | 0 => trivial
  | c + 1 => by
    unfold outE
    split
    · exact mkEither_wf (outE_wf D n c) (tabE_wf D n 0 c)
    · exact outE_wf D n c
theorem dirF_len (row : List Int) (b : Int) : ∀ c, (dirF row b c).len ≤ 2 * c + 1
  | 0 => Nat.le_refl _
  | c + 1 => by
    have := dirF_len row b c
    unfold dirF
    split
    · have h1 := len_mkEither (dirF row b c) (.letter c)
      have h2 : (Re.letter c).len = 1 := rfl
      omega
    · omega
theorem dirE_len (D : DfaD) (i j : Nat) : (dirE D i j).len ≤ 9 := by
  have h1 := dirF_len (D.1.getD i []) j 3
  unfold dirE
  split
  · have h2 := len_mkEither (dirF (D.1.getD i []) j 3) .empty
    have h3 : Re.empty.len = 1 := rfl
    omega
  · omega
theorem dirF_smp (row : List Int) (b : Int) : ∀ c, (dirF row b c).smp = dirF row b c
  | 0 => rfl
  | c + 1 => by
    unfold dirF
    split
    · exact smp_mkEither (dirF_smp row b c) rfl
    · exact dirF_smp row b c
theorem dirE_smp (D : DfaD) (i j : Nat) : (dirE D i j).smp = dirE D i j := by
  unfold dirE
  split
  · exact smp_mkEither (dirF_smp _ _ 3) rfl
  · exact dirF_smp _ _ 3
theorem tabE_smp (D : DfaD) : ∀ k i j, (tabE D k i j).smp = tabE D k i j
  | 0, i, j => dirE_smp D i j
  | k + 1, i, j => smp_mkEither (tabE_smp D k i j) (smp_mkJoin (smp_mkJoin (tabE_smp D k i k) (smp_mkStar (tabE_smp D k k k))) (tabE_smp D k k j))
theorem outE_smp (D : DfaD) (n : Nat) : ∀ c, (outE D n c).smp = outE D n c
  | 0 => rfl
  | c + 1 => by
    unfold outE
    split
    · exact smp_mkEither (outE_smp D n c) (tabE_smp D n 0 c)
    · exact outE_smp D n c
/-- Where all of a round fits, each is short. -/
theorem tabE_len {D : DfaD} {n k : Nat} (h : ∀ k', k' < k → ∀ i j, i < n → j < n → fitE D k' i j) {i j : Nat} (hi : i < n) (hj : j < n) : (tabE D k i j).len ≤ 60 := by
  cases k with
  | zero => have := dirE_len D i j; show (dirE D i j).len ≤ 60; omega
  | succ k => exact (h k (by omega) i j hi hj).2
theorem outE_len {D : DfaD} {n : Nat} (h : ∀ i j, i < n → j < n → (tabE D n i j).len ≤ 60) : ∀ c, c ≤ n → (outE D n c).len ≤ 61 * c + 1
  | 0, _ => Nat.le_refl _
  | c + 1, hc => by
    have h1 := outE_len h c (by omega)
    unfold outE
    split
    · have h2 := len_mkEither (outE D n c) (tabE D n 0 c)
      have h3 := h 0 c (by omega) (by omega)
      omega
    · omega
theorem ownCopyP {w : World} {base n : Nat} {v : Value} {xs : List (Int × Int)} (h : w.ownsRow base 67 2 v (0 + n) ([] ++ cells2 xs)) (hn : n = xs.length) : OwnP w base v xs := by
  subst hn
  rw [Nat.zero_add, List.nil_append] at h; exact h
theorem cells2_onesP (xs : List (Int × Int)) : ∀ u ∈ cells2 xs, u.oneCell' = true := by
  intro u hu
  unfold cells2 at hu
  rw [List.mem_flatMap] at hu
  obtain ⟨p, _, h⟩ := hu
  simp at h
  rcases h with rfl | rfl <;> rfl
set_option maxHeartbeats 800000 in
theorem l18Op_c (k : Int) (A B : List (Int × Int)) (R : Re) (hk : L5 k 0 A B R) (va vb : Value) (w : World) (hA : PL0 w va A) (hB : PL0 w vb B) (hl : A.length + B.length ≤ 1000000) (hr : R.len ≤ 1000000) :
    Calls Try.prog 65 #[.int .i64 k, va, vb] w (RE w R) := by
  obtain ⟨a1, c1, rfl, _⟩ := Pairs.shape hA
  obtain ⟨a2, c2, rfl, _⟩ := Pairs.shape hB
  have HR := Lib.hid hk.1
  have HK := Lib.hid hk
  obtain ⟨W, hW⟩ : ∃ W, W = w.alloc (.cells #[] 67) := ⟨_, rfl⟩
  have hbW : Below w.heap.size w W := by rw [hW]; exact (Below.refl _ _).alloc (Nat.le_refl _) _
  have HO : Hid (OwnP W w.heap.size (.slice (some ⟨w.heap.size, 0, none⟩) 0 0) []) := Lib.hid (by rw [hW]; exact ownLit (n := 0) [] (Nat.le_refl _) (by omega) rfl)
  have HA := Lib.hid (PL0.stay hA hbW); have HB := Lib.hid (PL0.stay hB hbW)
  have HbW := Lib.hid hbW; have HW := Lib.hid hW
  have hbs := hbW.size
  have HL := Lib.hid hl; have HR1 := Lib.hid hr
  clear hA hB hbW hW hk hl hr
  go_enter Try.func65, Try.ntmps65
  go_wp2_with fail
  rw [← HW.out]
  refine (l5Make_c k 0 A B R HK.out _ _ W HA.out HB.out HL.out).mono ?_
  rintro e w1 ⟨v, rfl, hb1, hp⟩
  obtain ⟨a3, c3, rfl, _⟩ := PR.shape hp.out
  have HO1 : Hid (OwnP w1 w.heap.size (.slice (some ⟨w.heap.size, 0, none⟩) 0 0) []) := Lib.hid (ownStay HO.out hb1)
  have HB1 := Lib.hid (HbW.out.trans (hb1.mono hbs))
  have hbs1 := HB1.out.size
  have hlen : R.flat.length ≤ 1000000 := HR1.out
  clear hb1 HA HB HO HbW HW
  go_wp2_with (at_builtin; refine appMany (S := PT w1) elPart (by decide) rfl (.tmp 7) (.tmp 12) rfl w.heap.size _ _ 0 _ [] (cells2 _) w1 rfl rfl HO1.out hp.out.2 (by rw [length_cells2]; omega) (cells2_onesP _) (by omega) hbs1 ?_; intro v2 w2 h2 hg2)
  go_ret
  exact RE.mk (HB1.out.grown hg2 hbs1 (fun k hk => (World.ownsRow.lt HO1.out k hk).1)) ((ownCopyP h2.out rfl).pr HR.out)
theorem PR.slX {w : World} {v : Value} {t : Re} (h : PR w v t) : ∃ (a : Option Addr) (n x : Nat), v = .slice a n x := let ⟨_, _, z, _⟩ := h.shape; ⟨_, _, _, z⟩
set_option maxHeartbeats 1600000 in
theorem direct_c (vn ve : Value) (D : DfaD) (i j : Nat) (w : World) (h : DfaR S w vn ve D) (hD : okD D) (hi : i < D.1.length) (hj : j < D.1.length) :
    Calls Try.prog 113 #[.agg #[vn, ve], .int .i64 i, .int .i64 j] w (RE w (dirE D i j)) := by
  obtain ⟨a, ca, b, d, rfl, rfl, hn, hm⟩ := h.shapes
  obtain ⟨W, hW⟩ : ∃ W, W = w.alloc (.cells #[.slice a D.1.length ca, .slice b D.2.length d] 52) := ⟨_, rfl⟩
  have Hb0 : Hid (Below w.heap.size w W) := by rw [hW]; exact (Below.refl _ _).alloc (Nat.le_refl _) _
  have K0 : Hid (W.heap[w.heap.size]? = some (.cells #[.slice a D.1.length ca, .slice b D.2.length d] 52 (0, 0))) := by rw [hW]; exact blkNew _ _ rfl
  have H := Lib.hid (h.stay (kpB Hb0.out)); clear h
  have HW := Lib.hid hW; clear hW
  have hn40 : D.1.length ≤ 40 := hD.1.2
  have HR := Lib.hid (hD.2.2 _ (List.getElem_mem hi))
  have HG : Hid (D.1.getD i [] = D.1[i]) := Lib.hid (by rw [List.getD_eq_getElem?_getD, List.getElem?_eq_getElem hi]; rfl)
  have hiI : (i : Int) < (D.1.length : Int) := by omega
  clear hD
  go_enter Try.func113, Try.ntmps113
  go_wp2_with fail
  rw [← HW.out]
  refine (leafR_c 1 .none W trivial rfl).mono ?_
  rintro e w1 ⟨v1, rfl, hb1, hp1⟩
  obtain ⟨c0, c1, _, _⟩ := blk2 (blkBel hb1 K0.out)
  obtain ⟨rb, ro, vr, rfl, hc, hrow⟩ := ((H.out.stay (kpB hb1)).1).at hi
  obtain ⟨ar, cr, rfl, _⟩ := hrow.shape
  obtain ⟨row, hrw⟩ : ∃ row, row = D.1[i] := ⟨_, rfl⟩
  rw [← hrw] at hc hrow HR HG
  have hr3 := HR.out.1
  rw [hr3] at hc hrow
  have HRow : Hid (∀ w', Below W.heap.size W w' → w1.heap.size ≤ w'.heap.size → Below w1.heap.size w1 w' → Ints S w' (.slice ar 3 cr) row) := Lib.hid fun w' _ _ hb' => hrow.stay (kpB hb')
  have HL3 := Lib.hid hr3
  have HDE : Hid (dirE D i j = if i = j then (dirF row j 3).mkEither .empty else dirF row j 3) := Lib.hid (by unfold dirE; rw [HG.out])
  have HB1 := Lib.hid hb1
  have hz1 := hb1.size
  have HP1 : Hid (PR w1 v1 (dirF row j 0)) := Lib.hid hp1.out
  clear hrw hr3 hrow hp1 hb1 HR HG H K0
  obtain ⟨a1, n1, x1, rfl⟩ : ∃ a n x, v1 = .slice a n x := let ⟨x, y, z, _⟩ := HP1.out.shape; ⟨_, _, _, z⟩
  go_wp2_with fail
  go_loopw [7, 8, 9, 17] (fun v _ _ c wr => ∃ k : Nat, k ≤ 3 ∧ c = .int .i64 k ∧ Hid (PR wr v (dirF row j k)) ∧ Hid (Below w1.heap.size w1 wr)) (fun _ _ _ c _ => 3 - (intOf c).toNat)
  case atStart => exact ⟨0, by omega, rfl, HP1, Lib.hid (Below.refl _ _)⟩
  case round =>
    clear HP1 c0 c1 hc
    obtain ⟨k, hk, rfl, hP, hB⟩ := hrel
    obtain ⟨a2, n2, x2, rfl⟩ := hP.out.slX
    have hlen := dirF_len row j k
    by_cases hlt : k < 3
    · have hkI : (k : Int) < 3 := by omega
      obtain ⟨rb2, ro2, rfl, cx⟩ := (HRow.out wr (HB1.out.trans (hB.out.mono hz1)) hB.out.size hB.out).at (k := k) (by rw [HL3.out]; exact hlt)
      have HF : Hid (dirF row j (k + 1) = if row[k]'(by rw [HL3.out]; exact hlt) = (j : Int) then (dirF row j k).mkEither (.letter k) else dirF row j k) := Lib.hid (by
        show (if row.getD k 0 = (j : Int) then _ else _) = _
        rw [List.getD_eq_getElem?_getD, List.getElem?_eq_getElem (by rw [HL3.out]; exact hlt)]; rfl)
      generalize row[k]'(by rw [HL3.out]; exact hlt) = x at *
      by_cases hx : x = (j : Int)
      · subst hx
        rw [if_pos rfl] at HF
        obtain ⟨Z, hZ⟩ : ∃ Z, Z = wr.alloc (.cells #[.int .i64 3, .int .i64 k] 67) := ⟨_, rfl⟩
        have hbZ : Below wr.heap.size wr Z := by rw [hZ]; exact (Below.refl _ _).alloc (Nat.le_refl _) _
        have HO : Hid (OwnP Z wr.heap.size (.slice (some ⟨wr.heap.size, 0, none⟩) 1 1) [(3, (k : Int))]) := Lib.hid (by rw [hZ]; exact ownLit (n := 1) [.int .i64 3, .int .i64 k] (Nat.le_refl _) (by omega) rfl)
        have HPL : Hid (PR Z _ (.letter k)) := Lib.hid (OwnP.pr (t := .letter k) HO.out ⟨by omega, by omega⟩)
        have HPZ := Lib.hid (hP.out.stay hbZ)
        have HBZ := Lib.hid (hB.out.trans (hbZ.mono hB.out.size))
        have HZ := Lib.hid hZ
        have hll : (dirF row j k).len + (Re.letter k).len ≤ 1000000 := by have : (Re.letter k).len = 1 := rfl; omega
        have HLL := Lib.hid hll
        clear hZ hbZ HO hP hB hll hlen
        go_wp2_with fail
        rw [← HZ.out]
        refine (either_c _ _ _ _ Z HPZ.out HPL.out HLL.out).mono ?_
        rintro e w3 ⟨v3, rfl, hb3, hp3⟩
        have HB3 := Lib.hid (HBZ.out.trans (hb3.mono HBZ.out.size))
        have HP3 : Hid (PR w3 v3 (dirF row j (k + 1))) := Lib.hid (by rw [HF.out]; exact hp3.out)
        clear hb3 hp3
        go_wp2
        go_roundw
        case rel => exact ⟨k + 1, by omega, by go_num, HP3, HB3⟩
        case measure => simp [intOf]; omega
      · have hne : (x == (j : Int)) = false := by simpa using hx
        rw [if_neg hx] at HF
        have HP3 : Hid (PR wr _ (dirF row j (k + 1))) := Lib.hid (by rw [HF.out]; exact hP.out)
        clear hP
        go_wp2
        go_roundw
        case rel => exact ⟨k + 1, by omega, by go_num, HP3, hB⟩
        case measure => simp [intOf]; omega
    · obtain rfl : k = 3 := by omega
      have HBf := Lib.hid (Hb0.out.trans ((HB1.out.trans (hB.out.mono hz1)).mono Hb0.out.size))
      by_cases hij : i = j
      · subst hij
        rw [if_pos rfl] at HDE
        have HLN := Lib.hid hlen
        clear hlen
        go_wp2_with fail
        refine (leafR_c 2 .empty wr trivial rfl).mono ?_
        rintro e w4 ⟨v4, rfl, hb4, hp4⟩
        obtain ⟨a4, n4, x4, rfl⟩ : ∃ a n x, v4 = .slice a n x := let ⟨x, y, z, _⟩ := hp4.out.shape; ⟨_, _, _, z⟩
        go_wp2_with fail
        refine (either_c _ _ _ _ w4 (hP.out.stay hb4) hp4.out (by have := HLN.out; have : Re.empty.len = 1 := rfl; omega)).mono ?_
        rintro e w5 ⟨v5, rfl, hb5, hp5⟩
        go_wp2
        go_ret
        exact RE.mk ((HBf.out.trans (hb4.mono HBf.out.size)).trans (hb5.mono (Nat.le_trans HBf.out.size hb4.size))) (by rw [HDE.out]; exact hp5.out)
      · have hne : ((i : Int) == (j : Int)) = false := by simp; omega
        rw [if_neg hij] at HDE
        go_wp2
        go_ret
        exact RE.mk HBf.out (by rw [HDE.out]; exact hP.out)
end Go.Proofs.Ytbcjhiponbfbnaa

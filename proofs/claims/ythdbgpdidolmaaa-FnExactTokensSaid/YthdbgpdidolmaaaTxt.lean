/- Matches in texts: the longest part, the first match, all matches; the program's and the reference's answers. Valid automata, valid texts. -/
import Derived.Test.YthdbgpdidolmaaaDfv
namespace Go.Proofs.Ythdbgpdidolmaaa
open Go.RowKit
set_option maxRecDepth 100000
variable {S : Nat → Prop}

/-- The number of the letter at a place. -/
def ltr (s : ByteArray) (k : Nat) : Nat := if h : k < s.size then s[k].toNat - 97 else 0
theorem ltr_lt {s : ByteArray} (hs : letS s) {k : Nat} (h : k < s.size) : ltr s k < 3 ∧ (s[k].toNat : Int) - 97 = (ltr s k : Int) := by
  have := hs k h
  unfold letB at this
  unfold ltr
  rw [dif_pos h]
  omega
/-- The state behind j letters from a place on. -/
def stt (D : DfaD) (s : ByteArray) (f : Nat) : Nat → Nat
  | 0 => 0
  | j + 1 => dn D (stt D s f j) (ltr s (f + j))
theorem stt_lt {D : DfaD} (hD : okD D) {s : ByteArray} (hs : letS s) (f : Nat) : ∀ j, f + j ≤ s.size → stt D s f j < D.1.length
  | 0, _ => hD.1.1
  | j + 1, h => dn_lt hD (stt_lt hD hs f j (by omega)) (ltr_lt hs (by omega)).1
/-- The end of the longest part behind at most j letters. -/
def bst (D : DfaD) (s : ByteArray) (f : Nat) : Nat → Int
  | 0 => if de D 0 then (f : Int) else -1
  | j + 1 => if de D (stt D s f (j + 1)) then ((f + (j + 1) : Nat) : Int) else bst D s f j
theorem bst_bd (D : DfaD) (s : ByteArray) (f : Nat) : ∀ j, bst D s f j = -1 ∨ ((f : Int) ≤ bst D s f j ∧ bst D s f j ≤ f + j)
  | 0 => by unfold bst; split <;> omega
  | j + 1 => by
    have := bst_bd D s f j
    unfold bst; split <;> omega
/-- The end of the longest part that begins at a place. -/
def lon (D : DfaD) (s : ByteArray) (f : Nat) : Int := bst D s f (s.size - f)
theorem lon_bd (D : DfaD) (s : ByteArray) {f : Nat} (h : f ≤ s.size) : lon D s f = -1 ∨ ((f : Int) ≤ lon D s f ∧ lon D s f ≤ s.size) := by
  have := bst_bd D s f (s.size - f)
  unfold lon; omega
/-- The same, before place f + j is looked at. -/
def bsp (D : DfaD) (s : ByteArray) (f : Nat) : Nat → Int
  | 0 => -1
  | j + 1 => bst D s f j
theorem bsp_bd (D : DfaD) (s : ByteArray) (f : Nat) (j : Nat) : bsp D s f j = -1 ∨ ((f : Int) ≤ bsp D s f j ∧ bsp D s f j ≤ f + j) := by
  cases j with
  | zero => exact .inl rfl
  | succ j => have := bst_bd D s f j
              show bst D s f j = -1 ∨ ((f : Int) ≤ bst D s f j ∧ bst D s f j ≤ f + (j + 1 : Nat))
              omega
theorem bst_of (D : DfaD) (s : ByteArray) (f j : Nat) : bst D s f j = if de D (stt D s f j) then ((f + j : Nat) : Int) else bsp D s f j := by
  cases j with
  | zero => simp [bst, stt, bsp]; rfl
  | succ j => simp [bst, bsp]
theorem letter_x (s : ByteArray) (k : Nat) (w : World) (hs : s.size ≤ maxLen) (hk : k < s.size) (hl : letS s) :
    Calls Try.prog 125 #[.string s, .int .i64 k] w (fun e w' => e = .returned (.int .i64 (ltr s k)) ∧ w' = w) :=
  (letter_c s k w hs hk (hl k hk)).mono fun e w' ⟨n, he, hw, hn⟩ => ⟨by rw [he, hn.out.1, (ltr_lt hl hk).2], hw.symm⟩

set_option maxHeartbeats 400000 in
theorem longest_c (vn ve : Value) (D : DfaD) (s : ByteArray) (f : Nat) (w : World) (h : DfaR S w vn ve D) (hD : okD D) (hs : letS s ∧ s.size ≤ 30) (hf : f ≤ s.size) :
    Calls Try.prog 117 #[.agg #[vn, ve], .string s, .int .i64 f] w (RIn w fun n => n = lon D s f ∧ -1 ≤ n ∧ n ≤ s.size) := by
  obtain ⟨a, c, b, d, rfl, rfl, hn, hm⟩ := (h).shapes
  obtain ⟨W, hW⟩ : ∃ W, W = w.alloc (.cells #[.slice a D.1.length c, .slice b D.2.length d] 36) := ⟨_, rfl⟩
  have Hb0 : Hid (Below w.heap.size w W) := by rw [hW]; exact (Below.refl _ _).alloc (Nat.le_refl _) _
  have c0 : W.cell? ⟨w.heap.size, 0, none⟩ = some (.slice a D.1.length c) := by rw [hW, World.cell?_alloc_mark]; rfl
  have c1 : W.cell? ⟨w.heap.size, 1, none⟩ = some (.slice b D.2.length d) := by rw [hW, World.cell?_alloc_mark]; rfl
  have K0 : Hid (W.heap[w.heap.size]? = some (.cells #[.slice a D.1.length c, .slice b D.2.length d] 36 (0, 0))) := by rw [hW]; exact blkNew _ _ rfl
  have Hz : Hid (W.heap.size = w.heap.size + 1) := by rw [hW]; simp [Hid]
  have H := Lib.hid ((h).stay (kpB Hb0.out)); clear h
  have HW := Lib.hid hW; clear hW
  have hs2 := hs.2
  have Hl := Lib.hid hs.1
  have HD := Lib.hid hD
  have Hdl := Lib.hid hD.2.1
  clear hs hD
  go_enter Try.func117, Try.ntmps117
  go_wp2
  rw [← HW.out]
  go_loopw [7, 8, 9] (fun e st to wr => ∃ (j : Nat) (x y : Nat) (z : Int), f + j ≤ s.size ∧ to = .int .i64 y ∧ (f + j ≤ y ∧ y ≤ f + j) ∧ st = .int .i64 x ∧ e = .int .i64 z ∧ Hid (x = stt D s f j ∧ z = bsp D s f j) ∧ ∃ q, wr = W.drewN q) (fun _ _ to _ => s.size - (intOf to).toNat)
  case atStart => exact ⟨0, 0, f, -1, by omega, rfl, by omega, rfl, rfl, ⟨rfl, rfl⟩, 0, rfl⟩
  case round =>
    obtain ⟨j, x, y, z, hj, rfl, hy, rfl, rfl, Hxz, q, rfl⟩ := hrel
    have Hy : Hid (y = f + j) := Nat.le_antisymm hy.2 hy.1
    have hx : x < D.1.length := by rw [Hxz.out.1]; exact stt_lt HD.out Hl.out f j hj
    obtain ⟨be, oe, rfl, he⟩ := H.out.mark HD.out hx
    have hbo := bst_of D s f j
    rw [← Hxz.out.1, ← Hxz.out.2] at hbo
    have hzb := bst_bd D s f j
    have hzp := bsp_bd D s f j
    rw [← Hxz.out.2] at hzp
    cases hde : de D x
    all_goals
      rw [hde] at he hbo
      simp only [if_true, if_false, Bool.false_eq_true] at hbo
      have Hbo := Lib.hid hbo; clear hbo hde
      have hx2 : x < D.2.length := by rw [Hdl.out]; exact hx
      by_cases hlt : y < s.size
      · obtain ⟨hl3, _⟩ := ltr_lt Hl.out hlt
        obtain ⟨bn, on, br, or_, cr, rfl, hr1, hr2, hr3⟩ := H.out.step HD.out hx hl3
        have hlx : ((ltr s y : Nat) : Int) < 3 := by omega
        go_wp2_with fail
        go_quiet ((go_at_call 125; exact qAdd (letter_x _ _ _ (by unfold maxLen; omega) hlt Hl.out)))
        go_wp2
        go_roundw
        case rel => exact ⟨j + 1, _, y + 1, _, by omega, by go_num, by omega, rfl, rfl, ⟨by rw [Hxz.out.1, Hy.out]; rfl, by show _ = bst D s f j; rw [Hbo.out] <;> (have := Hy.out; omega)⟩, _, rfl⟩
        case measure => simp [intOf]; omega
      · obtain rfl : y = s.size := by omega
        have hfin : lon D s f = bst D s f j := by unfold lon; congr 1; omega
        go_wp2
        go_ret
        exact RIn.mk (belDrewN Hb0.out _) ⟨by rw [hfin, Hbo.out] <;> (have := Hy.out; omega), by omega, by omega⟩
set_option maxHeartbeats 800000 in
theorem l19Longest_c (vn ve : Value) (D : DfaD) (s : ByteArray) (f : Nat) (w : World) (h : DfaR S w vn ve D) (hD : okD D) (hs : letS s ∧ s.size ≤ 30) (hf : f ≤ s.size) :
    Calls Try.prog 94 #[.agg #[vn, ve], .string s, .int .i64 f] w (RIn w fun n => n = lon D s f ∧ -1 ≤ n ∧ n ≤ s.size) := by
  obtain ⟨a, c, b, d, rfl, rfl, hn, hm⟩ := (h).shapes
  obtain ⟨W, hW⟩ : ∃ W, W = w.alloc (.cells #[.slice a D.1.length c, .slice b D.2.length d] 36) := ⟨_, rfl⟩
  have Hb0 : Hid (Below w.heap.size w W) := by rw [hW]; exact (Below.refl _ _).alloc (Nat.le_refl _) _
  have c0 : W.cell? ⟨w.heap.size, 0, none⟩ = some (.slice a D.1.length c) := by rw [hW, World.cell?_alloc_mark]; rfl
  have c1 : W.cell? ⟨w.heap.size, 1, none⟩ = some (.slice b D.2.length d) := by rw [hW, World.cell?_alloc_mark]; rfl
  have K0 : Hid (W.heap[w.heap.size]? = some (.cells #[.slice a D.1.length c, .slice b D.2.length d] 36 (0, 0))) := by rw [hW]; exact blkNew _ _ rfl
  have Hz : Hid (W.heap.size = w.heap.size + 1) := by rw [hW]; simp [Hid]
  have H := Lib.hid ((h).stay (kpB Hb0.out)); clear h
  have HW := Lib.hid hW; clear hW
  have hs2 := hs.2
  have Hl := Lib.hid hs.1
  have HD := Lib.hid hD
  have h0D : 0 < D.1.length := hD.1.1
  have h0E : 0 < D.2.length := by rw [hD.2.1]; exact h0D
  have Hdl := Lib.hid hD.2.1
  clear hs hD
  obtain ⟨b0, o0, rfl, hc0⟩ := H.out.mark HD.out h0D
  have hb00 : bst D s f 0 = if de D 0 then (f : Int) else -1 := rfl
  rw [Nat.add_zero] at hc0
  cases hde0 : de D 0
  all_goals
    rw [hde0] at hc0 hb00
    simp only [if_true, if_false, Bool.false_eq_true] at hb00
    have Hb00 := Lib.hid hb00; clear hb00 hde0
    rw [HW.out] at hc0
    go_enter Try.func94, Try.ntmps94
    go_wp2
    rw [← HW.out]
    go_loopw [7, 8, 9] (fun e st to wr => ∃ (j : Nat) (x y : Nat) (z : Int), f + j ≤ s.size ∧ to = .int .i64 y ∧ (f + j ≤ y ∧ y ≤ f + j) ∧ st = .int .i64 x ∧ e = .int .i64 z ∧ Hid (x = stt D s f j ∧ z = bst D s f j) ∧ ∃ q, wr = W.drewN q) (fun _ _ to _ => s.size - (intOf to).toNat)
    case atStart => exact ⟨0, 0, f, _, by omega, rfl, by omega, rfl, rfl, ⟨rfl, Hb00.out.symm⟩, 0, rfl⟩
    case round =>
      obtain ⟨j, x, y, z, hj, rfl, hy, rfl, rfl, Hxz, q, rfl⟩ := hrel
      clear hc0
      have Hy : Hid (y = f + j) := Nat.le_antisymm hy.2 hy.1
      have hx : x < D.1.length := by rw [Hxz.out.1]; exact stt_lt HD.out Hl.out f j hj
      have hzb := bst_bd D s f j
      rw [← Hxz.out.2] at hzb
      by_cases hlt : y < s.size
      · obtain ⟨hl3, hl4⟩ := ltr_lt Hl.out hlt
        obtain ⟨bn, on, br, or_, cr, rfl, hr1, hr2, hr3⟩ := H.out.step HD.out hx hl3
        have hx' : dn D x (ltr s y) < D.2.length := by rw [Hdl.out]; exact hr3
        obtain ⟨bm, om, e, he⟩ := H.out.mark HD.out hr3
        cases e
        have hbo : bst D s f (j + 1) = if de D (dn D x (ltr s y)) then ((f + (j + 1) : Nat) : Int) else z := by rw [Hxz.out.2, Hxz.out.1, Hy.out]; rfl
        have hst : Hid (stt D s f (j + 1) = dn D x (ltr s y)) := by rw [Hxz.out.1, Hy.out]; rfl
        obtain ⟨nx, hnx⟩ : ∃ nx, nx = dn D x (ltr s y) := ⟨_, rfl⟩
        rw [← hnx] at hr2 hr3 hx' he hbo hst
        have Hnx := Lib.hid hnx; clear hnx
        obtain ⟨l, hl⟩ : ∃ l, l = ltr s y := ⟨_, rfl⟩
        rw [← hl] at hr2 hl3 hl4
        have Hl' := Lib.hid hl; clear hl
        have hlx : ((l : Nat) : Int) < 3 := by omega
        have hl0 : (0 : Int) ≤ (l : Int) := by omega
        have hw1 : IntKind.u8.wrap ((s[y].toNat : Int) - 97) = (l : Int) := by rw [hl4]; exact IntWalk.u8_in _ (by omega)
        have hw2 : IntKind.i64.wrap (l : Int) = (l : Int) := IntWalk.i64_in _ (by omega)
        clear hl4
        cases hde : de D nx
        all_goals
          rw [hde] at he hbo
          simp only [if_true, if_false, Bool.false_eq_true] at hbo
          have Hbo := Lib.hid hbo; clear hbo hde
          go_wp2_with fail
          go_quiet (fail)
          go_wp2
          go_roundw
          case rel => exact ⟨j + 1, nx, y + 1, _, by omega, by go_num, by omega, rfl, rfl, ⟨hst.out.symm, by rw [Hbo.out] <;> (have := Hy.out; omega)⟩, _, rfl⟩
          case measure => simp [intOf]; omega
      · obtain rfl : y = s.size := by omega
        have hfin : lon D s f = bst D s f j := by unfold lon; congr 1; omega
        go_wp2
        go_ret
        exact RIn.mk (belDrewN Hb0.out _) ⟨by rw [hfin, Hxz.out.2], by omega, by omega⟩
/-- The first match from a place on, in so many steps. -/
def fnd (D : DfaD) (s : ByteArray) : Nat → Nat → Option (Int × Int)
  | 0, _ => none
  | n + 1, f => if 0 ≤ lon D s f then some ((f : Int), lon D s f) else fnd D s n (f + 1)
/-- The first match from a place on. -/
def find (D : DfaD) (s : ByteArray) (f : Nat) : Option (Int × Int) := fnd D s (s.size + 1 - f) f
theorem find_end (D : DfaD) (s : ByteArray) : find D s (s.size + 1) = none := by unfold find; rw [Nat.sub_self]; rfl
theorem find_step (D : DfaD) (s : ByteArray) {f : Nat} (h : f ≤ s.size) : find D s f = if 0 ≤ lon D s f then some ((f : Int), lon D s f) else find D s (f + 1) := by
  unfold find
  have : s.size + 1 - f = (s.size + 1 - (f + 1)) + 1 := by omega
  rw [this]; rfl
/-- The call answers a pair of numbers, or none; new memory at most. -/
def R2o (w : World) (o : Option (Int × Int)) (e : Ending) (w' : World) : Prop := e = .returned (.tuple #[.agg #[.int .i64 (o.getD (0, 0)).1, .int .i64 (o.getD (0, 0)).2], .bool o.isSome]) ∧ Below w.heap.size w w'
open Classical in
/-- The first match from a place on, if all is valid. -/
noncomputable def ffs (D : DfaD) (s : ByteArray) (f : Int) : Option (Int × Int) := if okD D ∧ (letS s ∧ s.size ≤ 30) ∧ 0 ≤ f ∧ f ≤ s.size then find D s f.toNat else none
theorem ffs_yes {D : DfaD} {s : ByteArray} {f : Int} (h1 : okD D) (h2 : letS s ∧ s.size ≤ 30) (h3 : 0 ≤ f ∧ f ≤ s.size) : ffs D s f = find D s f.toNat := by unfold ffs; rw [if_pos ⟨h1, h2, h3⟩]
theorem ffs_no1 {D : DfaD} {s : ByteArray} {f : Int} (h : ¬ okD D) : ffs D s f = none := by unfold ffs; rw [if_neg fun hh => h hh.1]
theorem ffs_no2 {D : DfaD} {s : ByteArray} {f : Int} (h : ¬ (letS s ∧ s.size ≤ 30)) : ffs D s f = none := by unfold ffs; rw [if_neg fun hh => h hh.2.1]
theorem ffs_no3 {D : DfaD} {s : ByteArray} {f : Int} (h : ¬ (0 ≤ f ∧ f ≤ s.size)) : ffs D s f = none := by unfold ffs; rw [if_neg fun hh => h hh.2.2]
end Go.Proofs.Ythdbgpdidolmaaa

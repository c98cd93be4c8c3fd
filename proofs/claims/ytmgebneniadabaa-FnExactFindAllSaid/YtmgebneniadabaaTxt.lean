/- Matches in texts: the longest part, the first match, all matches; the program's and the reference's answers. Valid automata, valid texts. -/
import Derived.Test.YtmgebneniadabaaDfv
namespace Go.Proofs.Ytmgebneniadabaa
open Go.RowKit
set_option maxRecDepth 100000
variable {S : Nat → Prop}

/-- The number of the letter at a place. -/
def ltr (s : ByteArray) (k : Nat) : Nat := if h : k < s.size then s[k].toNat - 97 else 0
theorem ltr_lt {s : ByteArray} (hs : letS s) {k : Nat} (h : k < s.size) : ltr s k < 3 ∧ (s[k].toNat : Int) - 97 = (ltr s k : Int) := by
  have := hs k h
  unfold letB at this
  unfold ltr
  rw [dif_pos h]
  omega
/-- The state behind j letters from a place on. -/
def stt (D : DfaD) (s : ByteArray) (f : Nat) : Nat → Nat
  | 0 => 0
  | j + 1 => dn D (stt D s f j) (ltr s (f + j))
theorem stt_lt {D : DfaD} (hD : okD D) {s : ByteArray} (hs : letS s) (f : Nat) : ∀ j, f + j ≤ s.size → stt D s f j < D.1.length
  | 0, _ => hD.1.1
  | j + 1, h => dn_lt hD (stt_lt hD hs f j (by omega)) (ltr_lt hs (by omega)).1
/-- The end of the longest part behind at most j letters. -/
def bst (D : DfaD) (s : ByteArray) (f : Nat) : Nat → Int
  | 0 => if de D 0 then (f : Int) else -1
  | j + 1 => if de D (stt D s f (j + 1)) then ((f + (j + 1) : Nat) : Int) else bst D s f j
theorem bst_bd (D : DfaD) (s : ByteArray) (f : Nat) : ∀ j, bst D s f j = -1 ∨ ((f : Int) ≤ bst D s f j ∧ bst D s f j ≤ f + j)
  | 0 => by unfold bst; split <;> omega
  | j + 1 => by
    have := bst_bd D s f j
    unfold bst; split <;> omega
/-- The end of the longest part that begins at a place. -/
def lon (D : DfaD) (s : ByteArray) (f : Nat) : Int := bst D s f (s.size - f)
theorem lon_bd (D : DfaD) (s : ByteArray) {f : Nat} (h : f ≤ s.size) : lon D s f = -1 ∨ ((f : Int) ≤ lon D s f ∧ lon D s f ≤ s.size) := by
  have := bst_bd D s f (s.size - f)
  unfold lon; omega
/-- The same, before place f + j is looked at. -/
def bsp (D : DfaD) (s : ByteArray) (f : Nat) : Nat → Int
  | 0 => -1
  | j + 1 => bst D s f j
theorem bsp_bd (D : DfaD) (s : ByteArray) (f : Nat) (j : Nat) : bsp D s f j = -1 ∨ ((f : Int) ≤ bsp D s f j ∧ bsp D s f j ≤ f + j) := by
  cases j with
  | zero => exact .inl rfl
  | succ j => have := bst_bd D s f j
              show bst D s f j = -1 ∨ ((f : Int) ≤ bst D s f j ∧ bst D s f j ≤ f + (j + 1 : Nat))
              omega
theorem bst_of (D : DfaD) (s : ByteArray) (f j : Nat) : bst D s f j = if de D (stt D s f j) then ((f + j : Nat) : Int) else bsp D s f j := by
  cases j with
  | zero => simp [bst, stt, bsp]; rfl
  | succ j => simp [bst, bsp]
theorem letter_x (s : ByteArray) (k : Nat) (w : World) (hs : s.size ≤ maxLen) (hk : k < s.size) (hl : letS s) :
    Calls Try.prog 73 #[.string s, .int .i64 k] w (fun e w' => e = .returned (.int .i64 (ltr s k)) ∧ w' = w) :=
  (letter_c s k w hs hk (hl k hk)).mono fun e w' ⟨n, he, hw, hn⟩ => ⟨by rw [he, hn.out.1, (ltr_lt hl hk).2], hw.symm⟩

set_option maxHeartbeats 400000 in
theorem longest_c (vn ve : Value) (D : DfaD) (s : ByteArray) (f : Nat) (w : World) (h : DfaR S w vn ve D) (hD : okD D) (hs : letS s ∧ s.size ≤ 30) (hf : f ≤ s.size) :
    Calls Try.prog 124 #[.agg #[vn, ve], .string s, .int .i64 f] w (RIn w fun n => n = lon D s f ∧ -1 ≤ n ∧ n ≤ s.size) := by
  obtain ⟨a, c, b, d, rfl, rfl, hn, hm⟩ := (h).shapes
  obtain ⟨W, hW⟩ : ∃ W, W = w.alloc (.cells #[.slice a D.1.length c, .slice b D.2.length d] 29) := ⟨_, rfl⟩
  have Hb0 : Hid (Below w.heap.size w W) := by rw [hW]; exact (Below.refl _ _).alloc (Nat.le_refl _) _
  have c0 : W.cell? ⟨w.heap.size, 0, none⟩ = some (.slice a D.1.length c) := by rw [hW, World.cell?_alloc_mark]; rfl
  have c1 : W.cell? ⟨w.heap.size, 1, none⟩ = some (.slice b D.2.length d) := by rw [hW, World.cell?_alloc_mark]; rfl
  have K0 : Hid (W.heap[w.heap.size]? = some (.cells #[.slice a D.1.length c, .slice b D.2.length d] 29 (0, 0))) := by rw [hW]; exact blkNew _ _ rfl
  have Hz : Hid (W.heap.size = w.heap.size + 1) := by rw [hW]; simp [Hid]
  have H := Lib.hid ((h).stay (kpB Hb0.out)); clear h
  have HW := Lib.hid hW; clear hW
  have hs2 := hs.2
  have Hl := Lib.hid hs.1
  have HD := Lib.hid hD
  have Hdl := Lib.hid hD.2.1
  clear hs hD
  go_enter Try.func124, Try.ntmps124
  go_wp2
  rw [← HW.out]
  go_loopw [7, 8, 9] (fun e st to wr => ∃ (j : Nat) (x y : Nat) (z : Int), f + j ≤ s.size ∧ to = .int .i64 y ∧ (f + j ≤ y ∧ y ≤ f + j) ∧ st = .int .i64 x ∧ e = .int .i64 z ∧ Hid (x = stt D s f j ∧ z = bsp D s f j) ∧ ∃ q, wr = W.drewN q) (fun _ _ to _ => s.size - (intOf to).toNat)
  case atStart => exact ⟨0, 0, f, -1, by omega, rfl, by omega, rfl, rfl, ⟨rfl, rfl⟩, 0, rfl⟩
  case round =>
    obtain ⟨j, x, y, z, hj, rfl, hy, rfl, rfl, Hxz, q, rfl⟩ := hrel
    have Hy : Hid (y = f + j) := Nat.le_antisymm hy.2 hy.1
    have hx : x < D.1.length := by rw [Hxz.out.1]; exact stt_lt HD.out Hl.out f j hj
    obtain ⟨be, oe, rfl, he⟩ := H.out.mark HD.out hx
    have hbo := bst_of D s f j
    rw [← Hxz.out.1, ← Hxz.out.2] at hbo
    have hzb := bst_bd D s f j
    have hzp := bsp_bd D s f j
    rw [← Hxz.out.2] at hzp
    cases hde : de D x
    all_goals
      rw [hde] at he hbo
      simp only [if_true, if_false, Bool.false_eq_true] at hbo
      have Hbo := Lib.hid hbo; clear hbo hde
      have hx2 : x < D.2.length := by rw [Hdl.out]; exact hx
      by_cases hlt : y < s.size
      · obtain ⟨hl3, _⟩ := ltr_lt Hl.out hlt
        obtain ⟨bn, on, br, or_, cr, rfl, hr1, hr2, hr3⟩ := H.out.step HD.out hx hl3
        have hlx : ((ltr s y : Nat) : Int) < 3 := by omega
        go_wp2_with fail
        go_quiet ((go_at_call 73; exact qAdd (letter_x _ _ _ (by unfold maxLen; omega) hlt Hl.out)))
        go_wp2
        go_roundw
        case rel => exact ⟨j + 1, _, y + 1, _, by omega, by go_num, by omega, rfl, rfl, ⟨by rw [Hxz.out.1, Hy.out]; rfl, by show _ = bst D s f j; rw [Hbo.out] <;> (have := Hy.out; omega)⟩, _, rfl⟩
        case measure => simp [intOf]; omega
      · obtain rfl : y = s.size := by omega
        have hfin : lon D s f = bst D s f j := by unfold lon; congr 1; omega
        go_wp2
        go_ret
        exact RIn.mk (belDrewN Hb0.out _) ⟨by rw [hfin, Hbo.out] <;> (have := Hy.out; omega), by omega, by omega⟩
set_option maxHeartbeats 800000 in
theorem l19Longest_c (vn ve : Value) (D : DfaD) (s : ByteArray) (f : Nat) (w : World) (h : DfaR S w vn ve D) (hD : okD D) (hs : letS s ∧ s.size ≤ 30) (hf : f ≤ s.size) :
    Calls Try.prog 101 #[.agg #[vn, ve], .string s, .int .i64 f] w (RIn w fun n => n = lon D s f ∧ -1 ≤ n ∧ n ≤ s.size) := by
  obtain ⟨a, c, b, d, rfl, rfl, hn, hm⟩ := (h).shapes
  obtain ⟨W, hW⟩ : ∃ W, W = w.alloc (.cells #[.slice a D.1.length c, .slice b D.2.length d] 29) := ⟨_, rfl⟩
  have Hb0 : Hid (Below w.heap.size w W) := by rw [hW]; exact (Below.refl _ _).alloc (Nat.le_refl _) _
  have c0 : W.cell? ⟨w.heap.size, 0, none⟩ = some (.slice a D.1.length c) := by rw [hW, World.cell?_alloc_mark]; rfl
  have c1 : W.cell? ⟨w.heap.size, 1, none⟩ = some (.slice b D.2.length d) := by rw [hW, World.cell?_alloc_mark]; rfl
  have K0 : Hid (W.heap[w.heap.size]? = some (.cells #[.slice a D.1.length c, .slice b D.2.length d] 29 (0, 0))) := by rw [hW]; exact blkNew _ _ rfl
  have Hz : Hid (W.heap.size = w.heap.size + 1) := by rw [hW]; simp [Hid]
  have H := Lib.hid ((h).stay (kpB Hb0.out)); clear h
  have HW := Lib.hid hW; clear hW
  have hs2 := hs.2
  have Hl := Lib.hid hs.1
  have HD := Lib.hid hD
  have h0D : 0 < D.1.length := hD.1.1
  have h0E : 0 < D.2.length := by rw [hD.2.1]; exact h0D
  have Hdl := Lib.hid hD.2.1
  clear hs hD
  obtain ⟨b0, o0, rfl, hc0⟩ := H.out.mark HD.out h0D
  have hb00 : bst D s f 0 = if de D 0 then (f : Int) else -1 := rfl
  rw [Nat.add_zero] at hc0
  cases hde0 : de D 0
  all_goals
    rw [hde0] at hc0 hb00
    simp only [if_true, if_false, Bool.false_eq_true] at hb00
    have Hb00 := Lib.hid hb00; clear hb00 hde0
    rw [HW.out] at hc0
    go_enter Try.func101, Try.ntmps101
    go_wp2
    rw [← HW.out]
    go_loopw [7, 8, 9] (fun e st to wr => ∃ (j : Nat) (x y : Nat) (z : Int), f + j ≤ s.size ∧ to = .int .i64 y ∧ (f + j ≤ y ∧ y ≤ f + j) ∧ st = .int .i64 x ∧ e = .int .i64 z ∧ Hid (x = stt D s f j ∧ z = bst D s f j) ∧ ∃ q, wr = W.drewN q) (fun _ _ to _ => s.size - (intOf to).toNat)
    case atStart => exact ⟨0, 0, f, _, by omega, rfl, by omega, rfl, rfl, ⟨rfl, Hb00.out.symm⟩, 0, rfl⟩
    case round =>
      obtain ⟨j, x, y, z, hj, rfl, hy, rfl, rfl, Hxz, q, rfl⟩ := hrel
      clear hc0
      have Hy : Hid (y = f + j) := Nat.le_antisymm hy.2 hy.1
      have hx : x < D.1.length := by rw [Hxz.out.1]; exact stt_lt HD.out Hl.out f j hj
      have hzb := bst_bd D s f j
      rw [← Hxz.out.2] at hzb
      by_cases hlt : y < s.size
      · obtain ⟨hl3, hl4⟩ := ltr_lt Hl.out hlt
        obtain ⟨bn, on, br, or_, cr, rfl, hr1, hr2, hr3⟩ := H.out.step HD.out hx hl3
        have hx' : dn D x (ltr s y) < D.2.length := by rw [Hdl.out]; exact hr3
        obtain ⟨bm, om, e, he⟩ := H.out.mark HD.out hr3
        cases e
        have hbo : bst D s f (j + 1) = if de D (dn D x (ltr s y)) then ((f + (j + 1) : Nat) : Int) else z := by rw [Hxz.out.2, Hxz.out.1, Hy.out]; rfl
        have hst : Hid (stt D s f (j + 1) = dn D x (ltr s y)) := by rw [Hxz.out.1, Hy.out]; rfl
        obtain ⟨nx, hnx⟩ : ∃ nx, nx = dn D x (ltr s y) := ⟨_, rfl⟩
        rw [← hnx] at hr2 hr3 hx' he hbo hst
        have Hnx := Lib.hid hnx; clear hnx
        obtain ⟨l, hl⟩ : ∃ l, l = ltr s y := ⟨_, rfl⟩
        rw [← hl] at hr2 hl3 hl4
        have Hl' := Lib.hid hl; clear hl
        have hlx : ((l : Nat) : Int) < 3 := by omega
        have hl0 : (0 : Int) ≤ (l : Int) := by omega
        have hw1 : IntKind.u8.wrap ((s[y].toNat : Int) - 97) = (l : Int) := by rw [hl4]; exact IntWalk.u8_in _ (by omega)
        have hw2 : IntKind.i64.wrap (l : Int) = (l : Int) := IntWalk.i64_in _ (by omega)
        clear hl4
        cases hde : de D nx
        all_goals
          rw [hde] at he hbo
          simp only [if_true, if_false, Bool.false_eq_true] at hbo
          have Hbo := Lib.hid hbo; clear hbo hde
          go_wp2_with fail
          go_quiet (fail)
          go_wp2
          go_roundw
          case rel => exact ⟨j + 1, nx, y + 1, _, by omega, by go_num, by omega, rfl, rfl, ⟨hst.out.symm, by rw [Hbo.out] <;> (have := Hy.out; omega)⟩, _, rfl⟩
          case measure => simp [intOf]; omega
      · obtain rfl : y = s.size := by omega
        have hfin : lon D s f = bst D s f j := by unfold lon; congr 1; omega
        go_wp2
        go_ret
        exact RIn.mk (belDrewN Hb0.out _) ⟨by rw [hfin, Hxz.out.2], by omega, by omega⟩
/-- The first match from a place on, in so many steps. -/
def fnd (D : DfaD) (s : ByteArray) : Nat → Nat → Option (Int × Int)
  | 0, _ => none
  | n + 1, f => if 0 ≤ lon D s f then some ((f : Int), lon D s f) else fnd D s n (f + 1)
/-- The first match from a place on. -/
def find (D : DfaD) (s : ByteArray) (f : Nat) : Option (Int × Int) := fnd D s (s.size + 1 - f) f
theorem find_end (D : DfaD) (s : ByteArray) : find D s (s.size + 1) = none := by unfold find; rw [Nat.sub_self]; rfl
theorem find_step (D : DfaD) (s : ByteArray) {f : Nat} (h : f ≤ s.size) : find D s f = if 0 ≤ lon D s f then some ((f : Int), lon D s f) else find D s (f + 1) := by
  unfold find
  have : s.size + 1 - f = (s.size + 1 - (f + 1)) + 1 := by omega
  rw [this]; rfl
/-- The call answers a pair of numbers, or none; new memory at most. -/
def R2o (w : World) (o : Option (Int × Int)) (e : Ending) (w' : World) : Prop := e = .returned (.tuple #[.agg #[.int .i64 (o.getD (0, 0)).1, .int .i64 (o.getD (0, 0)).2], .bool o.isSome]) ∧ Below w.heap.size w w'
set_option maxHeartbeats 400000 in
theorem find_c (vn ve : Value) (D : DfaD) (s : ByteArray) (f : Nat) (w : World) (h : DfaR S w vn ve D) (hD : okD D) (hs : letS s ∧ s.size ≤ 30) (hf : f ≤ s.size + 1) :
    Calls Try.prog 121 #[.agg #[vn, ve], .string s, .int .i64 f] w (R2o w (find D s f)) := by
  obtain ⟨a, c, b, d, rfl, rfl, hn, hm⟩ := (h).shapes
  obtain ⟨W, hW⟩ : ∃ W, W = w.alloc (.cells #[.slice a D.1.length c, .slice b D.2.length d] 29) := ⟨_, rfl⟩
  have Hb0 : Hid (Below w.heap.size w W) := by rw [hW]; exact (Below.refl _ _).alloc (Nat.le_refl _) _
  have c0 : W.cell? ⟨w.heap.size, 0, none⟩ = some (.slice a D.1.length c) := by rw [hW, World.cell?_alloc_mark]; rfl
  have c1 : W.cell? ⟨w.heap.size, 1, none⟩ = some (.slice b D.2.length d) := by rw [hW, World.cell?_alloc_mark]; rfl
  have K0 : Hid (W.heap[w.heap.size]? = some (.cells #[.slice a D.1.length c, .slice b D.2.length d] 29 (0, 0))) := by rw [hW]; exact blkNew _ _ rfl
  have Hz : Hid (W.heap.size = w.heap.size + 1) := by rw [hW]; simp [Hid]
  have H := Lib.hid ((h).stay (kpB Hb0.out)); clear h
  have HW := Lib.hid hW; clear hW
  have hs2 := hs.2
  have Hl := Lib.hid hs
  have HD := Lib.hid hD
  clear hs hD
  obtain ⟨W2, hW2⟩ : ∃ W2, W2 = W.alloc (.cells #[.int .i64 0, .int .i64 0] 103) := ⟨_, rfl⟩
  have hbw : Below W.heap.size W W2 := by rw [hW2]; exact (Below.refl _ _).alloc (Nat.le_refl _) _
  have K2 := Lib.hid (blkBel hbw K0.out)
  have K3 : Hid (W2.heap[w.heap.size + 1]? = some (.cells #[.int .i64 0, .int .i64 0] 103 (0, 0))) := by rw [hW2]; exact blkNew _ _ Hz.out.symm
  have H2 := Lib.hid (H.out.stay (kpB hbw))
  have Hb2 : Hid (Below w.heap.size w W2) := Hb0.out.trans (hbw.mono Hb0.out.size)
  have HW2 := Lib.hid hW2; clear hW2 hbw H c0 c1
  go_enter Try.func121, Try.ntmps121
  go_wp2
  rw [← HW.out, ← HW2.out]
  go_loopw [2] (fun i wr => ∃ y : Nat, y ≤ s.size + 1 ∧ i = .int .i64 y ∧ Hid (find D s f = find D s y) ∧ Below W2.heap.size W2 wr) (fun i _ => s.size + 1 - (intOf i).toNat)
  case atStart => exact ⟨f, hf, rfl, rfl, Below.refl _ _⟩
  case round =>
    obtain ⟨y, hy, rfl, Hf, hb⟩ := hrel
    obtain ⟨c0, c1, f0, f1⟩ := blk2 (blkBel hb K2.out)
    obtain ⟨d0, d1, g0, g1⟩ := blk2 (blkBel hb K3.out)
    have hbs := hb.size
    have Hbs := Hb2.out.size
    by_cases hlt : y ≤ s.size
    · have hst := find_step D s hlt
      rw [← Hf.out] at hst
      have Hst := Lib.hid hst; clear hst
      go_wp2_with fail
      refine (longest_c _ _ D s y _ (H2.out.stay (kpB hb)) HD.out Hl.out hlt).mono ?_
      rintro e w1 ⟨n, rfl, hb1, hn⟩
      have hn0 := hn.out.2.1
      have hn1 := hn.out.2.2
      obtain ⟨d0', d1', g0', g1'⟩ := blk2 (blkBel hb1 (blkBel hb K3.out))
      have hB := Lib.hid (hb.trans (hb1.mono hbs))
      by_cases hpos : 0 ≤ n
      · have Hr : Hid (find D s f = some ((y : Int), n)) := by
          have := Hst.out
          rw [← hn.out.1, if_pos hpos] at this
          exact this
        clear Hst hn hb hb1
        go_wp2
        refine bodyPost_ret (v := .tuple #[.agg #[.int .i64 y, .int .i64 n], .bool true]) (by simp [results, Try.results121, go_sem, d0', d1', g0', g1']) rfl ⟨by rw [Hr.out]; rfl, ?_⟩
        exact ((Hb2.out.trans (hB.out.mono Hbs)).setCell (by simp) _).setCell (by simp) _
      · have Hr : Hid (find D s f = find D s (y + 1)) := by
          have := Hst.out
          rw [← hn.out.1, if_neg hpos] at this
          exact this
        clear Hst hn hb hb1
        go_wp2
        go_roundw
        case rel => exact ⟨y + 1, by omega, by go_num, Hr, hB.out⟩
        case measure => simp [intOf]; omega
    · obtain rfl : y = s.size + 1 := by omega
      have Hr : Hid (find D s f = none) := by rw [Hf.out]; exact find_end D s
      go_wp2
      refine bodyPost_ret (v := .tuple #[.agg #[.int .i64 0, .int .i64 0], .bool false]) (by simp [results, Try.results121, go_sem, d0, d1, g0, g1]) rfl ⟨by rw [Hr.out]; rfl, ?_⟩
      exact ((Hb2.out.trans (hb.mono Hbs)).setCell (by simp) _).setCell (by simp) _
open Classical in
/-- The first match from a place on, if all is valid. -/
noncomputable def ffs (D : DfaD) (s : ByteArray) (f : Int) : Option (Int × Int) := if okD D ∧ (letS s ∧ s.size ≤ 30) ∧ 0 ≤ f ∧ f ≤ s.size then find D s f.toNat else none
theorem ffs_yes {D : DfaD} {s : ByteArray} {f : Int} (h1 : okD D) (h2 : letS s ∧ s.size ≤ 30) (h3 : 0 ≤ f ∧ f ≤ s.size) : ffs D s f = find D s f.toNat := by unfold ffs; rw [if_pos ⟨h1, h2, h3⟩]
theorem ffs_no1 {D : DfaD} {s : ByteArray} {f : Int} (h : ¬ okD D) : ffs D s f = none := by unfold ffs; rw [if_neg fun hh => h hh.1]
theorem ffs_no2 {D : DfaD} {s : ByteArray} {f : Int} (h : ¬ (letS s ∧ s.size ≤ 30)) : ffs D s f = none := by unfold ffs; rw [if_neg fun hh => h hh.2.1]
theorem ffs_no3 {D : DfaD} {s : ByteArray} {f : Int} (h : ¬ (0 ≤ f ∧ f ≤ s.size)) : ffs D s f = none := by unfold ffs; rw [if_neg fun hh => h hh.2.2]
set_option maxHeartbeats 400000 in
theorem sFindFirst_no (vn ve : Value) (D : DfaD) (s : ByteArray) (f : Int) (w : World) (h : DfaR S w vn ve D) (hs : s.size ≤ maxLen) (hv : ¬ (okD D ∧ (letS s ∧ s.size ≤ 30) ∧ 0 ≤ f ∧ f ≤ s.size)) :
    Calls Try.prog 107 #[.agg #[vn, ve], .string s, .int .i64 f] w (R2o w (ffs D s f)) := by
  have HN : Hid (ffs D s f = none) := by unfold ffs; rw [if_neg hv]; rfl
  have HV := Lib.hid hv; clear hv
  obtain ⟨a, c, b, d, rfl, rfl, hn, hm⟩ := (h).shapes
  obtain ⟨W, hW⟩ : ∃ W, W = w.alloc (.cells #[.slice a D.1.length c, .slice b D.2.length d] 29) := ⟨_, rfl⟩
  have Hb0 : Hid (Below w.heap.size w W) := by rw [hW]; exact (Below.refl _ _).alloc (Nat.le_refl _) _
  have c0 : W.cell? ⟨w.heap.size, 0, none⟩ = some (.slice a D.1.length c) := by rw [hW, World.cell?_alloc_mark]; rfl
  have c1 : W.cell? ⟨w.heap.size, 1, none⟩ = some (.slice b D.2.length d) := by rw [hW, World.cell?_alloc_mark]; rfl
  have K0 : Hid (W.heap[w.heap.size]? = some (.cells #[.slice a D.1.length c, .slice b D.2.length d] 29 (0, 0))) := by rw [hW]; exact blkNew _ _ rfl
  have Hz : Hid (W.heap.size = w.heap.size + 1) := by rw [hW]; simp [Hid]
  have H := Lib.hid ((h).stay (kpB Hb0.out)); clear h
  have HW := Lib.hid hW; clear hW
  obtain ⟨W2, hW2⟩ : ∃ W2, W2 = W.alloc (.cells #[.int .i64 0, .int .i64 0] 103) := ⟨_, rfl⟩
  have hbw : Below W.heap.size W W2 := by rw [hW2]; exact (Below.refl _ _).alloc (Nat.le_refl _) _
  have K2 := Lib.hid (blkBel hbw K0.out)
  have K3 : Hid (W2.heap[w.heap.size + 1]? = some (.cells #[.int .i64 0, .int .i64 0] 103 (0, 0))) := by rw [hW2]; exact blkNew _ _ Hz.out.symm
  have H2 := Lib.hid (H.out.stay (kpB hbw))
  have Hb2 : Hid (Below w.heap.size w W2) := Hb0.out.trans (hbw.mono Hb0.out.size)
  have HW2 := Lib.hid hW2; clear hW2 hbw H c0 c1
  have hsz : s.size ≤ 9223372036854775807 := by unfold maxLen at hs; exact hs
  have Hbs := Hb2.out.size
  go_enter Try.func107, Try.ntmps107
  go_wp2_with fail
  rw [← HW.out, ← HW2.out]
  go_loopw [8] (fun i wr => i = .int .i64 f ∧ wr = W2) (fun i _ => 0)
  case atStart => exact ⟨rfl, rfl⟩
  case round =>
    obtain ⟨rfl, rfl⟩ := hrel
    obtain ⟨c0, c1, _, _⟩ := blk2 K2.out
    go_wp2_with fail
    refine (sDfaValid_c _ _ D _ H2.out).mono ?_
    rintro e w1 ⟨b1, rfl, hb1, hv1⟩
    obtain ⟨d0, d1, g0, g1⟩ := blk2 (blkBel hb1 K3.out)
    have hno : ∀ u v : Value, Below w.heap.size w ((w1.setCell ⟨w.heap.size + 1, 0, none⟩ u).setCell ⟨w.heap.size + 1, 1, none⟩ v) := fun u v => ((Hb2.out.trans (hb1.mono Hbs)).setCell (by simp) _).setCell (by simp) _
    have Hno := Lib.hid hno
    clear hb1 hno
    cases b1
    · clear hv1
      go_wp2
      exact bodyPost_ret (v := .tuple #[.agg #[.int .i64 0, .int .i64 0], .bool false]) (by simp [results, Try.results107, go_sem, d0, d1]) rfl ⟨by rw [HN.out]; rfl, Hno.out _ _⟩
    · have hp1 := Lib.hid (hbT hv1); clear hv1
      go_wp2_with fail
      refine (sTextValid_c s _ hs).mono ?_
      rintro e w2 ⟨b2, rfl, rfl, hv2⟩
      cases b2
      · clear hv2
        go_wp2
        exact bodyPost_ret (v := .tuple #[.agg #[.int .i64 0, .int .i64 0], .bool false]) (by simp [results, Try.results107, go_sem, d0, d1]) rfl ⟨by rw [HN.out]; rfl, Hno.out _ _⟩
      · have hp2 := Lib.hid (hbT hv2); clear hv2
        go_wp2_with fail
        refine (l1In_c _ _ _ _).mono ?_
        rintro e w2 ⟨b2, rfl, rfl, hv2⟩
        cases b2
        · clear hv2
          go_wp2
          exact bodyPost_ret (v := .tuple #[.agg #[.int .i64 0, .int .i64 0], .bool false]) (by simp [results, Try.results107, go_sem, d0, d1]) rfl ⟨by rw [HN.out]; rfl, Hno.out _ _⟩
        · exact (HV.out ⟨hp1.out, hp2.out, hbT hv2⟩).elim
set_option maxHeartbeats 400000 in
theorem sFindFirst_yes (vn ve : Value) (D : DfaD) (s : ByteArray) (f : Nat) (w : World) (h : DfaR S w vn ve D) (hv : okD D ∧ (letS s ∧ s.size ≤ 30) ∧ f ≤ s.size + 1) (hf : f ≤ s.size) :
    Calls Try.prog 107 #[.agg #[vn, ve], .string s, .int .i64 f] w (R2o w (find D s f)) := by
  have hs : s.size ≤ maxLen := by have := hv.2.1.2; unfold maxLen; omega
  have HD := Lib.hid hv.1
  have Hl := Lib.hid hv.2.1
  clear hv
  obtain ⟨a, c, b, d, rfl, rfl, hn, hm⟩ := (h).shapes
  obtain ⟨W, hW⟩ : ∃ W, W = w.alloc (.cells #[.slice a D.1.length c, .slice b D.2.length d] 29) := ⟨_, rfl⟩
  have Hb0 : Hid (Below w.heap.size w W) := by rw [hW]; exact (Below.refl _ _).alloc (Nat.le_refl _) _
  have c0 : W.cell? ⟨w.heap.size, 0, none⟩ = some (.slice a D.1.length c) := by rw [hW, World.cell?_alloc_mark]; rfl
  have c1 : W.cell? ⟨w.heap.size, 1, none⟩ = some (.slice b D.2.length d) := by rw [hW, World.cell?_alloc_mark]; rfl
  have K0 : Hid (W.heap[w.heap.size]? = some (.cells #[.slice a D.1.length c, .slice b D.2.length d] 29 (0, 0))) := by rw [hW]; exact blkNew _ _ rfl
  have Hz : Hid (W.heap.size = w.heap.size + 1) := by rw [hW]; simp [Hid]
  have H := Lib.hid ((h).stay (kpB Hb0.out)); clear h
  have HW := Lib.hid hW; clear hW
  obtain ⟨W2, hW2⟩ : ∃ W2, W2 = W.alloc (.cells #[.int .i64 0, .int .i64 0] 103) := ⟨_, rfl⟩
  have hbw : Below W.heap.size W W2 := by rw [hW2]; exact (Below.refl _ _).alloc (Nat.le_refl _) _
  have K2 := Lib.hid (blkBel hbw K0.out)
  have K3 : Hid (W2.heap[w.heap.size + 1]? = some (.cells #[.int .i64 0, .int .i64 0] 103 (0, 0))) := by rw [hW2]; exact blkNew _ _ Hz.out.symm
  have H2 := Lib.hid (H.out.stay (kpB hbw))
  have Hb2 : Hid (Below w.heap.size w W2) := Hb0.out.trans (hbw.mono Hb0.out.size)
  have HW2 := Lib.hid hW2; clear hW2 hbw H c0 c1
  have hsz : s.size ≤ 9223372036854775807 := by unfold maxLen at hs; exact hs
  have Hbs := Hb2.out.size
  have h30 : s.size ≤ 30 := Hl.out.2
  go_enter Try.func107, Try.ntmps107
  go_wp2_with fail
  rw [← HW.out, ← HW2.out]
  go_loopw [8] (fun i wr => ∃ y : Nat, y ≤ s.size + 1 ∧ i = .int .i64 y ∧ Hid (find D s f = find D s y) ∧ Below W2.heap.size W2 wr) (fun i _ => s.size + 1 - (intOf i).toNat)
  case atStart => exact ⟨f, by omega, rfl, rfl, Below.refl _ _⟩
  case round =>
    obtain ⟨y, hy, rfl, Hf, hb⟩ := hrel
    obtain ⟨c0, c1, _, _⟩ := blk2 (blkBel hb K2.out)
    go_wp2_with fail
    refine (sDfaValid_c _ _ D _ (H2.out.stay (kpB hb))).mono ?_
    rintro e w1 ⟨b1, rfl, hb1, hv1⟩
    cases b1
    · exact (hbF hv1 HD.out).elim
    clear hv1
    go_wp2_with fail
    refine (sTextValid_c s _ hs).mono ?_
    rintro e w2 ⟨b2, rfl, rfl, hv2⟩
    cases b2
    · exact (hbF hv2 Hl.out).elim
    clear hv2
    go_wp2_with fail
    refine (l1In_c _ _ _ _).mono ?_
    rintro e w2 ⟨b2, rfl, rfl, hv2⟩
    cases b2
    · exact (hbF hv2 ⟨by omega, by omega⟩).elim
    clear hv2
    have hbb := hb.trans (hb1.mono hb.size)
    obtain ⟨c0, c1, _, _⟩ := blk2 (blkBel hbb K2.out)
    obtain ⟨d0, d1, g0, g1⟩ := blk2 (blkBel hbb K3.out)
    have hbs := hbb.size
    clear hb hb1
    by_cases hlt : y ≤ s.size
    · have hst := find_step D s hlt
      rw [← Hf.out] at hst
      have Hst := Lib.hid hst; clear hst
      go_wp2_with fail
      refine (l19Longest_c _ _ D s y _ (H2.out.stay (kpB hbb)) HD.out Hl.out hlt).mono ?_
      rintro e w3 ⟨n, rfl, hb3, hn⟩
      have hn0 := hn.out.2.1
      have hn1 := hn.out.2.2
      obtain ⟨d0', d1', g0', g1'⟩ := blk2 (blkBel hb3 (blkBel hbb K3.out))
      have hB := Lib.hid (hbb.trans (hb3.mono hbs))
      by_cases hpos : 0 ≤ n
      · have Hr : Hid (find D s f = some ((y : Int), n)) := by
          have := Hst.out
          rw [← hn.out.1, if_pos hpos] at this
          exact this
        clear Hst hn hbb hb3
        go_wp2
        refine bodyPost_ret (v := .tuple #[.agg #[.int .i64 y, .int .i64 n], .bool true]) (by simp [results, Try.results107, go_sem, d0', d1', g0', g1']) rfl ⟨by rw [Hr.out]; rfl, ?_⟩
        exact ((Hb2.out.trans (hB.out.mono Hbs)).setCell (by simp) _).setCell (by simp) _
      · have Hr : Hid (find D s f = find D s (y + 1)) := by
          have := Hst.out
          rw [← hn.out.1, if_neg hpos] at this
          exact this
        clear Hst hn hbb hb3
        go_wp2
        go_roundw
        case rel => exact ⟨y + 1, by omega, by go_num, Hr, hB.out⟩
        case measure => simp [intOf]; omega
    · obtain rfl : y = s.size + 1 := by omega
      have Hr : Hid (find D s f = none) := by rw [Hf.out]; exact find_end D s
      go_wp2
      refine bodyPost_ret (v := .tuple #[.agg #[.int .i64 0, .int .i64 0], .bool false]) (by simp [results, Try.results107, go_sem, d0, d1, g0, g1]) rfl ⟨by rw [Hr.out]; rfl, ?_⟩
      exact ((Hb2.out.trans (hbb.mono Hbs)).setCell (by simp) _).setCell (by simp) _
theorem sFindFirst_c (vn ve : Value) (D : DfaD) (s : ByteArray) (f : Int) (w : World) (h : DfaR S w vn ve D) (hs : s.size ≤ maxLen) :
    Calls Try.prog 107 #[.agg #[vn, ve], .string s, .int .i64 f] w (R2o w (ffs D s f)) := by
  by_cases hv : okD D ∧ (letS s ∧ s.size ≤ 30) ∧ 0 ≤ f ∧ f ≤ s.size
  · obtain ⟨k, rfl⟩ : ∃ k : Nat, f = (k : Int) := ⟨f.toNat, by omega⟩
    rw [ffs_yes hv.1 hv.2.1 hv.2.2, Int.toNat_natCast]
    exact sFindFirst_yes vn ve D s k w h ⟨hv.1, hv.2.1, by omega⟩ (by omega)
  · exact sFindFirst_no vn ve D s f w h hs hv
end Go.Proofs.Ytmgebneniadabaa

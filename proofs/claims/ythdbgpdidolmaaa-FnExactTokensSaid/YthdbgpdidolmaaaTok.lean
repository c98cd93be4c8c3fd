/- The token of patterns at a place of a text: the program's and the reference's answers. -/
import Derived.Test.YthdbgpdidolmaaaScn
import Derived.Test.YthdbgpdidolmaaaTxt
import Derived.Test.YthdbgpdidolmaaaNfv
namespace Go.Proofs.Ythdbgpdidolmaaa
open Go.RowKit
set_option maxRecDepth 100000
variable {S T : Nat → Prop}

/-- The best pattern and its end behind k patterns. -/
def tkb (Ds : List DfaD) (s : ByteArray) (f : Nat) : Nat → Int × Int
  | 0 => (0, f)
  | k + 1 => if h : k < Ds.length then (if (tkb Ds s f k).2 < lon Ds[k] s f then ((k : Int), lon Ds[k] s f) else tkb Ds s f k) else tkb Ds s f k
theorem tkb_step {Ds : List DfaD} {s : ByteArray} {f k : Nat} (h : k < Ds.length) : tkb Ds s f (k + 1) = if (tkb Ds s f k).2 < lon Ds[k] s f then ((k : Int), lon Ds[k] s f) else tkb Ds s f k := by
  rw [tkb, dif_pos h]
theorem tkb_bd (Ds : List DfaD) (s : ByteArray) {f : Nat} (hf : f ≤ s.size) : ∀ k, (0 ≤ (tkb Ds s f k).1 ∧ (tkb Ds s f k).1 ≤ k) ∧ (f : Int) ≤ (tkb Ds s f k).2 ∧ (tkb Ds s f k).2 ≤ s.size
  | 0 => by unfold tkb; simp; omega
  | k + 1 => by
    have ih := tkb_bd Ds s hf k
    rw [tkb]
    split
    · rename_i h
      have := lon_bd Ds[k] s hf
      split <;> simp <;> omega
    · omega
/-- The token at a place: pattern, place, end; and whether there is one. -/
def tok (Ds : List DfaD) (s : ByteArray) (f : Nat) : (Int × Int × Int) × Bool :=
  if (tkb Ds s f Ds.length).2 = f then ((0, 0, 0), false) else (((tkb Ds s f Ds.length).1, f, (tkb Ds s f Ds.length).2), true)
theorem tok_no {Ds : List DfaD} {s : ByteArray} {f : Nat} (h : (tkb Ds s f Ds.length).2 = f) : tok Ds s f = ((0, 0, 0), false) := by unfold tok; rw [if_pos h]
theorem tok_yes {Ds : List DfaD} {s : ByteArray} {f : Nat} (h : ¬ (tkb Ds s f Ds.length).2 = f) : tok Ds s f = (((tkb Ds s f Ds.length).1, (f : Int), (tkb Ds s f Ds.length).2), true) := by unfold tok; rw [if_neg h]
/-- The call answers a token, and whether it is one; new memory at most. -/
def R3t (w : World) (o : (Int × Int × Int) × Bool) (e : Ending) (w' : World) : Prop :=
  e = .returned (.tuple #[.agg #[.int .i64 o.1.1, .int .i64 o.1.2.1, .int .i64 o.1.2.2], .bool o.2]) ∧ Below w.heap.size w w'
theorem blk3s {w : World} {b : Nat} {x y z x' y' z' : Value} {t : TypeId} (h : w.heap[b]? = some (.cells #[x, y, z] t (0, 0))) :
    (((w.setCell ⟨b, 0, none⟩ x').setCell ⟨b, 1, none⟩ y').setCell ⟨b, 2, none⟩ z').heap[b]? = some (.cells #[x', y', z'] t (0, 0)) := by
  rw [heap_set (heap_set (heap_set h 0 x') 1 y') 2 z']; rfl
theorem blk3o {w : World} {b c : Nat} {ob : Obj} (x' y' z' : Value) (h : w.heap[b]? = some ob) (hne : b ≠ c) :
    (((w.setCell ⟨c, 0, none⟩ x').setCell ⟨c, 1, none⟩ y').setCell ⟨c, 2, none⟩ z').heap[b]? = some ob := blkSet (blkSet (blkSet h hne) hne) hne
theorem bel3 {B c : Nat} {a w : World} (h : Below B a w) (hc : B ≤ c) (x y z : Value) : Below B a (((w.setCell ⟨c, 0, none⟩ x).setCell ⟨c, 1, none⟩ y).setCell ⟨c, 2, none⟩ z) :=
  ((h.setCell hc _).setCell hc _).setCell hc _
set_option maxHeartbeats 1000000 in
theorem nextToken_c (v : Value) (Ds : List DfaD) (s : ByteArray) (f : Nat) (w : World) (h : DfaS S w v Ds) (hD : ∀ D ∈ Ds, okD D) (hs : letS s ∧ s.size ≤ 30) (hf : f ≤ s.size) :
    Calls Try.prog 96 #[v, .string s, .int .i64 f] w (R3t w (tok Ds s f)) := by
  obtain ⟨a, cap, rfl, hn⟩ := h.shape
  have hs2 := hs.2
  have Hl := Lib.hid hs
  have HD := Lib.hid hD
  have H := Lib.hid h
  clear hs hD h
  obtain ⟨W, hW⟩ : ∃ W, W = w.alloc (.cells #[.int .i64 0, .int .i64 0, .int .i64 0] 60) := ⟨_, rfl⟩
  have Hb0 : Hid (Below w.heap.size w W) := by rw [hW]; exact (Below.refl _ _).alloc (Nat.le_refl _) _
  have K0 : Hid (W.heap[w.heap.size]? = some (.cells #[.int .i64 0, .int .i64 0, .int .i64 0] 60 (0, 0))) := by rw [hW]; exact blkNew _ _ rfl
  have Hz : Hid (W.heap.size = w.heap.size + 1) := by rw [hW]; simp [Hid]
  have HW := Lib.hid hW; clear hW
  go_enter Try.func96, Try.ntmps96
  go_wp2
  go_loopw [17] (fun i wr => ∃ (k : Nat), k ≤ Ds.length ∧ i = .int .i64 k ∧ Hid (Below w.heap.size w wr) ∧ Hid (w.heap.size + 2 ≤ wr.heap.size) ∧ Hid (wr.heap[w.heap.size]? = some (.cells #[.int .i64 0, .int .i64 0, .int .i64 0] 60 (0, 0))) ∧ Hid (wr.heap[w.heap.size + 1]? = some (.cells #[.int .i64 (tkb Ds s f k).1, .int .i64 f, .int .i64 (tkb Ds s f k).2] 60 (0, 0)))) (fun i _ => Ds.length - (intOf i).toNat)
  case atStart => exact ⟨0, by omega, rfl, by rw [← HW.out]; exact Hb0.out.alloc Hb0.out.size _, by simp [Hid], blkOld (blkNew _ _ rfl), blkNew _ _ (by simp)⟩
  case round =>
    obtain ⟨k, hk, rfl, hb, hz, k6, k8⟩ := hrel
    obtain ⟨p, hp⟩ : ∃ p, p = (tkb Ds s f k).1 := ⟨_, rfl⟩
    obtain ⟨t, ht⟩ : ∃ t, t = (tkb Ds s f k).2 := ⟨_, rfl⟩
    have hbd := tkb_bd Ds s hf k
    rw [← hp, ← ht] at hbd k8
    have Hp := Lib.hid hp
    have Ht := Lib.hid ht
    clear hp ht
    obtain ⟨x0, x1, x2⟩ := blk3 k8.out
    have g8 := blkFz k8.out
    by_cases hlt : k < Ds.length
    · obtain ⟨b, off, vn, ve, rfl, c0, c1, hd⟩ := (H.out.stay (kpB hb.out)).at hlt
      have hst := Lib.hid (tkb_step (s := s) (f := f) hlt)
      obtain ⟨x, hx⟩ : ∃ x, x = Ds[k] := ⟨_, rfl⟩
      have hok := HD.out _ (List.getElem_mem hlt)
      rw [← hx] at hd hst hok
      obtain ⟨a1, ca1, b1, cb1, rfl, rfl, _, _⟩ := hd.shapes
      have Hd := Lib.hid hd
      have Hok := Lib.hid hok
      clear hx hd hok
      clear x0 x1 x2 g8
      obtain ⟨W2, hW2⟩ : ∃ W2, W2 = wr.alloc (.cells #[.slice a1 x.1.length ca1, .slice b1 x.2.length cb1] 36) := ⟨_, rfl⟩
      have hbw : Below wr.heap.size wr W2 := by rw [hW2]; exact (Below.refl _ _).alloc (Nat.le_refl _) _
      have HW2 := Lib.hid hW2; clear hW2
      go_wp2_with fail
      rw [← HW2.out]
      clear c0 c1
      refine (longest_c _ _ x s f _ (Hd.out.stay (kpB hbw)) Hok.out Hl.out hf).mono ?_
      rintro e w1 ⟨n, rfl, hb1, hn1⟩
      obtain ⟨hn1, hn2, hn3⟩ := hn1.out
      rw [← hn1, ← Ht.out] at hst
      have Hn1 := Lib.hid hn1; clear hn1
      have hB := hbw.trans (hb1.mono hbw.size)
      clear hb1 hbw
      have hbs := hB.size
      have Hb := Lib.hid (hb.out.trans (hB.mono hb.out.size))
      have Hz2 : Hid (w.heap.size + 2 ≤ w1.heap.size) := Nat.le_trans hz.out hbs
      have K6 := Lib.hid (blkBel hB k6.out)
      have K8 := Lib.hid (blkBel hB k8.out)
      clear hB hbs hb hz k6 k8 Hd
      obtain ⟨x0, x1, x2⟩ := blk3 K8.out
      have g8 := blkFz K8.out
      by_cases hlt2 : t < n
      · rw [if_pos hlt2] at hst
        go_wp2
        go_roundw
        case rel => exact ⟨k + 1, by omega, by go_num, bel3 Hb.out (Nat.le_succ _) _ _ _, by simpa [Hid] using Hz2.out, blk3o _ _ _ K6.out (by omega), by rw [hst.out]; exact blk3s K8.out⟩
        case measure => simp [intOf]; omega
      · rw [if_neg hlt2] at hst
        go_wp2
        go_roundw
        case rel => exact ⟨k + 1, by omega, by go_num, Hb.out, Hz2.out, K6.out, by rw [hst.out, ← Hp.out, ← Ht.out]; exact K8.out⟩
        case measure => simp [intOf]; omega
    · obtain rfl : k = Ds.length := by omega
      obtain ⟨y0, y1, y2⟩ := blk3 k6.out
      have g6 := blkFz k6.out
      by_cases hend : t = f
      · have ho := tok_no (Ds := Ds) (s := s) (f := f) (by rw [← Ht.out]; exact hend)
        have Ho := Lib.hid ho; clear ho
        go_wp2
        refine bodyPost_ret (v := .tuple #[.agg #[.int .i64 0, .int .i64 0, .int .i64 0], .bool false]) (by simp [results, Try.results96, go_sem, y0, y1, y2, g6]) rfl ⟨by rw [Ho.out], ?_⟩
        exact bel3 hb.out (Nat.le_refl _) _ _ _
      · have ho := tok_yes (Ds := Ds) (s := s) (f := f) (by rw [← Ht.out]; exact hend)
        rw [← Ht.out, ← Hp.out] at ho
        have Ho := Lib.hid ho; clear ho
        go_wp2
        refine bodyPost_ret (v := .tuple #[.agg #[.int .i64 p, .int .i64 f, .int .i64 t], .bool true]) (by simp [results, Try.results96, go_sem, y0, y1, y2, g6]) rfl ⟨by rw [Ho.out], ?_⟩
        exact bel3 hb.out (Nat.le_refl _) _ _ _
open Classical in
/-- The token at a place of a text, if all is valid. -/
noncomputable def ntk (Ds : List DfaD) (s : ByteArray) (f : Int) : (Int × Int × Int) × Bool :=
  if okP Ds ∧ (letS s ∧ s.size ≤ 30) ∧ 0 ≤ f ∧ f ≤ s.size then tok Ds s f.toNat else ((0, 0, 0), false)
theorem ntk_no {Ds : List DfaD} {s : ByteArray} {f : Int} (h : ¬ (okP Ds ∧ (letS s ∧ s.size ≤ 30) ∧ 0 ≤ f ∧ f ≤ s.size)) : ntk Ds s f = ((0, 0, 0), false) := by unfold ntk; rw [if_neg h]
theorem ntk_yes {Ds : List DfaD} {s : ByteArray} {f : Int} (h : okP Ds ∧ (letS s ∧ s.size ≤ 30) ∧ 0 ≤ f ∧ f ≤ s.size) : ntk Ds s f = tok Ds s f.toNat := by unfold ntk; rw [if_pos h]
set_option maxHeartbeats 1000000 in
theorem NextToken_c (v : Value) (Ds : List DfaD) (s : ByteArray) (f : Int) (w : World) (h : DfaS S w v Ds) (hs : s.size ≤ maxLen) :
    Calls Try.prog 43 #[v, .string s, .int .i64 f] w (R3t w (ntk Ds s f)) := by
  obtain ⟨a, cap, rfl, hn⟩ := h.shape
  have H := Lib.hid h; clear h
  obtain ⟨W, hW⟩ : ∃ W, W = w.alloc (.cells #[.int .i64 0, .int .i64 0, .int .i64 0] 60) := ⟨_, rfl⟩
  have Hb0 : Hid (Below w.heap.size w W) := by rw [hW]; exact (Below.refl _ _).alloc (Nat.le_refl _) _
  have K0 : Hid (W.heap[w.heap.size]? = some (.cells #[.int .i64 0, .int .i64 0, .int .i64 0] 60 (0, 0))) := by rw [hW]; exact blkNew _ _ rfl
  have Hz : Hid (W.heap.size = w.heap.size + 1) := by rw [hW]; simp [Hid]
  have HW := Lib.hid hW; clear hW
  have hsz : s.size ≤ 9223372036854775807 := by unfold maxLen at hs; exact hs
  have Hs := Lib.hid hs; clear hs
  go_enter Try.func43, Try.ntmps43
  go_wp2_with fail
  rw [← HW.out]
  refine (PatternsValid_c _ Ds W (H.out.stay (kpB Hb0.out))).mono ?_
  rintro e w1 ⟨b1, rfl, hb1, hv1⟩
  have K1 := Lib.hid (blkBel hb1 K0.out)
  have Hb1 := Lib.hid (Hb0.out.trans (hb1.mono Hb0.out.size))
  clear hb1 K0 HW Hz
  obtain ⟨y0, y1, y2⟩ := blk3 K1.out
  have g6 := blkFz K1.out
  cases b1
  · have Ho := Lib.hid (ntk_no (s := s) (f := f) (fun hh => hbF hv1 hh.1)); clear hv1
    go_wp2
    exact bodyPost_ret (v := .tuple #[.agg #[.int .i64 0, .int .i64 0, .int .i64 0], .bool false]) (by simp [results, Try.results43, go_sem, y0, y1, y2, g6]) rfl ⟨by rw [Ho.out], bel3 Hb1.out (Nat.le_refl _) _ _ _⟩
  have hp1 := Lib.hid (hbT hv1); clear hv1
  clear y0 y1 y2 g6
  go_wp2_with fail
  refine (TextValid_c s _ Hs.out).mono ?_
  rintro e w2 ⟨b2, rfl, rfl, hv2⟩
  obtain ⟨y0, y1, y2⟩ := blk3 K1.out
  have g6 := blkFz K1.out
  cases b2
  · have Ho := Lib.hid (ntk_no (Ds := Ds) (f := f) (fun hh => hbF hv2 hh.2.1)); clear hv2
    go_wp2
    exact bodyPost_ret (v := .tuple #[.agg #[.int .i64 0, .int .i64 0, .int .i64 0], .bool false]) (by simp [results, Try.results43, go_sem, y0, y1, y2, g6]) rfl ⟨by rw [Ho.out], bel3 Hb1.out (Nat.le_refl _) _ _ _⟩
  have hp2 := Lib.hid (hbT hv2); clear hv2
  clear y0 y1 y2 g6
  go_wp2_with fail
  refine (within_c _ _ _ _).mono ?_
  rintro e w2 ⟨b2, rfl, rfl, hv2⟩
  cases b2
  · have Ho := Lib.hid (ntk_no (Ds := Ds) (s := s) (fun hh => hbF hv2 hh.2.2)); clear hv2
    obtain ⟨y0, y1, y2⟩ := blk3 K1.out
    have g6 := blkFz K1.out
    go_wp2
    exact bodyPost_ret (v := .tuple #[.agg #[.int .i64 0, .int .i64 0, .int .i64 0], .bool false]) (by simp [results, Try.results43, go_sem, y0, y1, y2, g6]) rfl ⟨by rw [Ho.out], bel3 Hb1.out (Nat.le_refl _) _ _ _⟩
  have hp3 := hbT hv2; clear hv2
  have Hff := Lib.hid (ntk_yes (⟨hp1.out, hp2.out, hp3⟩))
  obtain ⟨k, rfl⟩ : ∃ k : Nat, f = (k : Int) := ⟨f.toNat, by omega⟩
  have hk : k ≤ s.size := by omega
  rw [Int.toNat_natCast] at Hff
  clear hp3
  go_wp2_with fail
  refine (nextToken_c _ Ds s k _ (H.out.stay (kpB Hb1.out)) hp1.out.2 hp2.out hk).mono ?_
  rintro e w3 ⟨rfl, hb3⟩
  have K2 := Lib.hid (blkBel hb3 K1.out)
  have Hb3 := Lib.hid (Hb1.out.trans (hb3.mono Hb1.out.size))
  clear hb3 K1
  obtain ⟨y0, y1, y2⟩ := blk3 K2.out
  have g6 := blkFz K2.out
  go_wp2
  exact bodyPost_ret (v := .tuple #[.agg #[.int .i64 (tok Ds s k).1.1, .int .i64 (tok Ds s k).1.2.1, .int .i64 (tok Ds s k).1.2.2], .bool (tok Ds s k).2]) (by simp [results, Try.results43, go_sem, y0, y1, y2, g6]) rfl ⟨by rw [Hff.out], bel3 Hb3.out (Nat.le_refl _) _ _ _⟩
set_option maxHeartbeats 1000000 in
theorem sNextToken_no (v : Value) (Ds : List DfaD) (s : ByteArray) (f : Int) (w : World) (h : DfaS S w v Ds) (hs : s.size ≤ maxLen) (hv : ¬ (okP Ds ∧ (letS s ∧ s.size ≤ 30) ∧ 0 ≤ f ∧ f ≤ s.size)) :
    Calls Try.prog 42 #[v, .string s, .int .i64 f] w (R3t w (ntk Ds s f)) := by
  have Ho := Lib.hid (ntk_no hv)
  have HV := Lib.hid hv; clear hv
  obtain ⟨a, cap, rfl, hn⟩ := h.shape
  have H := Lib.hid h; clear h
  obtain ⟨W, hW⟩ : ∃ W, W = w.alloc (.cells #[.int .i64 0, .int .i64 0, .int .i64 0] 60) := ⟨_, rfl⟩
  have Hb0 : Hid (Below w.heap.size w W) := by rw [hW]; exact (Below.refl _ _).alloc (Nat.le_refl _) _
  have K0 : Hid (W.heap[w.heap.size]? = some (.cells #[.int .i64 0, .int .i64 0, .int .i64 0] 60 (0, 0))) := by rw [hW]; exact blkNew _ _ rfl
  have Hz : Hid (W.heap.size = w.heap.size + 1) := by rw [hW]; simp [Hid]
  have HW := Lib.hid hW; clear hW
  obtain ⟨W2, hW2⟩ : ∃ W2, W2 = W.alloc (.cells #[.int .i64 0, .int .i64 0, .int .i64 0] 60) := ⟨_, rfl⟩
  have hbw : Below W.heap.size W W2 := by rw [hW2]; exact (Below.refl _ _).alloc (Nat.le_refl _) _
  have K2 := Lib.hid (blkBel hbw K0.out)
  have K3 : Hid (W2.heap[w.heap.size + 1]? = some (.cells #[.int .i64 0, .int .i64 0, .int .i64 0] 60 (0, 0))) := by rw [hW2]; exact blkNew _ _ Hz.out.symm
  have Hb2 : Hid (Below w.heap.size w W2) := Hb0.out.trans (hbw.mono Hb0.out.size)
  have Hz2 : Hid (W2.heap.size = w.heap.size + 2) := by rw [hW2]; simp [Hid, Hz.out]
  have HW2 := Lib.hid hW2; clear hW2 hbw Hb0 K0 Hz
  have hsz : s.size ≤ 9223372036854775807 := by unfold maxLen at hs; exact hs
  have Hs := Lib.hid hs; clear hs
  go_enter Try.func42, Try.ntmps42
  go_wp2
  rw [← HW.out, ← HW2.out]
  go_loopw [9, 10] (fun b i wr => b = .bool false ∧ i = .int .i64 0 ∧ wr = W2) (fun _ _ _ => 0)
  case atStart => exact ⟨rfl, rfl, rfl⟩
  case round =>
    obtain ⟨rfl, rfl, rfl⟩ := hrel
    by_cases hlt : 0 < Ds.length
    · have hltI : (0 : Int) < (Ds.length : Int) := by omega
      go_wp2_with fail
      refine (sPatternsValid_c _ Ds _ (H.out.stay (kpB Hb2.out))).mono ?_
      rintro e w1 ⟨b1, rfl, hb1, hv1⟩
      have K5 := Lib.hid (blkBel hb1 K2.out)
      have K6 := Lib.hid (blkBel hb1 K3.out)
      have Hb1 := Lib.hid (Hb2.out.trans (hb1.mono Hb2.out.size))
      clear hb1
      have hfin := bel3 Hb1.out (Nat.le_refl _) (.int .i64 0) (.int .i64 0) (.int .i64 0)
      have Hfin := Lib.hid hfin; clear hfin
      cases b1
      · clear hv1
        obtain ⟨x0, x1, x2⟩ := blk3 K5.out
        obtain ⟨y0, y1, y2⟩ := blk3 K6.out
        have g6 := blkFz K5.out
        go_wp2
        exact bodyPost_ret (v := .tuple #[.agg #[.int .i64 0, .int .i64 0, .int .i64 0], .bool false]) (by simp [results, Try.results42, go_sem, x0, x1, x2, g6]) rfl ⟨by rw [Ho.out], Hfin.out⟩
      have hp1 := Lib.hid (hbT hv1); clear hv1
      go_wp2_with fail
      refine (sTextValid_c s _ Hs.out).mono ?_
      rintro e w2 ⟨b2, rfl, rfl, hv2⟩
      cases b2
      · clear hv2
        obtain ⟨x0, x1, x2⟩ := blk3 K5.out
        obtain ⟨y0, y1, y2⟩ := blk3 K6.out
        have g6 := blkFz K5.out
        go_wp2
        exact bodyPost_ret (v := .tuple #[.agg #[.int .i64 0, .int .i64 0, .int .i64 0], .bool false]) (by simp [results, Try.results42, go_sem, x0, x1, x2, g6]) rfl ⟨by rw [Ho.out], Hfin.out⟩
      have hp2 := Lib.hid (hbT hv2); clear hv2
      go_wp2_with fail
      refine (l1In_c _ _ _ _).mono ?_
      rintro e w2 ⟨b2, rfl, rfl, hv2⟩
      cases b2
      · clear hv2
        obtain ⟨x0, x1, x2⟩ := blk3 K5.out
        obtain ⟨y0, y1, y2⟩ := blk3 K6.out
        have g6 := blkFz K5.out
        go_wp2
        exact bodyPost_ret (v := .tuple #[.agg #[.int .i64 0, .int .i64 0, .int .i64 0], .bool false]) (by simp [results, Try.results42, go_sem, x0, x1, x2, g6]) rfl ⟨by rw [Ho.out], Hfin.out⟩
      · exact (HV.out ⟨hp1.out, hp2.out, hbT hv2⟩).elim
    · have hltI : ¬ (0 : Int) < (Ds.length : Int) := by omega
      obtain ⟨x0, x1, x2⟩ := blk3 K2.out
      obtain ⟨y0, y1, y2⟩ := blk3 K3.out
      have g6 := blkFz K2.out
      go_wp2
      exact bodyPost_ret (v := .tuple #[.agg #[.int .i64 0, .int .i64 0, .int .i64 0], .bool false]) (by simp [results, Try.results42, go_sem, x0, x1, x2, g6]) rfl ⟨by rw [Ho.out], bel3 Hb2.out (Nat.le_refl _) _ _ _⟩
set_option maxHeartbeats 2000000 in
theorem sNextToken_yes (v : Value) (Ds : List DfaD) (s : ByteArray) (f : Nat) (w : World) (h : DfaS S w v Ds) (hv : okP Ds ∧ (letS s ∧ s.size ≤ 30)) (hf : f ≤ s.size) :
    Calls Try.prog 42 #[v, .string s, .int .i64 f] w (R3t w (tok Ds s f)) := by
  have hs : s.size ≤ 30 := hv.2.2
  have HP := Lib.hid hv.1
  have Hl := Lib.hid hv.2
  clear hv
  obtain ⟨a, cap, rfl, hn⟩ := h.shape
  have H := Lib.hid h; clear h
  obtain ⟨W, hW⟩ : ∃ W, W = w.alloc (.cells #[.int .i64 0, .int .i64 0, .int .i64 0] 60) := ⟨_, rfl⟩
  have Hb0 : Hid (Below w.heap.size w W) := by rw [hW]; exact (Below.refl _ _).alloc (Nat.le_refl _) _
  have K0 : Hid (W.heap[w.heap.size]? = some (.cells #[.int .i64 0, .int .i64 0, .int .i64 0] 60 (0, 0))) := by rw [hW]; exact blkNew _ _ rfl
  have Hz : Hid (W.heap.size = w.heap.size + 1) := by rw [hW]; simp [Hid]
  have HW := Lib.hid hW; clear hW
  obtain ⟨W2, hW2⟩ : ∃ W2, W2 = W.alloc (.cells #[.int .i64 0, .int .i64 0, .int .i64 0] 60) := ⟨_, rfl⟩
  have hbw : Below W.heap.size W W2 := by rw [hW2]; exact (Below.refl _ _).alloc (Nat.le_refl _) _
  have K2 := Lib.hid (blkBel hbw K0.out)
  have K3 : Hid (W2.heap[w.heap.size + 1]? = some (.cells #[.int .i64 0, .int .i64 0, .int .i64 0] 60 (0, 0))) := by rw [hW2]; exact blkNew _ _ Hz.out.symm
  have Hb2 : Hid (Below w.heap.size w W2) := Hb0.out.trans (hbw.mono Hb0.out.size)
  have Hz2 : Hid (W2.heap.size = w.heap.size + 2) := by rw [hW2]; simp [Hid, Hz.out]
  have HW2 := Lib.hid hW2; clear hW2 hbw Hb0 K0 Hz
  go_enter Try.func42, Try.ntmps42
  go_wp2
  rw [← HW.out, ← HW2.out]
  go_loopw [9, 10] (fun fd i wr => ∃ (k : Nat) (p o t : Int) (b : Bool), k ≤ Ds.length ∧ i = .int .i64 k ∧ fd = .bool b ∧ Hid (Below w.heap.size w wr) ∧ Hid (w.heap.size + 2 ≤ wr.heap.size) ∧ Hid (wr.heap[w.heap.size]? = some (.cells #[.int .i64 0, .int .i64 0, .int .i64 0] 60 (0, 0))) ∧ Hid (wr.heap[w.heap.size + 1]? = some (.cells #[.int .i64 p, .int .i64 o, .int .i64 t] 60 (0, 0))) ∧ Hid (((p, o, t), b) = if (tkb Ds s f k).2 = f then ((0, 0, 0), false) else (((tkb Ds s f k).1, (f : Int), (tkb Ds s f k).2), true))) (fun _ i _ => Ds.length - (intOf i).toNat)
  case atStart => exact ⟨0, 0, 0, 0, false, by omega, rfl, rfl, Hb2.out, Nat.le_of_eq Hz2.out.symm, K2.out, K3.out, by simp [Hid, tkb]⟩
  case round =>
    obtain ⟨k, p, o, t, b, hk, rfl, rfl, hb, hz, k6, k8, ht⟩ := hrel
    by_cases hlt : k < Ds.length
    · go_wp2_with fail
      refine (sPatternsValid_c _ Ds _ (H.out.stay (kpB hb.out))).mono ?_
      rintro e w1 ⟨b1, rfl, hb1, hv1⟩
      cases b1
      · exact (hbF hv1 HP.out).elim
      clear hv1
      have Hb := Lib.hid (hb.out.trans (hb1.mono hb.out.size))
      have Hz3 : Hid (w.heap.size + 2 ≤ w1.heap.size) := Nat.le_trans hz.out hb1.size
      have K6 := Lib.hid (blkBel hb1 k6.out)
      have K8 := Lib.hid (blkBel hb1 k8.out)
      clear hb1 hb hz k6 k8
      go_wp2_with fail
      refine (sTextValid_c s _ (by unfold maxLen; omega)).mono ?_
      rintro e w2 ⟨b2, rfl, rfl, hv2⟩
      cases b2
      · exact (hbF hv2 Hl.out).elim
      clear hv2
      go_wp2_with fail
      refine (l1In_c _ _ _ _).mono ?_
      rintro e w2 ⟨b2, rfl, rfl, hv2⟩
      cases b2
      · exact (hbF hv2 ⟨by omega, by omega⟩).elim
      clear hv2
      obtain ⟨b', off, vn, ve, rfl, c0, c1, hd⟩ := (H.out.stay (kpB Hb.out)).at hlt
      have hst := Lib.hid (tkb_step (s := s) (f := f) hlt)
      have hbd := tkb_bd Ds s hf k
      obtain ⟨x, hx⟩ : ∃ x, x = Ds[k] := ⟨_, rfl⟩
      have hok := HP.out.2 _ (List.getElem_mem hlt)
      rw [← hx] at hd hst hok
      obtain ⟨a1, ca1, b1, cb1, rfl, rfl, _, _⟩ := hd.shapes
      have Hd := Lib.hid hd
      have Hok := Lib.hid hok
      have Hbd := Lib.hid hbd
      clear hx hd hok hbd
      go_wp2_with fail
      clear c0 c1
      refine (l19Longest_c _ _ x s f _ Hd.out Hok.out Hl.out hf).mono ?_
      rintro e w3 ⟨n, rfl, hb3, hn1⟩
      obtain ⟨hn1, hn2, hn3⟩ := hn1.out
      rw [← hn1] at hst
      have Hn1 := Lib.hid hn1; clear hn1
      have Hb' := Lib.hid (Hb.out.trans (hb3.mono Hb.out.size))
      have Hz4 : Hid (w.heap.size + 2 ≤ w3.heap.size) := Nat.le_trans Hz3.out hb3.size
      have K6' := Lib.hid (blkBel hb3 K6.out)
      have K8' := Lib.hid (blkBel hb3 K8.out)
      clear hb3 Hb Hz3 K6 K8 Hd
      have hyes : (tkb Ds s f k).2 < n → Hid ((((k : Int), (f : Int), n), true) = if (tkb Ds s f (k + 1)).2 = f then ((0, 0, 0), false) else (((tkb Ds s f (k + 1)).1, (f : Int), (tkb Ds s f (k + 1)).2), true)) := fun h => by
        rw [hst.out, if_pos h, if_neg (by have := Hbd.out; show ¬ n = f; omega)]; rfl
      have hno : ¬ (tkb Ds s f k).2 < n → Hid (((p, o, t), b) = if (tkb Ds s f (k + 1)).2 = f then ((0, 0, 0), false) else (((tkb Ds s f (k + 1)).1, (f : Int), (tkb Ds s f (k + 1)).2), true)) := fun h => by
        rw [hst.out, if_neg h]; exact ht.out
      have Hyes := Lib.hid hyes
      have Hno := Lib.hid hno
      clear hyes hno
      have hcase : (b = false ∧ (tkb Ds s f k).2 = f) ∨ (b = true ∧ t = (tkb Ds s f k).2 ∧ (f : Int) < t) := by
        have h1 := ht.out
        have h2 := Hbd.out
        split at h1
        · simp at h1; exact .inl ⟨h1.2, by assumption⟩
        · simp at h1; exact .inr ⟨h1.2, h1.1.2.2, by omega⟩
      obtain ⟨x0, x1, x2⟩ := blk3 K8'.out
      have g8 := blkFz K8'.out
      by_cases hnf : (f : Int) < n
      · rcases hcase with ⟨rfl, hc⟩ | ⟨rfl, hc, hc2⟩
        · have HH := Hyes.out (by omega)
          clear hc Hyes Hno
          go_wp2
          go_roundw
          case rel => exact ⟨k + 1, k, f, n, true, by omega, by go_num, rfl, bel3 Hb'.out (Nat.le_succ _) _ _ _, by simpa [Hid] using Hz4.out, blk3o _ _ _ K6'.out (by omega), blk3s K8'.out, HH⟩
          case measure => simp [intOf]; omega
        · by_cases htn : t < n
          · have HH := Hyes.out (by omega)
            clear hc Hyes Hno
            go_wp2
            go_roundw
            case rel => exact ⟨k + 1, k, f, n, true, by omega, by go_num, rfl, bel3 Hb'.out (Nat.le_succ _) _ _ _, by simpa [Hid] using Hz4.out, blk3o _ _ _ K6'.out (by omega), blk3s K8'.out, HH⟩
            case measure => simp [intOf]; omega
          · have HH := Hno.out (by omega)
            clear hc Hyes Hno
            go_wp2
            go_roundw
            case rel => exact ⟨k + 1, p, o, t, true, by omega, by go_num, rfl, Hb'.out, Hz4.out, K6'.out, K8'.out, HH⟩
            case measure => simp [intOf]; omega
      · have HH := Hno.out (by have := Hbd.out; omega)
        clear hcase Hyes Hno
        go_wp2
        go_roundw
        case rel => exact ⟨k + 1, p, o, t, b, by omega, by go_num, rfl, Hb'.out, Hz4.out, K6'.out, K8'.out, HH⟩
        case measure => simp [intOf]; omega
    · obtain rfl : k = Ds.length := by omega
      obtain ⟨x0, x1, x2⟩ := blk3 k8.out
      obtain ⟨y0, y1, y2⟩ := blk3 k6.out
      have g6 := blkFz k6.out
      have HT : Hid (tok Ds s f = ((p, o, t), b)) := by unfold tok; exact ht.out.symm
      go_wp2
      exact bodyPost_ret (v := .tuple #[.agg #[.int .i64 p, .int .i64 o, .int .i64 t], .bool b]) (by simp [results, Try.results42, go_sem, y0, y1, y2, g6]) rfl ⟨by rw [HT.out], bel3 hb.out (Nat.le_refl _) _ _ _⟩
theorem sNextToken_c (v : Value) (Ds : List DfaD) (s : ByteArray) (f : Int) (w : World) (h : DfaS S w v Ds) (hs : s.size ≤ maxLen) :
    Calls Try.prog 42 #[v, .string s, .int .i64 f] w (R3t w (ntk Ds s f)) := by
  by_cases hv : okP Ds ∧ (letS s ∧ s.size ≤ 30) ∧ 0 ≤ f ∧ f ≤ s.size
  · obtain ⟨k, rfl⟩ : ∃ k : Nat, f = (k : Int) := ⟨f.toNat, by omega⟩
    rw [ntk_yes hv, Int.toNat_natCast]
    exact sNextToken_yes v Ds s k w h ⟨hv.1, hv.2.1⟩ (by omega)
  · exact sNextToken_no v Ds s f w h hs hv
theorem eqToken_c (x y z : Int) (w : World) : Calls Try.prog 44 #[.agg #[.int .i64 x, .int .i64 y, .int .i64 z], .agg #[.int .i64 x, .int .i64 y, .int .i64 z]] w (RBn w True) := by
  have hx := bneS x
  have hy := bneS y
  have hz := bneS z
  go_enter Try.func44, Try.ntmps44
  go_wp2
  go_ret
  exact RBn.mk (((Below.refl _ _).alloc (Nat.le_refl _) _).alloc (by simp) _) (by simp)
end Go.Proofs.Ythdbgpdidolmaaa

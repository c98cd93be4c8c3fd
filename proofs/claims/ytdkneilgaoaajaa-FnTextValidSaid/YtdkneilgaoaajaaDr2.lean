/- What is drawn: bools, words, texts. A reader stands at a place of at most 900000. -/
import Derived.Test.YtdkneilgaoaajaaDrw
namespace Go.Proofs.Ytdkneilgaoaajaa
open Go.RowKit
set_option maxRecDepth 100000

theorem Rdr.lt {w : World} {rb p : Nat} (h : Rdr w rb p) : rb < w.heap.size := by
  obtain ⟨bv, bs, h1, h2, h3⟩ := h
  exact (Array.getElem?_eq_some_iff.1 h1).1
/-- A bool was drawn in at most c steps. -/
def DrB (rb p c : Nat) (w : World) (e : Ending) (w' : World) : Prop := ∃ (b : Bool) (p' : Nat), e = .returned (.bool b) ∧ p' ≤ p + c ∧ Dr rb w w' ∧ Hid (Rdr w' rb p')
/-- A string of at most m bytes was drawn in at most c steps. -/
def DrS (rb p c m : Nat) (w : World) (e : Ending) (w' : World) : Prop := ∃ (s : ByteArray) (p' : Nat), e = .returned (.string s) ∧ s.size ≤ m ∧ p' ≤ p + c ∧ Dr rb w w' ∧ Hid (Rdr w' rb p')

theorem byteStr (w : World) (z : Int) (c : UInt8) (h : z = c.toNat) :
    (convert 23 9 (.slice (some ⟨w.heap.size, 0, none⟩) 1 1)).run Try.prog (w.alloc (.cells #[.int .u8 z] 5)) = .ok (.string ⟨#[c]⟩) (w.alloc (.cells #[.int .u8 z] 5)) := by
  subst h
  refine run_convert_bytes_back (w.alloc (.cells #[.int .u8 c.toNat] 5)) 23 9 5 ⟨w.heap.size, 0, none⟩ 1 [c] Try.underlying23 Try.underlying5 Try.underlying9 (fun j hj => ?_)
  have : j = 0 := by simpa using hj
  subst this
  simp [Addr.add, World.cell?_alloc_mark]
theorem odd_c (rb p : Nat) (n : Int) (w : World) (h : Rdr w rb p) (hp : p ≤ 1000000) (hn1 : -9223372036854775808 < n) :
    Calls Try.prog 108 #[.pointer (some ⟨rb, 0, none⟩), .int .i64 n] w (DrB rb p 1 w) := by
  have H := Lib.hid h; clear h
  by_cases hn : 0 < n
  · go_enter Try.func108, Try.ntmps108
    go_wp2_with fail
    refine (pick_c rb p n w H.out hp).mono ?_
    rintro e w' ⟨r, rfl, h0, h4, hd, hr⟩
    by_cases hx : r = n - 1
    · have hx' : (r == n - 1) = true := by simpa using hx
      have Hx := Lib.hid hx; clear hx
      go_wp2
      go_ret
      exact ⟨_, p + 1, rfl, by omega, hd, hr⟩
    · have hx' : (r == n - 1) = false := by simpa using hx
      clear hx
      go_wp2
      go_ret
      exact ⟨_, p + 1, rfl, by omega, hd, hr⟩
  · go_enter Try.func108, Try.ntmps108
    go_wp2
    go_ret
    exact ⟨_, p, rfl, by omega, Dr.refl _ _, H⟩
set_option maxRecDepth 100000 in
set_option maxHeartbeats 400000 in
theorem l20Word_c (rb p : Nat) (n : Int) (w : World) (h : Rdr w rb p) (hp : p ≤ 900000) (hn1 : -9223372036854775808 < n) :
    Calls Try.prog 107 #[.pointer (some ⟨rb, 0, none⟩), .int .i64 n] w (DrS rb p 20 9 w) := by
  have H := Lib.hid h; clear h
  go_enter Try.func107, Try.ntmps107
  go_wp2_with fail
  refine (pick_c rb p _ w H.out (by omega)).mono ?_
  rintro e w1 ⟨k0, rfl, hk0, hk1, hd1, hr1⟩
  go_wp2_with fail
  have hk8 : k0 ≤ 8 := by omega
  obtain ⟨K, rfl⟩ := Int.eq_ofNat_of_zero_le hk0
  clear hk0 hk1
  go_loopw [5, 6] (fun s i wr => ∃ (z : ByteArray) (k p' : Nat), s = .string z ∧ i = .int .i64 k ∧ k ≤ K ∧ z.size + k ≤ 8 ∧ p' + k ≤ p + 1 + K ∧ Dr rb w wr ∧ Hid (Rdr wr rb p')) (fun _ i _ => (intOf i).toNat)
  case atStart => exact ⟨_, K, p + 1, rfl, rfl, by omega, by simp [ByteArray.size]; omega, by omega, hd1, hr1⟩
  case round =>
    obtain ⟨z, k, p', rfl, rfl, hkK, hz, hp', hd, hr⟩ := hrel
    clear hd1 hr1 H
    by_cases hlt : 0 < k
    · go_wp2_with fail
      refine (pick_c rb p' _ _ hr.out (by omega)).mono ?_
      rintro e w2 ⟨r, rfl, hr0, hr1, hd2, hr2⟩
      have hr3 : r ≤ 2 := by omega
      clear hr1
      have hb := byteStr w2 (97 + r) (UInt8.ofNat (97 + r).toNat) (by rw [UInt8.toNat_ofNat']; omega)
      generalize UInt8.ofNat (97 + r).toNat = c at *
      go_wp2
      go_roundw
      case rel => exact ⟨_, k - 1, p' + 1, rfl, by rw [show ((k - 1 : Nat) : Int) = (k : Int) - 1 by omega], by omega, by rw [ByteArray.size_append]; show z.size + 1 + (k - 1) ≤ 8; omega, by omega, (hd.trans hd2).trans (Dr.below ((Below.refl _ _).alloc (Nat.le_refl _) _)), hr2.out.stay ((Below.refl _ _).alloc (Nat.le_refl _) _)⟩
      case measure => simp [intOf]; omega
    · obtain rfl : k = 0 := by omega
      go_wp2_with fail
      refine (odd_c rb p' _ _ hr.out (by omega) hn1).mono ?_
      rintro e w2 ⟨b, p2, rfl, hp2, hd2, hr2⟩
      cases b
      · go_wp2
        go_ret
        exact ⟨_, p2, rfl, by omega, by omega, hd.trans hd2, hr2⟩
      · have hlt2 := hr2.out.lt
        go_wp2_with fail
        refine (pick_c rb p2 _ _ (hr2.out.stay ((Below.refl _ _).alloc (Nat.le_refl _) _)) (by omega)).mono ?_
        rintro e w3 ⟨r, rfl, hr0, hr1, hd3, hr3⟩
        have hcell : ∀ (j : Nat) (v : Value), #[Value.string (z ++ ⟨#[100]⟩), .string (z ++ ⟨#[65]⟩), .string ⟨#[97, 97, 97, 97, 97, 97, 97, 97, 97]⟩][j]? = some v → w3.cell? ⟨w2.heap.size, j, none⟩ = some v :=
          fun j v h => hd3.kp _ _ (by show w2.heap.size ≠ rb; omega) (by rw [World.cell?_alloc_mark]; exact h)
        have hc0 := hcell 0 _ rfl
        have hc1 := hcell 1 _ rfl
        have hc2 := hcell 2 _ rfl
        clear hcell
        have hDr : Dr rb w w3 := ((hd.trans hd2).trans (Dr.below ((Below.refl _ _).alloc (Nat.le_refl _) _))).trans hd3
        clear hd hd2 hd3 hlt2
        rcases (by omega : r = 0 ∨ r = 1 ∨ r = 2) with rfl | rfl | rfl
        all_goals
          clear hr1
          go_wp2
          go_ret
          exact ⟨_, p2 + 1, rfl, by first | (rw [ByteArray.size_append]; show z.size + 1 ≤ 9; omega) | (show 9 ≤ 9; omega), by omega, hDr, hr3⟩
set_option maxRecDepth 100000 in
set_option maxHeartbeats 400000 in
theorem l20Long_c (rb p : Nat) (n : Int) (w : World) (h : Rdr w rb p) (hp : p ≤ 800000) (hn1 : -9223372036854775808 < n) :
    Calls Try.prog 66 #[.pointer (some ⟨rb, 0, none⟩), .int .i64 n] w (DrS rb p 70 85 w) := by
  have H := Lib.hid h; clear h
  go_enter Try.func66, Try.ntmps66
  go_wp2_with fail
  refine (l20Word_c rb p 0 w H.out (by omega) (by omega)).mono ?_
  rintro e w1 ⟨s1, p1, rfl, hs1, hp1, hd1, hr1⟩
  go_wp2_with fail
  refine (l20Word_c rb p1 0 _ hr1.out (by omega) (by omega)).mono ?_
  rintro e w2 ⟨s2, p2, rfl, hs2, hp2, hd2, hr2⟩
  go_wp2_with fail
  refine (l20Word_c rb p2 0 _ hr2.out (by omega) (by omega)).mono ?_
  rintro e w3 ⟨s3, p3, rfl, hs3, hp3, hd3, hr3⟩
  have hsz : (s1 ++ s2 ++ s3).size ≤ 27 := by rw [ByteArray.size_append, ByteArray.size_append]; omega
  have hD : Dr rb w w3 := (hd1.trans hd2).trans hd3
  clear hd1 hd2 hd3 H hr1 hr2
  go_wp2_with fail
  generalize s1 ++ s2 ++ s3 = z at *
  refine (odd_c rb p3 _ _ hr3.out (by omega) hn1).mono ?_
  rintro e w4 ⟨b, p4, rfl, hp4, hd4, hr4⟩
  cases b
  · go_wp2
    go_ret
    exact ⟨_, p4, rfl, by omega, by omega, hD.trans hd4, hr4⟩
  · have hlt2 := hr4.out.lt
    go_wp2_with fail
    refine (pick_c rb p4 _ _ (hr4.out.stay ((Below.refl _ _).alloc (Nat.le_refl _) _)) (by omega)).mono ?_
    rintro e w5 ⟨r, rfl, hr0, hr1, hd5, hr5⟩
    have hcell : ∀ (j : Nat) (v : Value), #[Value.string (z ++ ⟨#[100]⟩), .string (z ++ z ++ ⟨#[97, 97, 97, 97, 97, 97, 97, 97, 97, 97, 97, 97, 97, 97, 97, 97, 97, 97, 97, 97, 97, 97, 97, 97, 97, 97, 97, 97, 97, 97, 97]⟩)][j]? = some v → w5.cell? ⟨w4.heap.size, j, none⟩ = some v :=
      fun j v h => hd5.kp _ _ (by show w4.heap.size ≠ rb; omega) (by rw [World.cell?_alloc_mark]; exact h)
    have hc0 := hcell 0 _ rfl
    have hc1 := hcell 1 _ rfl
    clear hcell
    have hDr : Dr rb w w5 := ((hD.trans hd4).trans (Dr.below ((Below.refl _ _).alloc (Nat.le_refl _) _))).trans hd5
    clear hD hd4 hd5 hlt2
    rcases (by omega : r = 0 ∨ r = 1) with rfl | rfl
    all_goals
      clear hr1
      go_wp2
      go_ret
      exact ⟨_, p4 + 1, rfl, by first | (rw [ByteArray.size_append, ByteArray.size_append]; show z.size + z.size + 31 ≤ 85; omega) | (rw [ByteArray.size_append]; show z.size + 1 ≤ 85; omega), by omega, hDr, hr5⟩
theorem openCore {S : Nat → Prop} {v : Value} {bs : List UInt8} {w : World} (h : Bytes S w v bs) (hl : bs.length ≤ 2000) :
    Rdr (w.alloc (.cells #[v, .int .i64 0] 121)) w.heap.size 0 := by
  refine ⟨v, bs, heap_alloc_new w _, ((Fl.inHeap h).mono fun b hb => ?_).stay kpAlloc, hl⟩
  have := hb.2
  show b ≠ _
  omega
theorem l20Open_c {S : Nat → Prop} (v : Value) (bs : List UInt8) (w : World) (h : Bytes S w v bs) :
    Calls Try.prog 67 #[v] w fun e w' => ∃ rb, e = .returned (.pointer (some ⟨rb, 0, none⟩)) ∧ w.heap.size ≤ rb ∧ Below w.heap.size w w' ∧ Hid (Rdr w' rb 0) := by
  obtain ⟨a, cap, rfl, hn⟩ := h.shape
  have H := Lib.hid h; clear h
  by_cases hl : 2000 < bs.length
  · have H2 : Bytes S w (.slice a 2000 cap) (bs.take 2000) := by
      obtain ⟨a', cap', e, hm, hc⟩ := H.out
      cases e
      refine ⟨a, cap, by simp; omega, ⟨by simp [maxLen]; omega, by have := hm.2.1; simp; omega, hm.2.2⟩, fun i hi => ?_⟩
      obtain ⟨b, off, e, s, c⟩ := hc i (by simp at hi ⊢; omega)
      refine ⟨b, off, e, s, c.trans ?_⟩
      simp
    have H3 := Lib.hid H2; clear H2
    have hcap := Fl.cap H.out
    obtain ⟨b, off, rfl, _⟩ := H.out.at (k := 0) (by omega)
    go_enter Try.func67, Try.ntmps67
    go_wp2
    go_ret
    exact ⟨_, rfl, Nat.le_refl _, (Below.refl _ _).alloc (Nat.le_refl _) _, openCore H3.out (by simp; omega)⟩
  · go_enter Try.func67, Try.ntmps67
    go_wp2
    go_ret
    exact ⟨_, rfl, Nat.le_refl _, (Below.refl _ _).alloc (Nat.le_refl _) _, openCore H.out (by omega)⟩
theorem DrawTextValid_c {S : Nat → Prop} (v : Value) (bs : List UInt8) (w : World) (h : Bytes S w v bs) :
    Calls Try.prog 17 #[v] w (RSn w fun s => s.size ≤ 85) := by
  have H := Lib.hid h; clear h
  go_enter Try.func17, Try.ntmps17
  go_wp2_with fail
  refine (l20Open_c _ _ _ H.out).mono ?_
  rintro e w1 ⟨rb, rfl, hrb, hb1, hr1⟩
  go_wp2_with fail
  refine (l20Long_c rb 0 _ _ hr1.out (by omega) (by omega)).mono ?_
  rintro e w2 ⟨s, p2, rfl, hs, _, hd2, _⟩
  go_wp2
  go_ret
  exact ⟨s, rfl, hb1.trans (hd2.bel hrb hb1.size), hs⟩
end Go.Proofs.Ytdkneilgaoaajaa

/- The reader that draws: pick, odd, words, texts. A reader stands at a place of at most 1000000.
What is drawn: bools, words, texts. A reader stands at a place of at most 900000.
The reader that draws, its bytes in older memory: what is drawn may be built in memory of the call's own. -/
import Derived.Test.YtbcjhiponbfbnaaGA
import Derived.Test.YtbcjhiponbfbnaaGD
set_option linter.unusedSimpArgs false
set_option linter.unusedVariables false
set_option linter.unusedSectionVars false
namespace Go.Proofs.Ytbcjhiponbfbnaa
open Go.RowKit
set_option maxRecDepth 100000

/-- Block rb is a reader that stands at place p. -/
def Rdr (w : World) (rb p : Nat) : Prop :=
  ∃ bv bs, w.heap[rb]? = some (.cells #[bv, .int .i64 p] 98 (0, 0)) ∧ Bytes (· ≠ rb) w bv bs ∧ bs.length ≤ 2000

/-- Nothing but the reader and new memory. -/
def Dr (rb : Nat) (w w' : World) : Prop := w.grownBy w' (some rb)

theorem Rdr.stay {w w' : World} {rb p : Nat} (h : Rdr w rb p) (hb : Below w.heap.size w w') : Rdr w' rb p := by
  obtain ⟨bv, bs, h1, h2, h3⟩ := h
  refine ⟨bv, bs, ?_, h2.stay (kpB hb), h3⟩
  rw [hb.block rb (Array.getElem?_eq_some_iff.1 h1).1]; exact h1

theorem Dr.refl (rb : Nat) (w : World) : Dr rb w w := ⟨rfl, rfl, rfl, Nat.le_refl _, fun _ _ _ => rfl⟩
theorem Dr.trans {rb : Nat} {a b c : World} (h : Dr rb a b) (k : Dr rb b c) : Dr rb a c :=
  ⟨k.os.trans h.os, k.tape.trans h.tape, k.output.trans h.output, Nat.le_trans h.size k.size, fun i hi hr => (k.block i (Nat.lt_of_lt_of_le hi h.size) hr).trans (h.block i hi hr)⟩
theorem Dr.below {rb : Nat} {a b : World} (h : Below a.heap.size a b) : Dr rb a b := ⟨h.os, h.tape, h.output, h.size, fun i hi _ => h.block i hi⟩
theorem Dr.drewN {rb : Nat} {a b : World} (h : Dr rb a b) (q : Nat) : Dr rb a (b.drewN q) := ⟨h.os, h.tape, h.output, h.size, h.block⟩
theorem Dr.bel {rb B : Nat} {a b : World} (h : Dr rb a b) (hB : B ≤ rb) (hs : B ≤ a.heap.size) : Below B a b := ⟨h.os, h.tape, h.output, h.size, fun k hk => h.block k (by omega) (by simp; omega)⟩
theorem Dr.kp {rb : Nat} {a b : World} (h : Dr rb a b) : Kp (· ≠ rb) a b := fun ad v s e => World.grownBy.cell h e (by simpa using s)

theorem Rdr.set {w : World} {rb p : Nat} (h : Rdr w rb p) : Dr rb w (w.setCell ⟨rb, 1, none⟩ (.int .i64 (↑p + 1))) ∧ Rdr (w.setCell ⟨rb, 1, none⟩ (.int .i64 (↑p + 1))) rb (p + 1) := by
  obtain ⟨bv, bs, h1, h2, h3⟩ := h
  refine ⟨⟨rfl, rfl, rfl, by simp [World.setCell], fun k hk hne => Below.heap_setCell _ _ _ _ (by simpa using hne)⟩, bv, bs, ?_, h2.stay kpSet, h3⟩
  rw [heap_set h1]; rfl

theorem in64 (z : Int) (h0 : -9223372036854775808 ≤ z) (h1 : z ≤ 9223372036854775807) : IntKind.i64.wrap z = z := IntWalk.i64_in _ ⟨by omega, by omega⟩

theorem xor0 (x y : Int) (hx : 0 ≤ x) (hy : 0 ≤ y) (hx' : x < 9223372036854775808) (hy' : y < 9223372036854775808) : 0 ≤ bits BinOp.xor IntKind.i64 x y := by
  obtain ⟨a, rfl⟩ := Int.eq_ofNat_of_zero_le hx
  obtain ⟨b, rfl⟩ := Int.eq_ofNat_of_zero_le hy
  have ha : a < 2 ^ 63 := by omega
  have hb : b < 2 ^ 63 := by omega
  have hlt : ((BitVec.ofInt 64 (a : Int)) ^^^ (BitVec.ofInt 64 (b : Int))).toNat < 2 ^ 63 := by
    rw [BitVec.toNat_xor]
    apply Nat.xor_lt_two_pow
    · simp; omega
    · simp; omega
  have hlt' : ((BitVec.ofInt IntKind.i64.bits (a : Int)) ^^^ (BitVec.ofInt IntKind.i64.bits (b : Int))).toNat < 2 ^ 63 := hlt
  show 0 ≤ IntKind.i64.wrap (((BitVec.ofInt IntKind.i64.bits (a : Int)) ^^^ (BitVec.ofInt IntKind.i64.bits (b : Int))).toNat : Int)
  generalize ((BitVec.ofInt IntKind.i64.bits (a : Int)) ^^^ (BitVec.ofInt IntKind.i64.bits (b : Int))).toNat = m at *
  rw [in64 _ (by omega) (by omega)]
  omega

theorem pickCore (rb p : Nat) (n : Int) (w : World) (a : Option Addr) (L cap : Nat) (bs : List UInt8) (hp : p ≤ 1000000) (hL : Hid (L = bs.length))
    (h1 : w.heap[rb]? = some (.cells #[.slice a L cap, .int .i64 p] 98 (0, 0))) (h2 : Bytes (· ≠ rb) w (.slice a L cap) bs) (h3 : L ≤ 2000) :
    Calls Try.prog 81 #[.pointer (some ⟨rb, 0, none⟩), .int .i64 n] w fun e w' =>
      ∃ r : Int, e = .returned (.int .i64 r) ∧ 0 ≤ r ∧ (r < n ∨ r = 0) ∧ ∃ q, w' = (w.setCell ⟨rb, 1, none⟩ (.int .i64 (↑p + 1))).drewN q := by
  have c0 := cell_of_row w rb 0 _ _ _ h1
  have c1 := cell_of_row w rb 1 _ _ _ h1
  have f1 : w.frozen? ⟨rb, 1, none⟩ = false := by simp [World.frozen?, h1]
  simp at c0 c1
  have h1' := heap_set h1 1 (.int .i64 (↑p + 1))
  have d0 := cell_of_row _ rb 0 _ _ _ h1'
  have d1 := cell_of_row _ rb 1 _ _ _ h1'
  simp at d0 d1
  have H2 := Lib.hid h2; clear h2
  clear h1 h1'
  by_cases hn : n < 1
  · go_enter Try.func81, Try.ntmps81
    go_wp2
    go_ret
    exact ⟨0, rfl, by omega, .inr rfl, 0, rfl⟩
  · by_cases hl : L = 0
    · have hl' : ((L : Int) == 0) = true := by simp [hl]
      have Hl := Lib.hid hl; clear hl
      go_enter Try.func81, Try.ntmps81
      go_wp2
      go_ret
      exact ⟨0, rfl, by omega, .inr rfl, 0, rfl⟩
    · have hl' : ((L : Int) == 0) = false := by simpa using hl
      have hpos : 0 < L := by omega
      by_cases hlt : p < L
      · obtain ⟨b, off, rfl, hc⟩ := (H2.out.stay (kpSet (w := w) (b := rb) (o := 1) (v := .int .i64 (↑p + 1)))).at (k := p) (by rw [← hL.out]; exact hlt)
        have hb := bs[p]'(by rw [← hL.out]; exact hlt) |>.toNat_lt
        generalize (bs[p]'(by rw [← hL.out]; exact hlt)).toNat = z at *
        go_enter Try.func81, Try.ntmps81
        go_wp2
        go_ret
        exact ⟨_, rfl, Int.emod_nonneg _ (by omega), .inl (Int.emod_lt_of_pos _ (by omega)), 0, rfl⟩
      · have hm1 : p % L < L := Nat.mod_lt _ hpos
        have hm2 : (p * 7 + 3) % L < L := Nat.mod_lt _ hpos
        have hq : p / L ≤ 1000000 := Nat.le_trans (Nat.div_le_self _ _) hp
        have t1 : (p : Int).tmod L = ((p % L : Nat) : Int) := rfl
        have t4 : ((p : Int) * 7 + 3).tmod L = (((p * 7 + 3) % L : Nat) : Int) := by
          rw [show (p : Int) * 7 + 3 = ((p * 7 + 3 : Nat) : Int) by simp]; rfl
        have t10 : (p : Int).tdiv L = ((p / L : Nat) : Int) := rfl
        obtain ⟨b, off, rfl, hc1⟩ := (H2.out.stay (kpSet (w := w) (b := rb) (o := 1) (v := .int .i64 (↑p + 1)))).at (k := p % L) (by rw [← hL.out]; exact hm1)
        obtain ⟨b', off', e, hc2⟩ := (H2.out.stay (kpSet (w := w) (b := rb) (o := 1) (v := .int .i64 (↑p + 1)))).at (k := (p * 7 + 3) % L) (by rw [← hL.out]; exact hm2)
        cases e
        have hz1 := bs[p % L]'(by rw [← hL.out]; exact hm1) |>.toNat_lt
        have hz2 := bs[(p * 7 + 3) % L]'(by rw [← hL.out]; exact hm2) |>.toNat_lt
        generalize (bs[p % L]'(by rw [← hL.out]; exact hm1)).toNat = z1 at *
        generalize (bs[(p * 7 + 3) % L]'(by rw [← hL.out]; exact hm2)).toNat = z2 at *
        generalize p % L = i1 at *
        generalize (p * 7 + 3) % L = i2 at *
        generalize p / L = q1 at *
        go_enter Try.func81, Try.ntmps81
        go_wp2
        have t2 := in64 (↑p * 7) (by omega) (by omega)
        have t3 := in64 (↑p * 7 + 3) (by omega) (by omega)
        have t5 := in64 (↑z1 * 131) (by omega) (by omega)
        have t6 := in64 (↑z2 * 1117) (by omega) (by omega)
        have t7 := in64 (↑z1 * 131 + ↑z2 * 1117) (by omega) (by omega)
        have t8 := in64 (↑p * 29) (by omega) (by omega)
        have t9 := in64 (↑z1 * 131 + ↑z2 * 1117 + ↑p * 29) (by omega) (by omega)
        have ta := in64 (↑q1) (by omega) (by omega)
        have tb := in64 (↑q1 * 53) (by omega) (by omega)
        have tc := in64 (↑z1 * 131 + ↑z2 * 1117 + ↑p * 29 + ↑q1 * 53) (by omega) (by omega)
        have td := in64 (↑z1) (by omega) (by omega)
        have te := in64 (↑z2) (by omega) (by omega)
        go_quiet (fail)
        clear t1 t2 t3 t4 t5 t6 t7 t8 t9 ta tb tc td te t10
        go_wp2
        go_ret
        have hx := xor0 (↑z1 * 131 + ↑z2 * 1117 + ↑p * 29 + ↑q1 * 53) ((↑z1 * 131 + ↑z2 * 1117 + ↑p * 29 + ↑q1 * 53) / 64) (by omega) (by omega) (by omega) (by omega)
        exact ⟨_, rfl, Int.tmod_nonneg _ hx, .inl (Int.tmod_lt_of_pos _ (by omega)), ⟨_, rfl⟩⟩

theorem pick_c (rb p : Nat) (n : Int) (w : World) (h : Rdr w rb p) (hp : p ≤ 1000000) :
    Calls Try.prog 81 #[.pointer (some ⟨rb, 0, none⟩), .int .i64 n] w fun e w' =>
      ∃ r : Int, e = .returned (.int .i64 r) ∧ 0 ≤ r ∧ (r < n ∨ r = 0) ∧ Dr rb w w' ∧ Hid (Rdr w' rb (p + 1)) := by
  have hs := h.set
  obtain ⟨bv, bs, h1, h2, h3⟩ := h
  obtain ⟨a, cap, rfl, _⟩ := h2.shape
  refine (pickCore rb p n w a _ cap bs hp rfl h1 h2 h3).mono ?_
  rintro e w' ⟨r, rfl, h0, h4, q, rfl⟩
  exact ⟨r, rfl, h0, h4, hs.1.drewN q, hs.2⟩
end Go.Proofs.Ytbcjhiponbfbnaa
namespace Go.Proofs.Ytbcjhiponbfbnaa
open Go.RowKit
set_option maxRecDepth 100000

theorem Rdr.lt {w : World} {rb p : Nat} (h : Rdr w rb p) : rb < w.heap.size := by
  obtain ⟨bv, bs, h1, h2, h3⟩ := h
  exact (Array.getElem?_eq_some_iff.1 h1).1
/-- A bool was drawn in at most c steps. -/
def DrB (rb p c : Nat) (w : World) (e : Ending) (w' : World) : Prop := ∃ (b : Bool) (p' : Nat), e = .returned (.bool b) ∧ p' ≤ p + c ∧ Dr rb w w' ∧ Hid (Rdr w' rb p')
/-- A string of at most m bytes was drawn in at most c steps. -/
def DrS (rb p c m : Nat) (w : World) (e : Ending) (w' : World) : Prop := ∃ (s : ByteArray) (p' : Nat), e = .returned (.string s) ∧ s.size ≤ m ∧ p' ≤ p + c ∧ Dr rb w w' ∧ Hid (Rdr w' rb p')

theorem byteStr (w : World) (z : Int) (c : UInt8) (h : z = c.toNat) :
    (convert 22 9 (.slice (some ⟨w.heap.size, 0, none⟩) 1 1)).run Try.prog (w.alloc (.cells #[.int .u8 z] 5)) = .ok (.string ⟨#[c]⟩) (w.alloc (.cells #[.int .u8 z] 5)) := by
  subst h
  refine run_convert_bytes_back (w.alloc (.cells #[.int .u8 c.toNat] 5)) 22 9 5 ⟨w.heap.size, 0, none⟩ 1 [c] Try.underlying22 Try.underlying5 Try.underlying9 (fun j hj => ?_)
  have : j = 0 := by simpa using hj
  subst this
  simp [Addr.add, World.cell?_alloc_mark]
theorem odd_c (rb p : Nat) (n : Int) (w : World) (h : Rdr w rb p) (hp : p ≤ 1000000) (hn1 : -9223372036854775808 < n) :
    Calls Try.prog 82 #[.pointer (some ⟨rb, 0, none⟩), .int .i64 n] w (DrB rb p 1 w) := by
  have H := Lib.hid h; clear h
  by_cases hn : 0 < n
  · go_enter Try.func82, Try.ntmps82
    go_wp2_with fail
    refine (pick_c rb p n w H.out hp).mono ?_
    rintro e w' ⟨r, rfl, h0, h4, hd, hr⟩
    by_cases hx : r = n - 1
    · have hx' : (r == n - 1) = true := by simpa using hx
      have Hx := Lib.hid hx; clear hx
      go_wp2
      go_ret
      exact ⟨_, p + 1, rfl, by omega, hd, hr⟩
    · have hx' : (r == n - 1) = false := by simpa using hx
      clear hx
      go_wp2
      go_ret
      exact ⟨_, p + 1, rfl, by omega, hd, hr⟩
  · go_enter Try.func82, Try.ntmps82
    go_wp2
    go_ret
    exact ⟨_, p, rfl, by omega, Dr.refl _ _, H⟩
set_option maxRecDepth 100000 in
set_option maxHeartbeats 400000 in
theorem l20Word_c (rb p : Nat) (n : Int) (w : World) (h : Rdr w rb p) (hp : p ≤ 900000) (hn1 : -9223372036854775808 < n) :
    Calls Try.prog 57 #[.pointer (some ⟨rb, 0, none⟩), .int .i64 n] w (DrS rb p 20 9 w) := by
  have H := Lib.hid h; clear h
  go_enter Try.func57, Try.ntmps57
  go_wp2_with fail
  refine (pick_c rb p _ w H.out (by omega)).mono ?_
  rintro e w1 ⟨k0, rfl, hk0, hk1, hd1, hr1⟩
  go_wp2_with fail
  have hk8 : k0 ≤ 8 := by omega
  obtain ⟨K, rfl⟩ := Int.eq_ofNat_of_zero_le hk0
  clear hk0 hk1
  go_loopw [5, 6] (fun s i wr => ∃ (z : ByteArray) (k p' : Nat), s = .string z ∧ i = .int .i64 k ∧ k ≤ K ∧ z.size + k ≤ 8 ∧ p' + k ≤ p + 1 + K ∧ Dr rb w wr ∧ Hid (Rdr wr rb p')) (fun _ i _ => (intOf i).toNat)
  case atStart => exact ⟨_, K, p + 1, rfl, rfl, by omega, by simp [ByteArray.size]; omega, by omega, hd1, hr1⟩
  case round =>
    obtain ⟨z, k, p', rfl, rfl, hkK, hz, hp', hd, hr⟩ := hrel
    clear hd1 hr1 H
    by_cases hlt : 0 < k
    · go_wp2_with fail
      refine (pick_c rb p' _ _ hr.out (by omega)).mono ?_
      rintro e w2 ⟨r, rfl, hr0, hr1, hd2, hr2⟩
      have hr3 : r ≤ 2 := by omega
      clear hr1
      have hb := byteStr w2 (97 + r) (UInt8.ofNat (97 + r).toNat) (by rw [UInt8.toNat_ofNat']; omega)
      generalize UInt8.ofNat (97 + r).toNat = c at *
      go_wp2
      go_roundw
      case rel => exact ⟨_, k - 1, p' + 1, rfl, by rw [show ((k - 1 : Nat) : Int) = (k : Int) - 1 by omega], by omega, by rw [ByteArray.size_append]; show z.size + 1 + (k - 1) ≤ 8; omega, by omega, (hd.trans hd2).trans (Dr.below ((Below.refl _ _).alloc (Nat.le_refl _) _)), hr2.out.stay ((Below.refl _ _).alloc (Nat.le_refl _) _)⟩
      case measure => simp [intOf]; omega
    · obtain rfl : k = 0 := by omega
      go_wp2_with fail
      refine (odd_c rb p' _ _ hr.out (by omega) hn1).mono ?_
      rintro e w2 ⟨b, p2, rfl, hp2, hd2, hr2⟩
      cases b
      · go_wp2
        go_ret
        exact ⟨_, p2, rfl, by omega, by omega, hd.trans hd2, hr2⟩
      · have hlt2 := hr2.out.lt
        go_wp2_with fail
        refine (pick_c rb p2 _ _ (hr2.out.stay ((Below.refl _ _).alloc (Nat.le_refl _) _)) (by omega)).mono ?_
        rintro e w3 ⟨r, rfl, hr0, hr1, hd3, hr3⟩
        have hcell : ∀ (j : Nat) (v : Value), #[Value.string (z ++ ⟨#[100]⟩), .string (z ++ ⟨#[65]⟩), .string ⟨#[97, 97, 97, 97, 97, 97, 97, 97, 97]⟩][j]? = some v → w3.cell? ⟨w2.heap.size, j, none⟩ = some v :=
          fun j v h => hd3.kp _ _ (by show w2.heap.size ≠ rb; omega) (by rw [World.cell?_alloc_mark]; exact h)
        have hc0 := hcell 0 _ rfl
        have hc1 := hcell 1 _ rfl
        have hc2 := hcell 2 _ rfl
        clear hcell
        have hDr : Dr rb w w3 := ((hd.trans hd2).trans (Dr.below ((Below.refl _ _).alloc (Nat.le_refl _) _))).trans hd3
        clear hd hd2 hd3 hlt2
        rcases (by omega : r = 0 ∨ r = 1 ∨ r = 2) with rfl | rfl | rfl
        all_goals
          clear hr1
          go_wp2
          go_ret
          exact ⟨_, p2 + 1, rfl, by first | (rw [ByteArray.size_append]; show z.size + 1 ≤ 9; omega) | (show 9 ≤ 9; omega), by omega, hDr, hr3⟩
theorem openCore {S : Nat → Prop} {v : Value} {bs : List UInt8} {w : World} (h : Bytes S w v bs) (hl : bs.length ≤ 2000) :
    Rdr (w.alloc (.cells #[v, .int .i64 0] 98)) w.heap.size 0 := by
  refine ⟨v, bs, heap_alloc_new w _, ((Fl.inHeap h).mono fun b hb => ?_).stay kpAlloc, hl⟩
  have := hb.2
  show b ≠ _
  omega
theorem l20Open_c {S : Nat → Prop} (v : Value) (bs : List UInt8) (w : World) (h : Bytes S w v bs) :
    Calls Try.prog 38 #[v] w fun e w' => ∃ rb, e = .returned (.pointer (some ⟨rb, 0, none⟩)) ∧ w.heap.size ≤ rb ∧ Below w.heap.size w w' ∧ Hid (Rdr w' rb 0) := by
  obtain ⟨a, cap, rfl, hn⟩ := h.shape
  have H := Lib.hid h; clear h
  by_cases hl : 2000 < bs.length
  · have H2 : Bytes S w (.slice a 2000 cap) (bs.take 2000) := by
      obtain ⟨a', cap', e, hm, hc⟩ := H.out
      cases e
      refine ⟨a, cap, by simp; omega, ⟨by simp [maxLen]; omega, by have := hm.2.1; simp; omega, hm.2.2⟩, fun i hi => ?_⟩
      obtain ⟨b, off, e, s, c⟩ := hc i (by simp at hi ⊢; omega)
      refine ⟨b, off, e, s, c.trans ?_⟩
      simp
    have H3 := Lib.hid H2; clear H2
    have hcap := Fl.cap H.out
    obtain ⟨b, off, rfl, _⟩ := H.out.at (k := 0) (by omega)
    go_enter Try.func38, Try.ntmps38
    go_wp2
    go_ret
    exact ⟨_, rfl, Nat.le_refl _, (Below.refl _ _).alloc (Nat.le_refl _) _, openCore H3.out (by simp; omega)⟩
  · go_enter Try.func38, Try.ntmps38
    go_wp2
    go_ret
    exact ⟨_, rfl, Nat.le_refl _, (Below.refl _ _).alloc (Nat.le_refl _) _, openCore H.out (by omega)⟩
end Go.Proofs.Ytbcjhiponbfbnaa
namespace Go.Proofs.Ytbcjhiponbfbnaa
open Go.RowKit
set_option maxRecDepth 100000
variable {S T : Nat → Prop}
/-- Block rb is a reader that stands at place p; its bytes lie in older memory. -/
def Rdx (w : World) (rb p : Nat) : Prop :=
  ∃ bv bs, w.heap[rb]? = some (.cells #[bv, .int .i64 p] 98 (0, 0)) ∧ Bytes (· < rb) w bv bs ∧ bs.length ≤ 2000
theorem Rdx.lt {w : World} {rb p : Nat} (h : Rdx w rb p) : rb < w.heap.size := by
  obtain ⟨bv, bs, h1, h2, h3⟩ := h
  exact (Array.getElem?_eq_some_iff.1 h1).1
theorem Rdx.stay {w w' : World} {rb p : Nat} (h : Rdx w rb p) (hb : Below w.heap.size w w') : Rdx w' rb p := by
  obtain ⟨bv, bs, h1, h2, h3⟩ := h
  exact ⟨bv, bs, blkBel hb h1, h2.stay (kpB hb), h3⟩
theorem Rdx.grow {w w' : World} {rb p : Nat} {row : Option Nat} (h : Rdx w rb p) (hg : w.grownBy w' row) (hr : ∀ b, row = some b → rb < b) : Rdx w' rb p := by
  obtain ⟨bv, bs, h1, h2, h3⟩ := h
  refine ⟨bv, bs, blkGrow hg h1 (fun e => by have := hr rb e.symm; omega), h2.stay ((kpG hg).mono fun b hb e => by have := hr b e.symm; omega), h3⟩
theorem Rdx.set {w : World} {rb p g o : Nat} (h : Rdx w rb p) (hg : rb < g) (v : Value) : Rdx (w.setCell ⟨g, o, none⟩ v) rb p := by
  obtain ⟨bv, bs, h1, h2, h3⟩ := h
  exact ⟨bv, bs, blkSet h1 (by omega), h2.stay (kpSet.mono fun b hb => by omega), h3⟩
theorem Rdx.drewN {w : World} {rb p : Nat} (h : Rdx w rb p) (q : Nat) : Rdx (w.drewN q) rb p := h
theorem Dr.grown {rb : Nat} {a b c : World} {row : Option Nat} (h : Dr rb a b) (hg : b.grownBy c row) (hr : ∀ k, row = some k → a.heap.size ≤ k) : Dr rb a c :=
  ⟨hg.os.trans h.os, hg.tape.trans h.tape, hg.output.trans h.output, Nat.le_trans h.size hg.size, fun i hi hne => (hg.block i (Nat.lt_of_lt_of_le hi h.size) (fun e => by have := hr i e.symm; omega)).trans (h.block i hi hne)⟩
theorem Dr.setCell {rb g o : Nat} {a b : World} (h : Dr rb a b) (hg : a.heap.size ≤ g) (v : Value) : Dr rb a (b.setCell ⟨g, o, none⟩ v) := h.grown (grownSet b g o v) fun k hk => by cases hk; exact hg
theorem Dr.alloc {rb : Nat} {a b : World} (h : Dr rb a b) (o : Obj) : Dr rb a (b.alloc o) := h.trans (Dr.below ((Below.refl _ _).alloc (Nat.le_refl _) _))
theorem Dr.blk {rb b : Nat} {w w' : World} {ob : Obj} (h : Dr rb w w') (hb : w.heap[b]? = some ob) (hne : b ≠ rb) : w'.heap[b]? = some ob := blkGrow h hb (by simpa using hne)
theorem Dr.own {rb : Nat} {w w' : World} {base : Nat} {e : TypeId} {sz n : Nat} {v : Value} {cs : List Value} (h : Dr rb w w') (ho : w.ownsRow base e sz v n cs) (hb : rb < base) : w'.ownsRow base e sz v n cs :=
  ho.kept h (.inr fun hv => by have := (World.ownsRow.lt ho _ hv).1; omega)
theorem pick_x (rb p : Nat) (n : Int) (w : World) (h : Rdx w rb p) (hp : p ≤ 1000000) :
    Calls Try.prog 81 #[.pointer (some ⟨rb, 0, none⟩), .int .i64 n] w fun e w' =>
      ∃ r : Int, e = .returned (.int .i64 r) ∧ 0 ≤ r ∧ (r < n ∨ r = 0) ∧ Dr rb w w' ∧ Hid (Rdx w' rb (p + 1)) ∧ w'.heap.size = w.heap.size := by
  obtain ⟨bv, bs, h1, h2, h3⟩ := h
  obtain ⟨a, cap, rfl, _⟩ := h2.shape
  refine (pickCore rb p n w a _ cap bs hp rfl h1 (h2.mono fun b hb => by show b ≠ rb; omega) h3).mono ?_
  rintro e w' ⟨r, rfl, h0, h4, q, rfl⟩
  have hd : Dr rb w (w.setCell ⟨rb, 1, none⟩ (.int .i64 (↑p + 1))) := ⟨rfl, rfl, rfl, by simp [World.setCell], fun k hk hne => Below.heap_setCell _ _ _ _ (by simpa using hne)⟩
  have hk : Kp (· < rb) w (w.setCell ⟨rb, 1, none⟩ (.int .i64 (↑p + 1))) := (kpSet (b := rb)).mono fun b hb => by omega
  exact ⟨r, rfl, h0, h4, hd.drewN q, Lib.hid ⟨.slice a bs.length cap, bs, heap_set h1 1 _, h2.stay hk, h3⟩, by show (w.setCell _ _).heap.size = _; simp [World.setCell]⟩
def DxB (rb p : Nat) (w : World) (e : Ending) (w' : World) : Prop := ∃ (b : Bool) (p' : Nat), e = .returned (.bool b) ∧ p' ≤ p + 1 ∧ Dr rb w w' ∧ Hid (Rdx w' rb p') ∧ w'.heap.size = w.heap.size
theorem odd_x (rb p : Nat) (n : Int) (w : World) (h : Rdx w rb p) (hp : p ≤ 1000000) (hn1 : -9223372036854775808 < n) :
    Calls Try.prog 82 #[.pointer (some ⟨rb, 0, none⟩), .int .i64 n] w (DxB rb p w) := by
  have H := Lib.hid h; clear h
  by_cases hn : 0 < n
  · go_enter Try.func82, Try.ntmps82
    go_wp2_with fail
    refine (pick_x rb p n w H.out hp).mono ?_
    rintro e w' ⟨r, rfl, h0, h4, hd, hr, hz⟩
    have Hz := Lib.hid hz; clear hz
    by_cases hx : r = n - 1
    · have hx' : (r == n - 1) = true := by simpa using hx
      have Hx := Lib.hid hx; clear hx
      go_wp2
      go_ret
      exact ⟨_, p + 1, rfl, by omega, hd, hr, Hz⟩
    · have hx' : (r == n - 1) = false := by simpa using hx
      clear hx
      go_wp2
      go_ret
      exact ⟨_, p + 1, rfl, by omega, hd, hr, Hz⟩
  · go_enter Try.func82, Try.ntmps82
    go_wp2
    go_ret
    exact ⟨_, p, rfl, by omega, Dr.refl _ _, H, rfl⟩
theorem openCorex {S : Nat → Prop} {v : Value} {bs : List UInt8} {w : World} (h : Bytes S w v bs) (hl : bs.length ≤ 2000) :
    Rdx (w.alloc (.cells #[v, .int .i64 0] 98)) w.heap.size 0 :=
  ⟨v, bs, heap_alloc_new w _, ((Fl.inHeap h).mono fun b hb => hb.2).stay kpAlloc, hl⟩
theorem open_x {S : Nat → Prop} (v : Value) (bs : List UInt8) (w : World) (h : Bytes S w v bs) :
    Calls Try.prog 38 #[v] w fun e w' => ∃ rb, e = .returned (.pointer (some ⟨rb, 0, none⟩)) ∧ w.heap.size ≤ rb ∧ Below w.heap.size w w' ∧ Hid (Rdx w' rb 0) := by
  obtain ⟨a, cap, rfl, hn⟩ := h.shape
  have H := Lib.hid h; clear h
  by_cases hl : 2000 < bs.length
  · have H2 : Bytes S w (.slice a 2000 cap) (bs.take 2000) := by
      obtain ⟨a', cap', e, hm, hc⟩ := H.out
      cases e
      refine ⟨a, cap, by simp; omega, ⟨by simp [maxLen]; omega, by have := hm.2.1; simp; omega, hm.2.2⟩, fun i hi => ?_⟩
      obtain ⟨b, off, e, s, c⟩ := hc i (by simp at hi ⊢; omega)
      refine ⟨b, off, e, s, c.trans ?_⟩
      simp
    have H3 := Lib.hid H2; clear H2
    have hcap := Fl.cap H.out
    obtain ⟨b, off, rfl, _⟩ := H.out.at (k := 0) (by omega)
    go_enter Try.func38, Try.ntmps38
    go_wp2
    go_ret
    exact ⟨_, rfl, Nat.le_refl _, (Below.refl _ _).alloc (Nat.le_refl _) _, openCorex H3.out (by simp; omega)⟩
  · go_enter Try.func38, Try.ntmps38
    go_wp2
    go_ret
    exact ⟨_, rfl, Nat.le_refl _, (Below.refl _ _).alloc (Nat.le_refl _) _, openCorex H.out (by omega)⟩
end Go.Proofs.Ytbcjhiponbfbnaa

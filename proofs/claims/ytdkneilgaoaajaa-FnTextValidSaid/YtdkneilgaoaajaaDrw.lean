/- The reader that draws: pick, odd, words, texts. A reader stands at a place of at most 1000000. -/
import Derived.Test.YtdkneilgaoaajaaWrd
import Derived.Test.YtdkneilgaoaajaaRdg
namespace Go.Proofs.Ytdkneilgaoaajaa
open Go.RowKit
set_option maxRecDepth 100000

/-- Block rb is a reader that stands at place p. -/
def Rdr (w : World) (rb p : Nat) : Prop :=
  ∃ bv bs, w.heap[rb]? = some (.cells #[bv, .int .i64 p] 121 (0, 0)) ∧ Bytes (· ≠ rb) w bv bs ∧ bs.length ≤ 2000

/-- Nothing but the reader and new memory. -/
def Dr (rb : Nat) (w w' : World) : Prop := w.grownBy w' (some rb)

theorem Rdr.stay {w w' : World} {rb p : Nat} (h : Rdr w rb p) (hb : Below w.heap.size w w') : Rdr w' rb p := by
  obtain ⟨bv, bs, h1, h2, h3⟩ := h
  refine ⟨bv, bs, ?_, h2.stay (kpB hb), h3⟩
  rw [hb.block rb (Array.getElem?_eq_some_iff.1 h1).1]; exact h1

theorem heap_set {w : World} {b : Nat} {cs : Array Value} {t : TypeId} {fz : Nat × Nat} (h : w.heap[b]? = some (.cells cs t fz)) (o : Nat) (v : Value) :
    (w.setCell ⟨b, o, none⟩ v).heap[b]? = some (.cells (cs.setIfInBounds o v) t fz) := by
  simp only [World.setCell, Array.getElem?_modify, if_true, h, Option.map_some]
  rfl

theorem Dr.refl (rb : Nat) (w : World) : Dr rb w w := ⟨rfl, rfl, rfl, Nat.le_refl _, fun _ _ _ => rfl⟩
theorem Dr.trans {rb : Nat} {a b c : World} (h : Dr rb a b) (k : Dr rb b c) : Dr rb a c :=
  ⟨k.os.trans h.os, k.tape.trans h.tape, k.output.trans h.output, Nat.le_trans h.size k.size, fun i hi hr => (k.block i (Nat.lt_of_lt_of_le hi h.size) hr).trans (h.block i hi hr)⟩
theorem Dr.below {rb : Nat} {a b : World} (h : Below a.heap.size a b) : Dr rb a b := ⟨h.os, h.tape, h.output, h.size, fun i hi _ => h.block i hi⟩
theorem Dr.drewN {rb : Nat} {a b : World} (h : Dr rb a b) (q : Nat) : Dr rb a (b.drewN q) := ⟨h.os, h.tape, h.output, h.size, h.block⟩
theorem Dr.bel {rb B : Nat} {a b : World} (h : Dr rb a b) (hB : B ≤ rb) (hs : B ≤ a.heap.size) : Below B a b := ⟨h.os, h.tape, h.output, h.size, fun k hk => h.block k (by omega) (by simp; omega)⟩
theorem Dr.kp {rb : Nat} {a b : World} (h : Dr rb a b) : Kp (· ≠ rb) a b := fun ad v s e => World.grownBy.cell h e (by simpa using s)

theorem Rdr.set {w : World} {rb p : Nat} (h : Rdr w rb p) : Dr rb w (w.setCell ⟨rb, 1, none⟩ (.int .i64 (↑p + 1))) ∧ Rdr (w.setCell ⟨rb, 1, none⟩ (.int .i64 (↑p + 1))) rb (p + 1) := by
  obtain ⟨bv, bs, h1, h2, h3⟩ := h
  refine ⟨⟨rfl, rfl, rfl, by simp [World.setCell], fun k hk hne => Below.heap_setCell _ _ _ _ (by simpa using hne)⟩, bv, bs, ?_, h2.stay kpSet, h3⟩
  rw [heap_set h1]; rfl

theorem in64 (z : Int) (h0 : -9223372036854775808 ≤ z) (h1 : z ≤ 9223372036854775807) : IntKind.i64.wrap z = z := IntWalk.i64_in _ ⟨by omega, by omega⟩

theorem xor0 (x y : Int) (hx : 0 ≤ x) (hy : 0 ≤ y) (hx' : x < 9223372036854775808) (hy' : y < 9223372036854775808) : 0 ≤ bits BinOp.xor IntKind.i64 x y := by
  obtain ⟨a, rfl⟩ := Int.eq_ofNat_of_zero_le hx
  obtain ⟨b, rfl⟩ := Int.eq_ofNat_of_zero_le hy
  have ha : a < 2 ^ 63 := by omega
  have hb : b < 2 ^ 63 := by omega
  have hlt : ((BitVec.ofInt 64 (a : Int)) ^^^ (BitVec.ofInt 64 (b : Int))).toNat < 2 ^ 63 := by
    rw [BitVec.toNat_xor]
    apply Nat.xor_lt_two_pow
    · simp; omega
    · simp; omega
  have hlt' : ((BitVec.ofInt IntKind.i64.bits (a : Int)) ^^^ (BitVec.ofInt IntKind.i64.bits (b : Int))).toNat < 2 ^ 63 := hlt
  show 0 ≤ IntKind.i64.wrap (((BitVec.ofInt IntKind.i64.bits (a : Int)) ^^^ (BitVec.ofInt IntKind.i64.bits (b : Int))).toNat : Int)
  generalize ((BitVec.ofInt IntKind.i64.bits (a : Int)) ^^^ (BitVec.ofInt IntKind.i64.bits (b : Int))).toNat = m at *
  rw [in64 _ (by omega) (by omega)]
  omega

theorem pickCore (rb p : Nat) (n : Int) (w : World) (a : Option Addr) (L cap : Nat) (bs : List UInt8) (hp : p ≤ 1000000) (hL : Hid (L = bs.length))
    (h1 : w.heap[rb]? = some (.cells #[.slice a L cap, .int .i64 p] 121 (0, 0))) (h2 : Bytes (· ≠ rb) w (.slice a L cap) bs) (h3 : L ≤ 2000) :
    Calls Try.prog 109 #[.pointer (some ⟨rb, 0, none⟩), .int .i64 n] w fun e w' =>
      ∃ r : Int, e = .returned (.int .i64 r) ∧ 0 ≤ r ∧ (r < n ∨ r = 0) ∧ ∃ q, w' = (w.setCell ⟨rb, 1, none⟩ (.int .i64 (↑p + 1))).drewN q := by
  have c0 := cell_of_row w rb 0 _ _ _ h1
  have c1 := cell_of_row w rb 1 _ _ _ h1
  have f1 : w.frozen? ⟨rb, 1, none⟩ = false := by simp [World.frozen?, h1]
  simp at c0 c1
  have h1' := heap_set h1 1 (.int .i64 (↑p + 1))
  have d0 := cell_of_row _ rb 0 _ _ _ h1'
  have d1 := cell_of_row _ rb 1 _ _ _ h1'
  simp at d0 d1
  have H2 := Lib.hid h2; clear h2
  clear h1 h1'
  by_cases hn : n < 1
  · go_enter Try.func109, Try.ntmps109
    go_wp2
    go_ret
    exact ⟨0, rfl, by omega, .inr rfl, 0, rfl⟩
  · by_cases hl : L = 0
    · have hl' : ((L : Int) == 0) = true := by simp [hl]
      have Hl := Lib.hid hl; clear hl
      go_enter Try.func109, Try.ntmps109
      go_wp2
      go_ret
      exact ⟨0, rfl, by omega, .inr rfl, 0, rfl⟩
    · have hl' : ((L : Int) == 0) = false := by simpa using hl
      have hpos : 0 < L := by omega
      by_cases hlt : p < L
      · obtain ⟨b, off, rfl, hc⟩ := (H2.out.stay (kpSet (w := w) (b := rb) (o := 1) (v := .int .i64 (↑p + 1)))).at (k := p) (by rw [← hL.out]; exact hlt)
        have hb := bs[p]'(by rw [← hL.out]; exact hlt) |>.toNat_lt
        generalize (bs[p]'(by rw [← hL.out]; exact hlt)).toNat = z at *
        go_enter Try.func109, Try.ntmps109
        go_wp2
        go_ret
        exact ⟨_, rfl, Int.emod_nonneg _ (by omega), .inl (Int.emod_lt_of_pos _ (by omega)), 0, rfl⟩
      · have hm1 : p % L < L := Nat.mod_lt _ hpos
        have hm2 : (p * 7 + 3) % L < L := Nat.mod_lt _ hpos
        have hq : p / L ≤ 1000000 := Nat.le_trans (Nat.div_le_self _ _) hp
        have t1 : (p : Int).tmod L = ((p % L : Nat) : Int) := rfl
        have t4 : ((p : Int) * 7 + 3).tmod L = (((p * 7 + 3) % L : Nat) : Int) := by
          rw [show (p : Int) * 7 + 3 = ((p * 7 + 3 : Nat) : Int) by simp]; rfl
        have t10 : (p : Int).tdiv L = ((p / L : Nat) : Int) := rfl
        obtain ⟨b, off, rfl, hc1⟩ := (H2.out.stay (kpSet (w := w) (b := rb) (o := 1) (v := .int .i64 (↑p + 1)))).at (k := p % L) (by rw [← hL.out]; exact hm1)
        obtain ⟨b', off', e, hc2⟩ := (H2.out.stay (kpSet (w := w) (b := rb) (o := 1) (v := .int .i64 (↑p + 1)))).at (k := (p * 7 + 3) % L) (by rw [← hL.out]; exact hm2)
        cases e
        have hz1 := bs[p % L]'(by rw [← hL.out]; exact hm1) |>.toNat_lt
        have hz2 := bs[(p * 7 + 3) % L]'(by rw [← hL.out]; exact hm2) |>.toNat_lt
        generalize (bs[p % L]'(by rw [← hL.out]; exact hm1)).toNat = z1 at *
        generalize (bs[(p * 7 + 3) % L]'(by rw [← hL.out]; exact hm2)).toNat = z2 at *
        generalize p % L = i1 at *
        generalize (p * 7 + 3) % L = i2 at *
        generalize p / L = q1 at *
        go_enter Try.func109, Try.ntmps109
        go_wp2
        have t2 := in64 (↑p * 7) (by omega) (by omega)
        have t3 := in64 (↑p * 7 + 3) (by omega) (by omega)
        have t5 := in64 (↑z1 * 131) (by omega) (by omega)
        have t6 := in64 (↑z2 * 1117) (by omega) (by omega)
        have t7 := in64 (↑z1 * 131 + ↑z2 * 1117) (by omega) (by omega)
        have t8 := in64 (↑p * 29) (by omega) (by omega)
        have t9 := in64 (↑z1 * 131 + ↑z2 * 1117 + ↑p * 29) (by omega) (by omega)
        have ta := in64 (↑q1) (by omega) (by omega)
        have tb := in64 (↑q1 * 53) (by omega) (by omega)
        have tc := in64 (↑z1 * 131 + ↑z2 * 1117 + ↑p * 29 + ↑q1 * 53) (by omega) (by omega)
        have td := in64 (↑z1) (by omega) (by omega)
        have te := in64 (↑z2) (by omega) (by omega)
        go_quiet (fail)
        clear t1 t2 t3 t4 t5 t6 t7 t8 t9 ta tb tc td te t10
        go_wp2
        go_ret
        have hx := xor0 (↑z1 * 131 + ↑z2 * 1117 + ↑p * 29 + ↑q1 * 53) ((↑z1 * 131 + ↑z2 * 1117 + ↑p * 29 + ↑q1 * 53) / 64) (by omega) (by omega) (by omega) (by omega)
        exact ⟨_, rfl, Int.tmod_nonneg _ hx, .inl (Int.tmod_lt_of_pos _ (by omega)), ⟨_, rfl⟩⟩

theorem pick_c (rb p : Nat) (n : Int) (w : World) (h : Rdr w rb p) (hp : p ≤ 1000000) :
    Calls Try.prog 109 #[.pointer (some ⟨rb, 0, none⟩), .int .i64 n] w fun e w' =>
      ∃ r : Int, e = .returned (.int .i64 r) ∧ 0 ≤ r ∧ (r < n ∨ r = 0) ∧ Dr rb w w' ∧ Hid (Rdr w' rb (p + 1)) := by
  have hs := h.set
  obtain ⟨bv, bs, h1, h2, h3⟩ := h
  obtain ⟨a, cap, rfl, _⟩ := h2.shape
  refine (pickCore rb p n w a _ cap bs hp rfl h1 h2 h3).mono ?_
  rintro e w' ⟨r, rfl, h0, h4, q, rfl⟩
  exact ⟨r, rfl, h0, h4, hs.1.drewN q, hs.2⟩
end Go.Proofs.Ytdkneilgaoaajaa

/- The text of a whole expression of at most 60 parts: the program's. -/
import Derived.Deep.RegionHeld3
import Derived.Test.YtbcjhiponbfbnaaSid
import Derived.Test.YtbcjhiponbfbnaaEtx
import Derived.Test.YtbcjhiponbfbnaaMps
set_option linter.unusedSimpArgs false
set_option linter.unusedVariables false
set_option linter.unusedSectionVars false
namespace Go.Proofs.Ytbcjhiponbfbnaa
open Go.RowKit Go.ChangeMaps
set_option maxRecDepth 100000
variable {S T : Nat → Prop}
/-- The call answers this text. -/
def RTx (w : World) (l : List UInt8) (e : Ending) (w' : World) : Prop := ∃ s : ByteArray, e = .returned (.string s) ∧ Below w.heap.size w w' ∧ Hid (s.data.toList = l)
theorem RTx.mk {w w' : World} {l : List UInt8} {s : ByteArray} (hb : Below w.heap.size w w') (h : s.data.toList = l) : RTx w l (.returned (.string s)) w' := ⟨s, rfl, hb, h⟩
theorem baApp (s t : ByteArray) : (s ++ t).data.toList = s.data.toList ++ t.data.toList := by rw [ByteArray.data_append, Array.toList_append]
theorem baSize {s : ByteArray} {l : List UInt8} (h : s.data.toList = l) : s.size = l.length := by rw [← h]; simp
theorem binding_c (t : Re) (w : World) : Calls Try.prog 98 #[.int .i64 t.top] w (RI w fun n => n = (t.lvl : Int)) := by
  have key : ∀ (k : Int) (n : Nat), ((k = 1 ∧ n = 6) ∨ (k = 2 ∧ n = 6) ∨ (k = 3 ∧ n = 6) ∨ (k = 4 ∧ n = 3) ∨ (k = 5 ∧ n = 1) ∨ (k = 6 ∧ n = 2) ∨ (k = 7 ∧ n = 4) ∨ (k = 8 ∧ n = 5)) → Calls Try.prog 98 #[.int .i64 k] w (RI w fun m => m = (n : Int)) := by
    rintro k n (⟨rfl, rfl⟩ | ⟨rfl, rfl⟩ | ⟨rfl, rfl⟩ | ⟨rfl, rfl⟩ | ⟨rfl, rfl⟩ | ⟨rfl, rfl⟩ | ⟨rfl, rfl⟩ | ⟨rfl, rfl⟩)
    all_goals (
      go_enter Try.func98, Try.ntmps98
      go_wp2
      go_ret
      exact RI.mk rfl)
  refine key _ _ ?_
  cases t <;> simp [Re.top, Re.lvl]
theorem letterTx_c (c : Int) (hc : 0 ≤ c ∧ c ≤ 2) (w : World) : Calls Try.prog 99 #[.int .i64 c] w (RTx w [UInt8.ofNat (97 + c.toNat)]) := by
  rcases (by omega : c = 0 ∨ c = 1 ∨ c = 2) with rfl | rfl | rfl
  all_goals (
    go_enter Try.func99, Try.ntmps99
    go_wp2
    go_ret
    exact RTx.mk (Below.refl _ _) rfl)
set_option maxHeartbeats 800000 in
theorem bracketed_c (t : Re) (n : Nat) (hn : n ≤ 10) (hl : t.len ≤ 60) (ih : ∀ (w : World) (v : Value), PR w v t → Calls Try.prog 60 #[v] w (RTx w t.tx)) (u : Value) (w : World) (h : PR w u t) : Calls Try.prog 101 #[u, .int .i64 n] w (RTx w (brk (t.lvl < n) t.tx)) := by
  have htl := tx_len t
  have hl2 : t.flat.length ≤ 60 := hl
  obtain ⟨bb, off, cap, m, rfl, hm1, hm2, c0, c1⟩ := h.last
  have hm60 : m ≤ 60 := by omega
  have hI : IntKind.i64.wrap ((m + 1 : Nat) - 1 : Int) = (m : Int) := by rw [show (((m + 1 : Nat) : Int) - 1) = (m : Int) by omega]; exact IntWalk.i64_in _ (by omega)
  have hlt : (m : Int) < (m : Int) + 1 := by omega
  have H := Lib.hid h
  have HB := Lib.hid (binding_c t w)
  obtain ⟨x, hx⟩ : ∃ x, x = t.top := ⟨_, rfl⟩
  rw [← hx] at c0 HB
  have HT : Hid (t.tx.length ≤ 300) := Lib.hid (by omega)
  have IH := Lib.hid ih
  clear h hm1 hm2 c1 hx htl hl hl2 ih
  go_enter Try.func101, Try.ntmps101
  go_wp2_with fail
  refine HB.out.mono ?_
  rintro e w1 ⟨y, rfl, rfl, hy⟩
  obtain rfl := hy.out
  clear hy
  by_cases hlv : t.lvl < n
  · have hlI : (t.lvl : Int) < (n : Int) := by omega
    have HE : Hid (brk (t.lvl < n) t.tx = [40] ++ t.tx ++ [41]) := Lib.hid (by unfold brk; rw [if_pos (by simpa using hlv)])
    go_wp2_with fail
    refine (IH.out w _ H.out).mono ?_
    rintro e w2 ⟨s, rfl, hb2, hs⟩
    have hsz := baSize hs.out
    have hs3 := HT.out
    have hcc : ¬ (9223372036854775807 < (⟨#[40]⟩ : ByteArray).size + s.size) := by show ¬ (9223372036854775807 < 1 + s.size); omega
    have hcd : ¬ (9223372036854775807 < (⟨#[40]⟩ ++ s : ByteArray).size + (⟨#[41]⟩ : ByteArray).size) := by rw [ByteArray.size_append]; show ¬ (9223372036854775807 < 1 + s.size + 1); omega
    go_wp2
    go_ret
    exact RTx.mk hb2 (by rw [HE.out, baApp, baApp, hs.out])
  · have hlI : ¬ ((t.lvl : Int) < (n : Int)) := by omega
    have HE : Hid (brk (t.lvl < n) t.tx = t.tx) := Lib.hid (by unfold brk; rw [if_neg (by simpa using hlv)])
    go_wp2_with fail
    refine (IH.out w _ H.out).mono ?_
    rintro e w2 ⟨s, rfl, hb2, hs⟩
    go_wp2
    go_ret
    exact RTx.mk hb2 (by rw [HE.out, hs.out])
/-- The signs of the operations, a map of three. -/
theorem signs (w : World) : ∃ w2 w3 w4 : World, (Instr.mapUpdate 120 (.map (some w.heap.size)) (.int .i64 4) (.string ⟨#[]⟩)).run Try.prog (w.alloc (.map #[] 0)) = .ok () w2 ∧
    (Instr.mapUpdate 120 (.map (some w.heap.size)) (.int .i64 5) (.string ⟨#[124]⟩)).run Try.prog w2 = .ok () w3 ∧ (Instr.mapUpdate 120 (.map (some w.heap.size)) (.int .i64 6) (.string ⟨#[38]⟩)).run Try.prog w3 = .ok () w4 ∧
    Below w.heap.size w w4 ∧ (Instr.lookup 120 (.map (some w.heap.size)) (.int .i64 4) false).run Try.prog w4 = .ok (.string ⟨#[]⟩) w4 ∧ (Instr.lookup 120 (.map (some w.heap.size)) (.int .i64 5) false).run Try.prog w4 = .ok (.string ⟨#[124]⟩) w4 ∧
    (Instr.lookup 120 (.map (some w.heap.size)) (.int .i64 6) false).run Try.prog w4 = .ok (.string ⟨#[38]⟩) w4 := by
  have K : Maps.Keyed Try.prog 3 := Maps.int_keyed Try.underlying3
  have ul := Try.underlying120
  have hk : ∀ n : Nat, n ≤ 100 → ∃ l, keyOf Try.prog 3 (.int .i64 n) = some l := fun n hn => ⟨_, Maps.keyOf_int_mk Try.underlying3 (by have h1 : IntKind.i64.min = -9223372036854775808 := rfl; have h2 : IntKind.i64.max = 9223372036854775807 := rfl; simp [Lit.wf]; omega)⟩
  have hz : ∀ w, ∃ z, (zeroValue 9).run Try.prog w = .ok z w := fun w => ⟨.string ByteArray.empty, by kernel_rfl⟩
  have k4 : ∃ l, keyOf Try.prog 3 (.int .i64 4) = some l := hk 4 (by omega)
  have k5 : ∃ l, keyOf Try.prog 3 (.int .i64 5) = some l := hk 5 (by omega)
  have k6 : ∃ l, keyOf Try.prog 3 (.int .i64 6) = some l := hk 6 (by omega)
  have m0 := MEN.made w
  have m1 := MEN.set (es' := [(.int .i64 4, .string ⟨#[]⟩)]) m0
  have e1 := mNew (v := .string ⟨#[]⟩) K ul m0 k4 (by intro p hp; cases hp) (by intro p hp; cases hp)
  have m2 := MEN.set (es' := [(.int .i64 4, .string ⟨#[]⟩), (.int .i64 5, .string ⟨#[124]⟩)]) m1
  have e2 := mNew (v := .string ⟨#[124]⟩) K ul m1 k5 (by intro p hp; simp at hp; subst hp; exact k4) (by intro p hp; simp at hp; subst hp; simp)
  have m3 := MEN.set (es' := [(.int .i64 4, .string ⟨#[]⟩), (.int .i64 5, .string ⟨#[124]⟩), (.int .i64 6, .string ⟨#[38]⟩)]) m2
  have e3 := mNew (v := .string ⟨#[38]⟩) K ul m2 k6 (by intro p hp; simp at hp; rcases hp with rfl | rfl; exact k4; exact k5) (by intro p hp; simp at hp; rcases hp with rfl | rfl <;> simp)
  have hes : KeysIn 3 [((.int .i64 4 : Value), (.string ⟨#[]⟩ : Value)), (.int .i64 5, .string ⟨#[124]⟩), (.int .i64 6, .string ⟨#[38]⟩)] := by
    intro p hp; simp at hp; rcases hp with rfl | rfl | rfl; exact k4; exact k5; exact k6
  refine ⟨_, _, _, e1, e2, e3, ?_, mGet K ul (hz _) m3 k4 hes (by simp) (by intro p hp; simp at hp; rcases hp with rfl | rfl | rfl <;> simp), mGet K ul (hz _) m3 k5 hes (by simp) (by intro p hp; simp at hp; rcases hp with rfl | rfl | rfl <;> simp), mGet K ul (hz _) m3 k6 hes (by simp) (by intro p hp; simp at hp; rcases hp with rfl | rfl | rfl <;> simp)⟩
  have b0 : Below w.heap.size w (w.alloc (.map #[] 0)) := (Below.refl _ _).alloc (Nat.le_refl _) _
  have z1 := (MEN.grown m0 (.map (EN [((.int .i64 4 : Value), (.string ⟨#[]⟩ : Value))]) 1)).size
  have b1 := b0.grown (MEN.grown m0 (.map (EN [((.int .i64 4 : Value), (.string ⟨#[]⟩ : Value))]) 1)) b0.size (fun k hk => by cases hk; exact Nat.le_refl _)
  have b2 := b1.grown (MEN.grown m1 (.map (EN [((.int .i64 4 : Value), (.string ⟨#[]⟩ : Value)), (.int .i64 5, .string ⟨#[124]⟩)]) 2)) b1.size (fun k hk => by cases hk; exact Nat.le_refl _)
  exact b2.grown (MEN.grown m2 (.map (EN [((.int .i64 4 : Value), (.string ⟨#[]⟩ : Value)), (.int .i64 5, .string ⟨#[124]⟩), (.int .i64 6, .string ⟨#[38]⟩)]) 3)) b2.size (fun k hk => by cases hk; exact Nat.le_refl _)
set_option maxHeartbeats 800000 in
theorem etx_none (u : Value) (w : World) (h : PR w u .none) : Calls Try.prog 60 #[u] w (RTx w (Re.tx .none)) := by
  have hmm : (Re.none).flat.length = 1 := rfl
  have HE : Hid ((⟨#[48]⟩ : ByteArray).data.toList = (Re.none).tx) := Lib.hid rfl
  have ht := h.1
  have htl := tx_len (Re.none)
  obtain ⟨bb, off, cap, m, rfl, hm1, hm2, c0, c1⟩ := h.last
  replace c0 : w.cell? ⟨bb, off + m * 2, none⟩ = some (.int .i64 1) := c0
  replace c1 : w.cell? ⟨bb, off + m * 2 + 1, none⟩ = some (.int .i64 0) := c1
  have hm60 : m ≤ 60 := by omega
  have hI : IntKind.i64.wrap ((m + 1 : Nat) - 1 : Int) = (m : Int) := by rw [show (((m + 1 : Nat) : Int) - 1) = (m : Int) by omega]; exact IntWalk.i64_in _ (by omega)
  have hlt : (m : Int) < (m : Int) + 1 := by omega
  obtain ⟨W, hW⟩ : ∃ W, W = w.alloc (.cells #[.int .i64 1, .int .i64 0] 67) := ⟨_, rfl⟩
  have hBW : Below w.heap.size w W := by rw [hW]; exact (Below.refl _ _).alloc (Nat.le_refl _) _
  have KW : Hid (W.heap[w.heap.size]? = some (.cells #[.int .i64 1, .int .i64 0] 67 (0, 0))) := Lib.hid (by rw [hW]; exact blkNew _ _ rfl)
  have HH := Lib.hid (h.stay hBW)
  have HBW := Lib.hid hBW
  have HW := Lib.hid hW
  have HBD : Hid (Calls Try.prog 98 #[.int .i64 1] W (RI W fun n => n = ((Re.none).lvl : Int))) := Lib.hid (binding_c (Re.none) W)
  obtain ⟨q0, q1, f0, f1⟩ := blk2 KW.out
  obtain rfl : m = 0 := by omega
  simp only [Nat.zero_mul, Nat.add_zero] at c0 c1
  clear h hm1 hm2 hBW hW ht htl hmm
  rw [HW.out] at q0 q1 f0 f1
  go_enter Try.func60, Try.ntmps60
  go_wp2_with fail
  rw [← HW.out] at q0 q1 f0 f1 ⊢
  refine HBD.out.mono ?_
  rintro e w1 ⟨y, rfl, rfl, hy⟩
  obtain rfl := hy.out
  clear hy HBD
  go_wp2
  go_ret
  exact RTx.mk HBW.out HE.out
set_option maxHeartbeats 800000 in
theorem etx_empty (u : Value) (w : World) (h : PR w u .empty) : Calls Try.prog 60 #[u] w (RTx w (Re.tx .empty)) := by
  have hmm : (Re.empty).flat.length = 1 := rfl
  have HE : Hid ((⟨#[49]⟩ : ByteArray).data.toList = (Re.empty).tx) := Lib.hid rfl
  have ht := h.1
  have htl := tx_len (Re.empty)
  obtain ⟨bb, off, cap, m, rfl, hm1, hm2, c0, c1⟩ := h.last
  replace c0 : w.cell? ⟨bb, off + m * 2, none⟩ = some (.int .i64 2) := c0
  replace c1 : w.cell? ⟨bb, off + m * 2 + 1, none⟩ = some (.int .i64 0) := c1
  have hm60 : m ≤ 60 := by omega
  have hI : IntKind.i64.wrap ((m + 1 : Nat) - 1 : Int) = (m : Int) := by rw [show (((m + 1 : Nat) : Int) - 1) = (m : Int) by omega]; exact IntWalk.i64_in _ (by omega)
  have hlt : (m : Int) < (m : Int) + 1 := by omega
  obtain ⟨W, hW⟩ : ∃ W, W = w.alloc (.cells #[.int .i64 2, .int .i64 0] 67) := ⟨_, rfl⟩
  have hBW : Below w.heap.size w W := by rw [hW]; exact (Below.refl _ _).alloc (Nat.le_refl _) _
  have KW : Hid (W.heap[w.heap.size]? = some (.cells #[.int .i64 2, .int .i64 0] 67 (0, 0))) := Lib.hid (by rw [hW]; exact blkNew _ _ rfl)
  have HH := Lib.hid (h.stay hBW)
  have HBW := Lib.hid hBW
  have HW := Lib.hid hW
  have HBD : Hid (Calls Try.prog 98 #[.int .i64 2] W (RI W fun n => n = ((Re.empty).lvl : Int))) := Lib.hid (binding_c (Re.empty) W)
  obtain ⟨q0, q1, f0, f1⟩ := blk2 KW.out
  obtain rfl : m = 0 := by omega
  simp only [Nat.zero_mul, Nat.add_zero] at c0 c1
  clear h hm1 hm2 hBW hW ht htl hmm
  rw [HW.out] at q0 q1 f0 f1
  go_enter Try.func60, Try.ntmps60
  go_wp2_with fail
  rw [← HW.out] at q0 q1 f0 f1 ⊢
  refine HBD.out.mono ?_
  rintro e w1 ⟨y, rfl, rfl, hy⟩
  obtain rfl := hy.out
  clear hy HBD
  go_wp2
  go_ret
  exact RTx.mk HBW.out HE.out
set_option maxHeartbeats 800000 in
theorem etx_letter (d : Int) (u : Value) (w : World) (h : PR w u (.letter d)) : Calls Try.prog 60 #[u] w (RTx w (Re.tx (.letter d))) := by
  have hmm : (Re.letter d).flat.length = 1 := rfl
  have HD : Hid (0 ≤ d ∧ d ≤ 2) := Lib.hid h.1
  have ht := h.1
  have htl := tx_len (Re.letter d)
  obtain ⟨bb, off, cap, m, rfl, hm1, hm2, c0, c1⟩ := h.last
  replace c0 : w.cell? ⟨bb, off + m * 2, none⟩ = some (.int .i64 3) := c0
  replace c1 : w.cell? ⟨bb, off + m * 2 + 1, none⟩ = some (.int .i64 d) := c1
  have hm60 : m ≤ 60 := by omega
  have hI : IntKind.i64.wrap ((m + 1 : Nat) - 1 : Int) = (m : Int) := by rw [show (((m + 1 : Nat) : Int) - 1) = (m : Int) by omega]; exact IntWalk.i64_in _ (by omega)
  have hlt : (m : Int) < (m : Int) + 1 := by omega
  obtain ⟨W, hW⟩ : ∃ W, W = w.alloc (.cells #[.int .i64 3, .int .i64 d] 67) := ⟨_, rfl⟩
  have hBW : Below w.heap.size w W := by rw [hW]; exact (Below.refl _ _).alloc (Nat.le_refl _) _
  have KW : Hid (W.heap[w.heap.size]? = some (.cells #[.int .i64 3, .int .i64 d] 67 (0, 0))) := Lib.hid (by rw [hW]; exact blkNew _ _ rfl)
  have HH := Lib.hid (h.stay hBW)
  have HBW := Lib.hid hBW
  have HW := Lib.hid hW
  have HBD : Hid (Calls Try.prog 98 #[.int .i64 3] W (RI W fun n => n = ((Re.letter d).lvl : Int))) := Lib.hid (binding_c (Re.letter d) W)
  obtain ⟨q0, q1, f0, f1⟩ := blk2 KW.out
  obtain rfl : m = 0 := by omega
  simp only [Nat.zero_mul, Nat.add_zero] at c0 c1
  clear h hm1 hm2 hBW hW ht htl hmm
  rw [HW.out] at q0 q1 f0 f1
  go_enter Try.func60, Try.ntmps60
  go_wp2_with fail
  rw [← HW.out] at q0 q1 f0 f1 ⊢
  refine HBD.out.mono ?_
  rintro e w1 ⟨y, rfl, rfl, hy⟩
  obtain rfl := hy.out
  clear hy HBD
  go_wp2_with fail
  refine (letterTx_c d HD.out W).mono ?_
  rintro e w2 ⟨s, rfl, hb2, hs⟩
  go_wp2
  go_ret
  exact RTx.mk (HBW.out.trans (hb2.mono HBW.out.size)) hs.out
set_option maxHeartbeats 800000 in
theorem etx_not (a : Re) (hl : a.len ≤ 59) (iha : ∀ (w : World) (v : Value), PR w v a → Calls Try.prog 60 #[v] w (RTx w a.tx)) (u : Value) (w : World) (h : PR w u (.not a)) : Calls Try.prog 60 #[u] w (RTx w (Re.tx (.not a))) := by
  have hla : a.flat.length ≤ 59 := hl
  have hmm : (Re.not a).flat.length = a.flat.length + 1 := len_not a
  have hta := tx_len a
  have htb := brk_len (a.lvl < 4) a.tx
  have HT : Hid ((brk (a.lvl < 4) a.tx).length ≤ 400) := Lib.hid (by omega)
  have HE : Hid ((Re.not a).tx = [33] ++ brk (a.lvl < 4) a.tx) := Lib.hid rfl
  have ht := h.1
  have htl := tx_len (Re.not a)
  obtain ⟨bb, off, cap, m, rfl, hm1, hm2, c0, c1⟩ := h.last
  replace c0 : w.cell? ⟨bb, off + m * 2, none⟩ = some (.int .i64 7) := c0
  replace c1 : w.cell? ⟨bb, off + m * 2 + 1, none⟩ = some (.int .i64 0) := c1
  have hm60 : m ≤ 60 := by omega
  have hI : IntKind.i64.wrap ((m + 1 : Nat) - 1 : Int) = (m : Int) := by rw [show (((m + 1 : Nat) : Int) - 1) = (m : Int) by omega]; exact IntWalk.i64_in _ (by omega)
  have hlt : (m : Int) < (m : Int) + 1 := by omega
  obtain ⟨W, hW⟩ : ∃ W, W = w.alloc (.cells #[.int .i64 7, .int .i64 0] 67) := ⟨_, rfl⟩
  have hBW : Below w.heap.size w W := by rw [hW]; exact (Below.refl _ _).alloc (Nat.le_refl _) _
  have KW : Hid (W.heap[w.heap.size]? = some (.cells #[.int .i64 7, .int .i64 0] 67 (0, 0))) := Lib.hid (by rw [hW]; exact blkNew _ _ rfl)
  have HH := Lib.hid (h.stay hBW)
  have HBW := Lib.hid hBW
  have HW := Lib.hid hW
  have HBD : Hid (Calls Try.prog 98 #[.int .i64 7] W (RI W fun n => n = ((Re.not a).lvl : Int))) := Lib.hid (binding_c (Re.not a) W)
  obtain ⟨q0, q1, f0, f1⟩ := blk2 KW.out
  have HA : Hid a.wf := Lib.hid ht
  have IA := Lib.hid iha
  have HOP := Lib.hid (operands1_c _ a 7 0 W ht HH.out.2 (by decide) (by decide) hla)
  have HL := Lib.hid (show a.len ≤ 60 by omega)
  have hlv : ((Re.not a).lvl : Int) = ((4 : Nat) : Int) := rfl
  clear h hm1 hm2 hBW hW ht htl hmm hla hta htb hl iha
  rw [HW.out] at q0 q1 f0 f1
  go_enter Try.func60, Try.ntmps60
  go_wp2_with fail
  rw [← HW.out] at q0 q1 f0 f1 ⊢
  refine HBD.out.mono ?_
  rintro e w1 ⟨y, rfl, rfl, hy⟩
  obtain rfl := hy.out
  clear hy HBD
  rw [hlv]
  clear hlv
  go_wp2_with fail
  refine HOP.out.mono ?_
  rintro e w1 ⟨vo, rfl, hb1, ho⟩
  have K1 := Lib.hid (blkBel hb1 KW.out)
  have HB1 := Lib.hid (HBW.out.trans (hb1.mono HBW.out.size))
  obtain ⟨g, cg, ad1, cap1, rfl, _, _, kc1, kf1, hP1⟩ := ho.out.at
  have HP1 : Hid (PR w1 _ a) := Lib.hid (PR.of HA.out hP1 hb1); clear hP1
  clear ho HOP q0 q1 f0 f1 KW hb1
  go_wp2_with fail
  refine (bracketed_c a 4 (by omega) HL.out IA.out _ w1 HP1.out).mono ?_
  rintro e w2 ⟨s, rfl, hb2, hs⟩
  have K2 := Lib.hid (blkBel hb2 K1.out)
  obtain ⟨q0, q1, f0, f1⟩ := blk2 K2.out
  have HB2 := Lib.hid (HB1.out.trans (hb2.mono HB1.out.size))
  have hsz := baSize hs.out
  have hs3 := HT.out
  have hcc : ¬ (9223372036854775807 < (⟨#[33]⟩ : ByteArray).size + s.size) := by show ¬ (9223372036854775807 < 1 + s.size); omega
  go_wp2
  go_ret
  exact RTx.mk HB2.out (by rw [HE.out, baApp, hs.out])
set_option maxHeartbeats 800000 in
theorem etx_star (a : Re) (hl : a.len ≤ 59) (iha : ∀ (w : World) (v : Value), PR w v a → Calls Try.prog 60 #[v] w (RTx w a.tx)) (u : Value) (w : World) (h : PR w u (.star a)) : Calls Try.prog 60 #[u] w (RTx w (Re.tx (.star a))) := by
  have hla : a.flat.length ≤ 59 := hl
  have hmm : (Re.star a).flat.length = a.flat.length + 1 := len_star a
  have hta := tx_len a
  have htb := brk_len (a.lvl < 5) a.tx
  have HT : Hid ((brk (a.lvl < 5) a.tx).length ≤ 400) := Lib.hid (by omega)
  have HE : Hid ((Re.star a).tx = brk (a.lvl < 5) a.tx ++ [42]) := Lib.hid rfl
  have ht := h.1
  have htl := tx_len (Re.star a)
  obtain ⟨bb, off, cap, m, rfl, hm1, hm2, c0, c1⟩ := h.last
  replace c0 : w.cell? ⟨bb, off + m * 2, none⟩ = some (.int .i64 8) := c0
  replace c1 : w.cell? ⟨bb, off + m * 2 + 1, none⟩ = some (.int .i64 0) := c1
  have hm60 : m ≤ 60 := by omega
  have hI : IntKind.i64.wrap ((m + 1 : Nat) - 1 : Int) = (m : Int) := by rw [show (((m + 1 : Nat) : Int) - 1) = (m : Int) by omega]; exact IntWalk.i64_in _ (by omega)
  have hlt : (m : Int) < (m : Int) + 1 := by omega
  obtain ⟨W, hW⟩ : ∃ W, W = w.alloc (.cells #[.int .i64 8, .int .i64 0] 67) := ⟨_, rfl⟩
  have hBW : Below w.heap.size w W := by rw [hW]; exact (Below.refl _ _).alloc (Nat.le_refl _) _
  have KW : Hid (W.heap[w.heap.size]? = some (.cells #[.int .i64 8, .int .i64 0] 67 (0, 0))) := Lib.hid (by rw [hW]; exact blkNew _ _ rfl)
  have HH := Lib.hid (h.stay hBW)
  have HBW := Lib.hid hBW
  have HW := Lib.hid hW
  have HBD : Hid (Calls Try.prog 98 #[.int .i64 8] W (RI W fun n => n = ((Re.star a).lvl : Int))) := Lib.hid (binding_c (Re.star a) W)
  obtain ⟨q0, q1, f0, f1⟩ := blk2 KW.out
  have HA : Hid a.wf := Lib.hid ht
  have IA := Lib.hid iha
  have HOP := Lib.hid (operands1_c _ a 8 0 W ht HH.out.2 (by decide) (by decide) hla)
  have HL := Lib.hid (show a.len ≤ 60 by omega)
  have hlv : ((Re.star a).lvl : Int) = ((5 : Nat) : Int) := rfl
  clear h hm1 hm2 hBW hW ht htl hmm hla hta htb hl iha
  rw [HW.out] at q0 q1 f0 f1
  go_enter Try.func60, Try.ntmps60
  go_wp2_with fail
  rw [← HW.out] at q0 q1 f0 f1 ⊢
  refine HBD.out.mono ?_
  rintro e w1 ⟨y, rfl, rfl, hy⟩
  obtain rfl := hy.out
  clear hy HBD
  rw [hlv]
  clear hlv
  go_wp2_with fail
  refine HOP.out.mono ?_
  rintro e w1 ⟨vo, rfl, hb1, ho⟩
  have K1 := Lib.hid (blkBel hb1 KW.out)
  have HB1 := Lib.hid (HBW.out.trans (hb1.mono HBW.out.size))
  obtain ⟨g, cg, ad1, cap1, rfl, _, _, kc1, kf1, hP1⟩ := ho.out.at
  have HP1 : Hid (PR w1 _ a) := Lib.hid (PR.of HA.out hP1 hb1); clear hP1
  clear ho HOP q0 q1 f0 f1 KW hb1
  go_wp2_with fail
  refine (bracketed_c a 5 (by omega) HL.out IA.out _ w1 HP1.out).mono ?_
  rintro e w2 ⟨s, rfl, hb2, hs⟩
  have K2 := Lib.hid (blkBel hb2 K1.out)
  obtain ⟨q0, q1, f0, f1⟩ := blk2 K2.out
  have HB2 := Lib.hid (HB1.out.trans (hb2.mono HB1.out.size))
  have hsz := baSize hs.out
  have hs3 := HT.out
  have hcc : ¬ (9223372036854775807 < s.size + (⟨#[42]⟩ : ByteArray).size) := by show ¬ (9223372036854775807 < s.size + 1); omega
  go_wp2
  go_ret
  exact RTx.mk HB2.out (by rw [HE.out, baApp, hs.out])
set_option maxHeartbeats 1600000 in
theorem etx_join (a b : Re) (hl : a.len + b.len ≤ 59) (iha : ∀ (w : World) (v : Value), PR w v a → Calls Try.prog 60 #[v] w (RTx w a.tx)) (ihb : ∀ (w : World) (v : Value), PR w v b → Calls Try.prog 60 #[v] w (RTx w b.tx)) (u : Value) (w : World) (h : PR w u (.join a b)) : Calls Try.prog 60 #[u] w (RTx w (Re.tx (.join a b))) := by
  have hlab : (a.flat ++ b.flat).length ≤ 59 := by rw [List.length_append]; exact hl
  have hl2 : a.flat.length + b.flat.length ≤ 59 := hl
  have hmm : (Re.join a b).flat.length = a.flat.length + b.flat.length + 1 := len_join a b
  have hta := tx_len a
  have htb := brk_len (a.lvl < 3) a.tx
  have htc := tx_len b
  have htd := brk_len (b.lvl < 4) b.tx
  have HT : Hid ((brk (a.lvl < 3) a.tx).length ≤ 400 ∧ (brk (b.lvl < 4) b.tx).length ≤ 400) := Lib.hid (by omega)
  have HE : Hid ((Re.join a b).tx = brk (a.lvl < 3) a.tx ++ brk (b.lvl < 4) b.tx) := Lib.hid rfl
  have ht := h.1
  have htl := tx_len (Re.join a b)
  obtain ⟨bb, off, cap, m, rfl, hm1, hm2, c0, c1⟩ := h.last
  replace c0 : w.cell? ⟨bb, off + m * 2, none⟩ = some (.int .i64 4) := c0
  replace c1 : w.cell? ⟨bb, off + m * 2 + 1, none⟩ = some (.int .i64 0) := c1
  have hm60 : m ≤ 60 := by omega
  have hI : IntKind.i64.wrap ((m + 1 : Nat) - 1 : Int) = (m : Int) := by rw [show (((m + 1 : Nat) : Int) - 1) = (m : Int) by omega]; exact IntWalk.i64_in _ (by omega)
  have hlt : (m : Int) < (m : Int) + 1 := by omega
  obtain ⟨W, hW⟩ : ∃ W, W = w.alloc (.cells #[.int .i64 4, .int .i64 0] 67) := ⟨_, rfl⟩
  have hBW : Below w.heap.size w W := by rw [hW]; exact (Below.refl _ _).alloc (Nat.le_refl _) _
  have KW : Hid (W.heap[w.heap.size]? = some (.cells #[.int .i64 4, .int .i64 0] 67 (0, 0))) := Lib.hid (by rw [hW]; exact blkNew _ _ rfl)
  have HH := Lib.hid (h.stay hBW)
  have HBW := Lib.hid hBW
  have HW := Lib.hid hW
  have HBD : Hid (Calls Try.prog 98 #[.int .i64 4] W (RI W fun n => n = ((Re.join a b).lvl : Int))) := Lib.hid (binding_c (Re.join a b) W)
  obtain ⟨q0, q1, f0, f1⟩ := blk2 KW.out
  have HA : Hid a.wf := Lib.hid ht.1
  have HB : Hid b.wf := Lib.hid ht.2
  have IA := Lib.hid iha; have IB := Lib.hid ihb
  have HOP := Lib.hid (operands2_c _ a b 4 0 W ht.1 ht.2 HH.out.2 (by decide) (by decide) hlab)
  have HL := Lib.hid (show a.len ≤ 60 ∧ b.len ≤ 60 by omega)
  have hlv : ((Re.join a b).lvl : Int) = ((3 : Nat) : Int) := rfl
  clear h hm1 hm2 hBW hW ht htl hmm hlab hl2 hta htb htc htd hl iha ihb
  rw [HW.out] at q0 q1 f0 f1
  go_enter Try.func60, Try.ntmps60
  go_wp2_with fail
  rw [← HW.out] at q0 q1 f0 f1 ⊢
  refine HBD.out.mono ?_
  rintro e w1 ⟨y, rfl, rfl, hy⟩
  obtain rfl := hy.out
  clear hy HBD
  rw [hlv]
  clear hlv
  go_wp2_with fail
  refine HOP.out.mono ?_
  rintro e w1 ⟨vo, rfl, hb1, ho⟩
  have K1 := Lib.hid (blkBel hb1 KW.out)
  have HB1 := Lib.hid (HBW.out.trans (hb1.mono HBW.out.size))
  obtain ⟨g, cg, ad1, cap1, ad2, cap2, rfl, _, _, kc1, kc2, hP1, hP2⟩ := ho.out.at
  have HP1 : Hid (PR w1 _ a) := Lib.hid (PR.of HA.out hP1 hb1); have HP2 : Hid (PR w1 _ b) := Lib.hid (PR.of HB.out hP2 hb1); clear hP1 hP2
  clear ho HOP q0 q1 f0 f1 KW hb1
  go_wp2_with fail
  refine (bracketed_c a 3 (by omega) HL.out.1 IA.out _ w1 HP1.out).mono ?_
  rintro e w2 ⟨s, rfl, hb2, hs⟩
  have K2 := Lib.hid (blkBel hb2 K1.out)
  obtain ⟨q0, q1, f0, f1⟩ := blk2 K2.out
  have HB2 := Lib.hid (HB1.out.trans (hb2.mono HB1.out.size))
  have HP22 := Lib.hid (HP2.out.stay hb2)
  replace kc2 := kpB (S := fun _ => True) hb2 _ _ trivial kc2
  have hmk := @run_makeMap Try.prog
  obtain ⟨x2, x3, x4, r1, r2, r3, hbx, l4, l5, l6⟩ := signs w2
  have HB4 := Lib.hid (HB2.out.trans (hbx.mono HB2.out.size))
  have HP4 := Lib.hid (HP22.out.stay hbx)
  have K4 := Lib.hid (blkBel hbx K2.out)
  obtain ⟨p0, p1, g0, g1⟩ := blk2 K4.out
  replace kc1 := kpB (S := fun _ => True) (hb2.trans (hbx.mono hb2.size)) _ _ trivial kc1
  have kc3 := kpB (S := fun _ => True) hbx _ _ trivial kc2
  have hsz := baSize hs.out
  have hs3 := HT.out.1
  have hs4 := HT.out.2
  have hcc : ¬ (9223372036854775807 < s.size + (⟨#[]⟩ : ByteArray).size) := by show ¬ (9223372036854775807 < s.size + 0); omega
  have hce : (s ++ ⟨#[]⟩ : ByteArray).size = s.size + 0 := by rw [ByteArray.size_append]; rfl
  have HCE := Lib.hid hce
  clear hce
  go_wp2_with fail
  refine (bracketed_c b 4 (by omega) HL.out.2 IB.out _ x4 HP4.out).mono ?_
  rintro e w5 ⟨s5, rfl, hb5, hs5⟩
  have HB5 := Lib.hid (HB4.out.trans (hb5.mono HB4.out.size))
  have hsz5 := baSize hs5.out
  have hcd : ¬ (9223372036854775807 < (s ++ ⟨#[]⟩ : ByteArray).size + s5.size) := by rw [HCE.out]; omega
  go_wp2
  go_ret
  exact RTx.mk HB5.out (by rw [HE.out, baApp, baApp, hs.out, hs5.out]; simp)
set_option maxHeartbeats 1600000 in
theorem etx_either (a b : Re) (hl : a.len + b.len ≤ 59) (iha : ∀ (w : World) (v : Value), PR w v a → Calls Try.prog 60 #[v] w (RTx w a.tx)) (ihb : ∀ (w : World) (v : Value), PR w v b → Calls Try.prog 60 #[v] w (RTx w b.tx)) (u : Value) (w : World) (h : PR w u (.either a b)) : Calls Try.prog 60 #[u] w (RTx w (Re.tx (.either a b))) := by
  have hlab : (a.flat ++ b.flat).length ≤ 59 := by rw [List.length_append]; exact hl
  have hl2 : a.flat.length + b.flat.length ≤ 59 := hl
  have hmm : (Re.either a b).flat.length = a.flat.length + b.flat.length + 1 := len_either a b
  have hta := tx_len a
  have htb := brk_len (a.lvl < 1) a.tx
  have htc := tx_len b
  have htd := brk_len (b.lvl < 2) b.tx
  have HT : Hid ((brk (a.lvl < 1) a.tx).length ≤ 400 ∧ (brk (b.lvl < 2) b.tx).length ≤ 400) := Lib.hid (by omega)
  have HE : Hid ((Re.either a b).tx = brk (a.lvl < 1) a.tx ++ [124] ++ brk (b.lvl < 2) b.tx) := Lib.hid rfl
  have ht := h.1
  have htl := tx_len (Re.either a b)
  obtain ⟨bb, off, cap, m, rfl, hm1, hm2, c0, c1⟩ := h.last
  replace c0 : w.cell? ⟨bb, off + m * 2, none⟩ = some (.int .i64 5) := c0
  replace c1 : w.cell? ⟨bb, off + m * 2 + 1, none⟩ = some (.int .i64 0) := c1
  have hm60 : m ≤ 60 := by omega
  have hI : IntKind.i64.wrap ((m + 1 : Nat) - 1 : Int) = (m : Int) := by rw [show (((m + 1 : Nat) : Int) - 1) = (m : Int) by omega]; exact IntWalk.i64_in _ (by omega)
  have hlt : (m : Int) < (m : Int) + 1 := by omega
  obtain ⟨W, hW⟩ : ∃ W, W = w.alloc (.cells #[.int .i64 5, .int .i64 0] 67) := ⟨_, rfl⟩
  have hBW : Below w.heap.size w W := by rw [hW]; exact (Below.refl _ _).alloc (Nat.le_refl _) _
  have KW : Hid (W.heap[w.heap.size]? = some (.cells #[.int .i64 5, .int .i64 0] 67 (0, 0))) := Lib.hid (by rw [hW]; exact blkNew _ _ rfl)
  have HH := Lib.hid (h.stay hBW)
  have HBW := Lib.hid hBW
  have HW := Lib.hid hW
  have HBD : Hid (Calls Try.prog 98 #[.int .i64 5] W (RI W fun n => n = ((Re.either a b).lvl : Int))) := Lib.hid (binding_c (Re.either a b) W)
  obtain ⟨q0, q1, f0, f1⟩ := blk2 KW.out
  have HA : Hid a.wf := Lib.hid ht.1
  have HB : Hid b.wf := Lib.hid ht.2
  have IA := Lib.hid iha; have IB := Lib.hid ihb
  have HOP := Lib.hid (operands2_c _ a b 5 0 W ht.1 ht.2 HH.out.2 (by decide) (by decide) hlab)
  have HL := Lib.hid (show a.len ≤ 60 ∧ b.len ≤ 60 by omega)
  have hlv : ((Re.either a b).lvl : Int) = ((1 : Nat) : Int) := rfl
  clear h hm1 hm2 hBW hW ht htl hmm hlab hl2 hta htb htc htd hl iha ihb
  rw [HW.out] at q0 q1 f0 f1
  go_enter Try.func60, Try.ntmps60
  go_wp2_with fail
  rw [← HW.out] at q0 q1 f0 f1 ⊢
  refine HBD.out.mono ?_
  rintro e w1 ⟨y, rfl, rfl, hy⟩
  obtain rfl := hy.out
  clear hy HBD
  rw [hlv]
  clear hlv
  go_wp2_with fail
  refine HOP.out.mono ?_
  rintro e w1 ⟨vo, rfl, hb1, ho⟩
  have K1 := Lib.hid (blkBel hb1 KW.out)
  have HB1 := Lib.hid (HBW.out.trans (hb1.mono HBW.out.size))
  obtain ⟨g, cg, ad1, cap1, ad2, cap2, rfl, _, _, kc1, kc2, hP1, hP2⟩ := ho.out.at
  have HP1 : Hid (PR w1 _ a) := Lib.hid (PR.of HA.out hP1 hb1); have HP2 : Hid (PR w1 _ b) := Lib.hid (PR.of HB.out hP2 hb1); clear hP1 hP2
  clear ho HOP q0 q1 f0 f1 KW hb1
  go_wp2_with fail
  refine (bracketed_c a 1 (by omega) HL.out.1 IA.out _ w1 HP1.out).mono ?_
  rintro e w2 ⟨s, rfl, hb2, hs⟩
  have K2 := Lib.hid (blkBel hb2 K1.out)
  obtain ⟨q0, q1, f0, f1⟩ := blk2 K2.out
  have HB2 := Lib.hid (HB1.out.trans (hb2.mono HB1.out.size))
  have HP22 := Lib.hid (HP2.out.stay hb2)
  replace kc2 := kpB (S := fun _ => True) hb2 _ _ trivial kc2
  have hmk := @run_makeMap Try.prog
  obtain ⟨x2, x3, x4, r1, r2, r3, hbx, l4, l5, l6⟩ := signs w2
  have HB4 := Lib.hid (HB2.out.trans (hbx.mono HB2.out.size))
  have HP4 := Lib.hid (HP22.out.stay hbx)
  have K4 := Lib.hid (blkBel hbx K2.out)
  obtain ⟨p0, p1, g0, g1⟩ := blk2 K4.out
  replace kc1 := kpB (S := fun _ => True) (hb2.trans (hbx.mono hb2.size)) _ _ trivial kc1
  have kc3 := kpB (S := fun _ => True) hbx _ _ trivial kc2
  have hsz := baSize hs.out
  have hs3 := HT.out.1
  have hs4 := HT.out.2
  have hcc : ¬ (9223372036854775807 < s.size + (⟨#[124]⟩ : ByteArray).size) := by show ¬ (9223372036854775807 < s.size + 1); omega
  have hce : (s ++ ⟨#[124]⟩ : ByteArray).size = s.size + 1 := by rw [ByteArray.size_append]; rfl
  have HCE := Lib.hid hce
  clear hce
  go_wp2_with fail
  refine (bracketed_c b 2 (by omega) HL.out.2 IB.out _ x4 HP4.out).mono ?_
  rintro e w5 ⟨s5, rfl, hb5, hs5⟩
  have HB5 := Lib.hid (HB4.out.trans (hb5.mono HB4.out.size))
  have hsz5 := baSize hs5.out
  have hcd : ¬ (9223372036854775807 < (s ++ ⟨#[124]⟩ : ByteArray).size + s5.size) := by rw [HCE.out]; omega
  go_wp2
  go_ret
  exact RTx.mk HB5.out (by rw [HE.out, baApp, baApp, hs.out, hs5.out])
set_option maxHeartbeats 1600000 in
theorem etx_both (a b : Re) (hl : a.len + b.len ≤ 59) (iha : ∀ (w : World) (v : Value), PR w v a → Calls Try.prog 60 #[v] w (RTx w a.tx)) (ihb : ∀ (w : World) (v : Value), PR w v b → Calls Try.prog 60 #[v] w (RTx w b.tx)) (u : Value) (w : World) (h : PR w u (.both a b)) : Calls Try.prog 60 #[u] w (RTx w (Re.tx (.both a b))) := by
  have hlab : (a.flat ++ b.flat).length ≤ 59 := by rw [List.length_append]; exact hl
  have hl2 : a.flat.length + b.flat.length ≤ 59 := hl
  have hmm : (Re.both a b).flat.length = a.flat.length + b.flat.length + 1 := len_both a b
  have hta := tx_len a
  have htb := brk_len (a.lvl < 2) a.tx
  have htc := tx_len b
  have htd := brk_len (b.lvl < 3) b.tx
  have HT : Hid ((brk (a.lvl < 2) a.tx).length ≤ 400 ∧ (brk (b.lvl < 3) b.tx).length ≤ 400) := Lib.hid (by omega)
  have HE : Hid ((Re.both a b).tx = brk (a.lvl < 2) a.tx ++ [38] ++ brk (b.lvl < 3) b.tx) := Lib.hid rfl
  have ht := h.1
  have htl := tx_len (Re.both a b)
  obtain ⟨bb, off, cap, m, rfl, hm1, hm2, c0, c1⟩ := h.last
  replace c0 : w.cell? ⟨bb, off + m * 2, none⟩ = some (.int .i64 6) := c0
  replace c1 : w.cell? ⟨bb, off + m * 2 + 1, none⟩ = some (.int .i64 0) := c1
  have hm60 : m ≤ 60 := by omega
  have hI : IntKind.i64.wrap ((m + 1 : Nat) - 1 : Int) = (m : Int) := by rw [show (((m + 1 : Nat) : Int) - 1) = (m : Int) by omega]; exact IntWalk.i64_in _ (by omega)
  have hlt : (m : Int) < (m : Int) + 1 := by omega
  obtain ⟨W, hW⟩ : ∃ W, W = w.alloc (.cells #[.int .i64 6, .int .i64 0] 67) := ⟨_, rfl⟩
  have hBW : Below w.heap.size w W := by rw [hW]; exact (Below.refl _ _).alloc (Nat.le_refl _) _
  have KW : Hid (W.heap[w.heap.size]? = some (.cells #[.int .i64 6, .int .i64 0] 67 (0, 0))) := Lib.hid (by rw [hW]; exact blkNew _ _ rfl)
  have HH := Lib.hid (h.stay hBW)
  have HBW := Lib.hid hBW
  have HW := Lib.hid hW
  have HBD : Hid (Calls Try.prog 98 #[.int .i64 6] W (RI W fun n => n = ((Re.both a b).lvl : Int))) := Lib.hid (binding_c (Re.both a b) W)
  obtain ⟨q0, q1, f0, f1⟩ := blk2 KW.out
  have HA : Hid a.wf := Lib.hid ht.1
  have HB : Hid b.wf := Lib.hid ht.2
  have IA := Lib.hid iha; have IB := Lib.hid ihb
  have HOP := Lib.hid (operands2_c _ a b 6 0 W ht.1 ht.2 HH.out.2 (by decide) (by decide) hlab)
  have HL := Lib.hid (show a.len ≤ 60 ∧ b.len ≤ 60 by omega)
  have hlv : ((Re.both a b).lvl : Int) = ((2 : Nat) : Int) := rfl
  clear h hm1 hm2 hBW hW ht htl hmm hlab hl2 hta htb htc htd hl iha ihb
  rw [HW.out] at q0 q1 f0 f1
  go_enter Try.func60, Try.ntmps60
  go_wp2_with fail
  rw [← HW.out] at q0 q1 f0 f1 ⊢
  refine HBD.out.mono ?_
  rintro e w1 ⟨y, rfl, rfl, hy⟩
  obtain rfl := hy.out
  clear hy HBD
  rw [hlv]
  clear hlv
  go_wp2_with fail
  refine HOP.out.mono ?_
  rintro e w1 ⟨vo, rfl, hb1, ho⟩
  have K1 := Lib.hid (blkBel hb1 KW.out)
  have HB1 := Lib.hid (HBW.out.trans (hb1.mono HBW.out.size))
  obtain ⟨g, cg, ad1, cap1, ad2, cap2, rfl, _, _, kc1, kc2, hP1, hP2⟩ := ho.out.at
  have HP1 : Hid (PR w1 _ a) := Lib.hid (PR.of HA.out hP1 hb1); have HP2 : Hid (PR w1 _ b) := Lib.hid (PR.of HB.out hP2 hb1); clear hP1 hP2
  clear ho HOP q0 q1 f0 f1 KW hb1
  go_wp2_with fail
  refine (bracketed_c a 2 (by omega) HL.out.1 IA.out _ w1 HP1.out).mono ?_
  rintro e w2 ⟨s, rfl, hb2, hs⟩
  have K2 := Lib.hid (blkBel hb2 K1.out)
  obtain ⟨q0, q1, f0, f1⟩ := blk2 K2.out
  have HB2 := Lib.hid (HB1.out.trans (hb2.mono HB1.out.size))
  have HP22 := Lib.hid (HP2.out.stay hb2)
  replace kc2 := kpB (S := fun _ => True) hb2 _ _ trivial kc2
  have hmk := @run_makeMap Try.prog
  obtain ⟨x2, x3, x4, r1, r2, r3, hbx, l4, l5, l6⟩ := signs w2
  have HB4 := Lib.hid (HB2.out.trans (hbx.mono HB2.out.size))
  have HP4 := Lib.hid (HP22.out.stay hbx)
  have K4 := Lib.hid (blkBel hbx K2.out)
  obtain ⟨p0, p1, g0, g1⟩ := blk2 K4.out
  replace kc1 := kpB (S := fun _ => True) (hb2.trans (hbx.mono hb2.size)) _ _ trivial kc1
  have kc3 := kpB (S := fun _ => True) hbx _ _ trivial kc2
  have hsz := baSize hs.out
  have hs3 := HT.out.1
  have hs4 := HT.out.2
  have hcc : ¬ (9223372036854775807 < s.size + (⟨#[38]⟩ : ByteArray).size) := by show ¬ (9223372036854775807 < s.size + 1); omega
  have hce : (s ++ ⟨#[38]⟩ : ByteArray).size = s.size + 1 := by rw [ByteArray.size_append]; rfl
  have HCE := Lib.hid hce
  clear hce
  go_wp2_with fail
  refine (bracketed_c b 3 (by omega) HL.out.2 IB.out _ x4 HP4.out).mono ?_
  rintro e w5 ⟨s5, rfl, hb5, hs5⟩
  have HB5 := Lib.hid (HB4.out.trans (hb5.mono HB4.out.size))
  have hsz5 := baSize hs5.out
  have hcd : ¬ (9223372036854775807 < (s ++ ⟨#[38]⟩ : ByteArray).size + s5.size) := by rw [HCE.out]; omega
  go_wp2
  go_ret
  exact RTx.mk HB5.out (by rw [HE.out, baApp, baApp, hs.out, hs5.out])
theorem exprText_c (t : Re) : t.wf → t.len ≤ 60 → ∀ (w : World) (v : Value), PR w v t → Calls Try.prog 60 #[v] w (RTx w t.tx) := by
  induction t with
  | none => exact fun _ _ w v h => etx_none v w h
  | empty => exact fun _ _ w v h => etx_empty v w h
  | letter d => exact fun _ _ w v h => etx_letter d v w h
  | join a b iha ihb => exact fun ht hl w v h => etx_join a b (by rw [len_join] at hl; omega) (iha ht.1 (by rw [len_join] at hl; omega)) (ihb ht.2 (by rw [len_join] at hl; omega)) v w h
  | either a b iha ihb => exact fun ht hl w v h => etx_either a b (by rw [len_either] at hl; omega) (iha ht.1 (by rw [len_either] at hl; omega)) (ihb ht.2 (by rw [len_either] at hl; omega)) v w h
  | both a b iha ihb => exact fun ht hl w v h => etx_both a b (by rw [len_both] at hl; omega) (iha ht.1 (by rw [len_both] at hl; omega)) (ihb ht.2 (by rw [len_both] at hl; omega)) v w h
  | not a iha => exact fun ht hl w v h => etx_not a (by rw [len_not] at hl; omega) (iha ht (by rw [len_not] at hl; omega)) v w h
  | star a iha => exact fun ht hl w v h => etx_star a (by rw [len_star] at hl; omega) (iha ht (by rw [len_star] at hl; omega)) v w h
theorem ExprText_c (t : Re) (hl : t.len ≤ 60) (v : Value) (w : World) (h : PR w v t) : Calls Try.prog 24 #[v] w (RTx w t.tx) := by
  obtain ⟨a, cap, rfl, hn⟩ := h.shape
  have hok : ExprOk t.flat := (exprOk_iff _).2 ⟨t, h.1, rfl, hl⟩
  have H := Lib.hid h; have HT := Lib.hid hl; have HO := Lib.hid hok
  clear h hok hl
  go_enter Try.func24, Try.ntmps24
  go_wp2_with fail
  refine (ExprValid_c _ t.flat w H.out.2).mono ?_
  rintro x w1 ⟨b1, rfl, hb1, hv⟩
  obtain rfl : b1 = true := hv.out.2 HO.out
  have H1 := Lib.hid (H.out.stay hb1)
  have HB1 := Lib.hid hb1; clear hb1 hv
  go_wp2_with fail
  refine (exprText_c t H1.out.1 HT.out w1 _ H1.out).mono ?_
  rintro x w2 ⟨s, rfl, hb2, hs⟩
  go_wp2
  go_ret
  exact RTx.mk (HB1.out.trans (hb2.mono HB1.out.size)) hs.out
end Go.Proofs.Ytbcjhiponbfbnaa

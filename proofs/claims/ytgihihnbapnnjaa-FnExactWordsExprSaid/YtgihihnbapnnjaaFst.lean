/- Lists of strings: sizes, copies, comparing, marks. -/
import Derived.Test.YtgihihnbapnnjaaFa4
import Derived.Test.YtgihihnbapnnjaaLae
namespace Go.Proofs.Ytgihihnbapnnjaa
open Go.RowKit
set_option maxRecDepth 100000
variable {S T : Nat → Prop}
theorem elStr : ElemT 33 9 1 16 := ElemT.of (z := .string ByteArray.empty) Try.underlying33 (by kernel_rfl) rfl (by decide)
set_option maxHeartbeats 400000 in
theorem szStringS_c (v : Value) (xs : List ByteArray) (left : Int) (w : World) (h : Strs S w v xs) (h0 : 0 ≤ left) (h1 : left ≤ 1048576) :
    Calls Try.prog 24 #[v, .int .i64 left] w (Sz w left (xs.length ≤ 1048576)) := by
  obtain ⟨a, cap, rfl, hn⟩ := h.shape
  have H := Lib.hid h; clear h
  by_cases hl : (xs.length : Int) ≤ left
  · have hn2 : (xs.length : Int) ≤ 1048576 := by omega
    go_enter Try.func24, Try.ntmps24
    go_wp2
    go_loop [1, 5] (fun x i => ∃ (k : Nat) (m : Int), k ≤ xs.length ∧ i = .int .i64 k ∧ x = .int .i64 m ∧ 0 ≤ m ∧ m ≤ left) (fun _ i => xs.length - (intOf i).toNat)
    case atStart => exact ⟨0, _, by omega, rfl, rfl, by omega, by omega⟩
    case round =>
      obtain ⟨k, m, hk, rfl, rfl, hm0, hm1⟩ := hrel
      by_cases hlt : k < xs.length
      · obtain ⟨b, off, rfl, hc⟩ := H.out.at hlt
        have hsz := H.out.2 _ (List.getElem_mem hlt)
        have hsz2 : xs[k].size ≤ 9223372036854775807 := by unfold maxLen at hsz; exact hsz
        generalize xs[k] = s at *
        clear hsz
        by_cases hle : (s.size : Int) ≤ m
        · go_wp2
          go_round
          case rel => exact ⟨k + 1, _, by omega, by go_num, rfl, by omega, by omega⟩
          case measure => simp [intOf]; omega
        · go_wp2
          go_ret
          exact Sz.no (Below.refl _ _)
      · go_wp2
        go_ret
        exact Sz.yes (Below.refl _ _) (by omega) (by omega) (by omega)
  · go_enter Try.func24, Try.ntmps24
    go_wp2
    go_ret
    exact Sz.no (Below.refl _ _)
set_option maxHeartbeats 400000 in
theorem toStringS_c (v : Value) (xs : List ByteArray) (w : World) (h : Strs S w v xs) (hn : xs.length ≤ 1048576) :
    Calls Try.prog 26 #[v] w (RVn w fun v w' => Made w.heap.size w' v xs.length (xs.map .string)) := by
  obtain ⟨a, cap, rfl, _⟩ := h.shape
  have H := Lib.hid h; clear h
  go_enter Try.func26, Try.ntmps26
  go_wp2_with (at_make; refine makeFull elStr (by decide) rfl (.tmp 6) (.tmp 6) rfl xs.length w rfl rfl (by omega) ?_; intro w1 cs ho hcl hb hlt _)
  have hF := Lib.hid (ownAt ho.out)
  clear ho
  go_loopw [4] (fun i wr => ∃ k : Nat, k ≤ xs.length ∧ i = .int .i64 k ∧ Below w.heap.size w wr ∧ w.heap.size < wr.heap.size ∧ Hid (FlW (· = w.heap.size) wr (.slice (some ⟨w.heap.size, 0, none⟩) xs.length xs.length) xs.length (mkd cs (fun t => .string (xs.getD t ByteArray.empty)) k))) (fun i _ => xs.length - (intOf i).toNat)
  case atStart => exact ⟨0, by omega, rfl, hb, hlt, by rw [mkd_zero]; exact hF⟩
  case round =>
    obtain ⟨k, hk, rfl, hb, hlt0, hr⟩ := hrel
    clear hF
    by_cases hlt : k < xs.length
    · obtain ⟨b, off, rfl, hca⟩ := (H.out.stay (kpB hb)).at hlt
      have hlen := mkd_length cs (fun t => .string (xs.getD t ByteArray.empty)) k (by rw [hcl.out]; omega)
      obtain ⟨b', off', e, _, c0, f0⟩ := hr.out.at (i := k) (by rw [hlen, hcl.out]; omega)
      cases e
      have hs := hr.out.set k (.string (xs.getD k ByteArray.empty)) (by rw [hlen, hcl.out]; omega)
      rw [mkd_set cs (fun t => .string (xs.getD t ByteArray.empty)) k (by rw [hcl.out]; omega)] at hs
      have Hs := Lib.hid hs; clear hs
      have hxk : xs[k] = xs.getD k ByteArray.empty := by rw [List.getD_eq_getElem?_getD, List.getElem?_eq_getElem hlt]; rfl
      rw [hxk] at hca
      clear hxk
      obtain ⟨u0, d0⟩ : ∃ u, wr.cell? ⟨w.heap.size, 0 + k, none⟩ = some u := ⟨_, c0⟩
      have g0 := f0 (0 + k)
      rw [Nat.zero_add] at d0 g0 Hs
      have hB : Below w.heap.size w (wr.setCell ⟨w.heap.size, k, none⟩ (.string (xs.getD k ByteArray.empty))) := hb.setCell (Nat.le_refl _) _
      clear hlen c0 f0 hr hb
      generalize xs.getD k ByteArray.empty = x at *
      go_wp2
      go_roundw
      case rel => exact ⟨k + 1, by omega, by go_num, hB, by simpa [World.setCell] using hlt0, Hs⟩
      case measure => simp [intOf]; omega
    · obtain rfl : k = xs.length := by omega
      have he : (List.range xs.length).map (fun t => Value.string (xs.getD t ByteArray.empty)) = xs.map .string := by
        apply List.ext_getElem
        · simp
        · intro i h1 h2
          simp at h1
          simp [h1]
      have H2 : Hid (FlW (· = w.heap.size) wr (.slice (some ⟨w.heap.size, 0, none⟩) xs.length xs.length) xs.length (xs.map .string)) := by
        rw [← he, ← mkd_all cs _ _ (by rw [hcl.out, Nat.mul_one])]; exact hr
      clear he hr
      go_wp2
      go_ret
      exact RVn.mk hb ⟨w.heap.size, Nat.le_refl _, hlt0, H2.out⟩
set_option maxHeartbeats 400000 in
theorem eqStringS_c (v u : Value) (xs : List ByteArray) (w : World) (hv : Strs S w v xs) (hu : Strs T w u xs) : Calls Try.prog 28 #[v, u] w (RBn w True) := by
  obtain ⟨a, ca, rfl, hn⟩ := hv.shape
  obtain ⟨b, cb, rfl, _⟩ := hu.shape
  have HV := Lib.hid hv; clear hv
  have HU := Lib.hid hu; clear hu
  go_enter Try.func28, Try.ntmps28
  go_wp2
  go_loopw [5] (fun i wr => ∃ k : Nat, k ≤ xs.length ∧ i = .int .i64 k ∧ Below w.heap.size w wr) (fun i _ => xs.length - (intOf i).toNat)
  case atStart => exact ⟨0, by omega, rfl, Below.refl _ _⟩
  case round =>
    obtain ⟨k, hk, rfl, hb⟩ := hrel
    by_cases hlt : k < xs.length
    · obtain ⟨b1, o1, rfl, c1⟩ := (HV.out.stay (kpB hb)).at hlt
      obtain ⟨b2, o2, rfl, c2⟩ := (HU.out.stay (kpB hb)).at hlt
      have hkI : (k : Int) < (xs.length : Int) := by omega
      generalize xs[k] = s at *
      go_wp2_with fail
      go_quiet (fail)
      go_wp2
      go_roundw
      case rel => exact ⟨k + 1, by omega, by go_num, belDrewN hb _⟩
      case measure => simp [intOf]; omega
    · go_wp2
      go_ret
      exact RBn.mk hb (by simp)
theorem byteStr0 (w : World) (z : Int) (c : UInt8) (h : z = c.toNat) :
    (convert 128 9 (.slice (some ⟨w.heap.size, 0, none⟩) 1 1)).run Try.prog (w.alloc (.cells #[.int .u8 z] 5)) = .ok (.string ⟨#[c]⟩) (w.alloc (.cells #[.int .u8 z] 5)) := by
  subst h
  refine run_convert_bytes_back (w.alloc (.cells #[.int .u8 c.toNat] 5)) 128 9 5 ⟨w.heap.size, 0, none⟩ 1 [c] Try.underlying128 Try.underlying5 Try.underlying9 (fun j hj => ?_)
  have : j = 0 := by simpa using hj
  subst this
  simp [Addr.add, World.cell?_alloc_mark]
set_option maxHeartbeats 400000 in
theorem markText_c (k : Int) (w : World) (hk : 0 ≤ k ∧ k ≤ 5000000000000) : Calls Try.prog 71 #[.int .i64 k] w (RSn w fun _ => True) := by
  obtain ⟨hk0, hk1⟩ := hk
  by_cases hpos : 0 < k
  · go_enter Try.func71, Try.ntmps71
    go_wp2
    go_loopw [0, 3] (fun x s wr => ∃ (m : Nat) (z : ByteArray), x = .int .i64 m ∧ (m : Int) + z.size ≤ k ∧ s = .string z ∧ Below w.heap.size w wr) (fun x _ _ => (intOf x).toNat)
    case atStart => exact ⟨k.toNat, _, by rw [Int.toNat_of_nonneg hk0], by rw [Int.toNat_of_nonneg hk0]; simp [ByteArray.size], rfl, Below.refl _ _⟩
    case round =>
      obtain ⟨m, z, rfl, hm, rfl, hb⟩ := hrel
      by_cases hmp : 0 < m
      · have hmod : (m : Int).tmod 10 = ((m % 10 : Nat) : Int) := rfl
        have hdiv : (m : Int).tdiv 10 = ((m / 10 : Nat) : Int) := rfl
        have hlt10 : m % 10 < 10 := Nat.mod_lt _ (by omega)
        have hdl : m / 10 < m := Nat.div_lt_self hmp (by omega)
        have hby := byteStr0 wr (48 + ((m % 10 : Nat) : Int)) (UInt8.ofNat (48 + m % 10)) (by rw [UInt8.toNat_ofNat']; omega)
        generalize UInt8.ofNat (48 + m % 10) = c at *
        generalize m % 10 = q at *
        generalize m / 10 = d at *
        have hI0 : (0 : Int) < (m : Int) := by omega
        go_wp2
        go_roundw
        case rel => exact ⟨d, _, rfl, by rw [ByteArray.size_append]; show (d : Int) + ((1 + z.size : Nat) : Int) ≤ k; omega, rfl, hb.alloc hb.size _⟩
        case measure => simp [intOf]; omega
      · obtain rfl : m = 0 := by omega
        go_wp2
        go_ret
        exact RSn.mk hb trivial
  · go_enter Try.func71, Try.ntmps71
    go_wp2
    go_ret
    exact RSn.mk (Below.refl _ _) trivial
set_option maxHeartbeats 400000 in
theorem markStringS_f (v : Value) (n : Nat) (cs : List Value) (k : Int) (w : World) (h : FlW S w v n cs) (hl : cs.length = n) (hS : ∀ b, S b → b < w.heap.size) (hk : 0 ≤ k ∧ k ≤ 4000000000000) (hn : n ≤ 100000000000) :
    Calls Try.prog 29 #[v, .int .i64 k] w fun e w' => e = .returned (.int .i64 (k + n)) ∧ Hid (Fr S w w') := by
  obtain ⟨a, cap, rfl, _⟩ := h.shape
  have H := Lib.hid h; clear h
  have Hl := Lib.hid hl; clear hl
  have HS := Lib.hid hS; clear hS
  obtain ⟨hk0, hk1⟩ := hk
  go_enter Try.func29, Try.ntmps29
  go_wp2
  go_loopw [1, 5] (fun x i wr => ∃ (j : Nat) (ds : List Value), j ≤ n ∧ i = .int .i64 j ∧ x = .int .i64 (k + j) ∧ Hid (Fr S w wr) ∧ Hid (ds.length = n) ∧ Hid (FlW S wr (.slice a n cap) n ds)) (fun _ i _ => n - (intOf i).toNat)
  case atStart => exact ⟨0, cs, by omega, rfl, by simp, Fr.refl _, Hl, H⟩
  case round =>
    obtain ⟨j, ds, hj, rfl, rfl, hg, hdl, hr⟩ := hrel
    clear H
    by_cases hlt : j < n
    · have hjI : (j : Int) < (n : Int) := by omega
      go_wp2_with fail
      refine (markText_c (k + j) wr ⟨by omega, by omega⟩).mono ?_
      rintro e w1 ⟨s, rfl, hb, _⟩
      replace hr := Lib.hid (hr.out.stay (ksB hb))
      replace hg := Lib.hid (hg.out.trans (Fr.bel hb))
      clear hb
      obtain ⟨b, off, rfl, hbS, c0, f0⟩ := hr.out.at (i := j) (by rw [hdl.out]; omega)
      have Hs := Lib.hid (hr.out.set j (.string s) (by rw [hdl.out]; omega))
      obtain ⟨u0, d0⟩ : ∃ u, w1.cell? ⟨b, off + j, none⟩ = some u := ⟨_, c0⟩
      have g0 := f0 (off + j)
      have hG : Hid (Fr S w (w1.setCell ⟨b, off + j, none⟩ (.string s))) := hg.out.trans (Fr.grown (grownSet _ _ _ _) (fun x e => by injection e with e; exact e ▸ hbS))
      have hdl2 : Hid ((ds.set j (.string s)).length = n) := Lib.hid (by rw [List.length_set]; exact hdl.out)
      clear c0 hr f0 hg hbS hdl
      go_wp2
      go_roundw
      case rel => exact ⟨j + 1, _, by omega, by go_num, by rw [show k + (j : Int) + 1 = k + ((j + 1 : Nat) : Int) by omega], hG, hdl2, Hs⟩
      case measure => simp [intOf]; omega
    · obtain rfl : j = n := by omega
      go_wp2
      go_ret
      exact ⟨rfl, hg⟩
end Go.Proofs.Ytgihihnbapnnjaa

/- The laws' helpers on nested data: sizes, copies. Sizes of at most 1048576. -/
import Derived.Test.YtgihihnbapnnjaaFam
import Derived.Test.YtgihihnbapnnjaaApp
namespace Go.Proofs.Ytgihihnbapnnjaa
open Go.RowKit
set_option maxRecDepth 100000
variable {S T : Nat → Prop}

/-- What a size function answers: -1, or what is left, and then p holds. -/
def Sz (w : World) (left : Int) (p : Prop) (e : Ending) (w' : World) : Prop := ∃ m : Int, e = .returned (.int .i64 m) ∧ Below w.heap.size w w' ∧ Hid (m = -1 ∨ (0 ≤ m ∧ m ≤ left ∧ p))
theorem Sz.no {w w' : World} {left : Int} {p : Prop} (h : Below w.heap.size w w') : Sz w left p (.returned (.int .i64 (-1))) w' := ⟨-1, rfl, h, .inl rfl⟩
theorem Sz.yes {w w' : World} {left m : Int} {p : Prop} (h : Below w.heap.size w w') (h0 : 0 ≤ m) (h1 : m ≤ left) (hp : p) : Sz w left p (.returned (.int .i64 m)) w' := ⟨m, rfl, h, .inr ⟨h0, h1, hp⟩⟩

theorem szIntS_c (v : Value) (xs : List Int) (left : Int) (w : World) (h : Ints S w v xs) (h0 : 0 ≤ left) (h1 : left ≤ 1048576) :
    Calls Try.prog 73 #[v, .int .i64 left] w (Sz w left (xs.length ≤ 1048576)) := by
  obtain ⟨a, cap, rfl, hn⟩ := h.shape
  clear h
  by_cases hl : (xs.length : Int) ≤ left
  · go_enter Try.func73, Try.ntmps73
    go_wp2
    go_ret
    exact Sz.yes (Below.refl _ _) (by omega) (by omega) (by omega)
  · go_enter Try.func73, Try.ntmps73
    go_wp2
    go_ret
    exact Sz.no (Below.refl _ _)
theorem szBoolS_c (v : Value) (xs : List Bool) (left : Int) (w : World) (h : Bools S w v xs) (h0 : 0 ≤ left) (h1 : left ≤ 1048576) :
    Calls Try.prog 89 #[v, .int .i64 left] w (Sz w left (xs.length ≤ 1048576)) := by
  obtain ⟨a, cap, rfl, hn⟩ := h.shape
  clear h
  by_cases hl : (xs.length : Int) ≤ left
  · go_enter Try.func89, Try.ntmps89
    go_wp2
    go_ret
    exact Sz.yes (Below.refl _ _) (by omega) (by omega) (by omega)
  · go_enter Try.func89, Try.ntmps89
    go_wp2
    go_ret
    exact Sz.no (Below.refl _ _)
theorem szPartS_c (v : Value) (xs : List (Int × Int)) (left : Int) (w : World) (h : Pairs S w v xs) (h0 : 0 ≤ left) (h1 : left ≤ 1048576) :
    Calls Try.prog 15 #[v, .int .i64 left] w (Sz w left (xs.length ≤ 1048576)) := by
  obtain ⟨a, cap, rfl, hn⟩ := h.shape
  clear h
  by_cases hl : (xs.length : Int) ≤ left
  · go_enter Try.func15, Try.ntmps15
    go_wp2
    go_ret
    exact Sz.yes (Below.refl _ _) (by omega) (by omega) (by omega)
  · go_enter Try.func15, Try.ntmps15
    go_wp2
    go_ret
    exact Sz.no (Below.refl _ _)
theorem szMoveS_c (v : Value) (xs : List (Int × Int × Int)) (left : Int) (w : World) (h : Trips S w v xs) (h0 : 0 ≤ left) (h1 : left ≤ 1048576) :
    Calls Try.prog 72 #[v, .int .i64 left] w (Sz w left (xs.length ≤ 1048576)) := by
  obtain ⟨a, cap, rfl, hn⟩ := h.shape
  clear h
  by_cases hl : (xs.length : Int) ≤ left
  · go_enter Try.func72, Try.ntmps72
    go_wp2
    go_ret
    exact Sz.yes (Below.refl _ _) (by omega) (by omega) (by omega)
  · go_enter Try.func72, Try.ntmps72
    go_wp2
    go_ret
    exact Sz.no (Below.refl _ _)
def smallSS (xss : List (List Int)) : Prop := xss.length ≤ 1048576 ∧ ∀ r ∈ xss, r.length ≤ 1048576
set_option maxHeartbeats 400000 in
theorem szIntSS_c (v : Value) (xss : List (List Int)) (left : Int) (w : World) (h : IntSS S w v xss) (h0 : 0 ≤ left) (h1 : left ≤ 1048576) :
    Calls Try.prog 88 #[v, .int .i64 left] w (Sz w left (smallSS xss)) := by
  obtain ⟨a, cap, rfl, hn⟩ := h.shape
  have H := Lib.hid h; clear h
  by_cases hl : (xss.length : Int) ≤ left
  · go_enter Try.func88, Try.ntmps88
    go_wp2
    go_loopw [1, 5] (fun x i wr => ∃ (k : Nat) (l : Int), k ≤ xss.length ∧ i = .int .i64 k ∧ x = .int .i64 l ∧ 0 ≤ l ∧ l ≤ left ∧ Below w.heap.size w wr ∧ Hid (∀ j (hj : j < xss.length), j < k → xss[j].length ≤ 1048576)) (fun _ i _ => xss.length - (intOf i).toNat)
    case atStart => exact ⟨0, _, by omega, rfl, rfl, by omega, by omega, Below.refl _ _, fun j _ hj => absurd hj (Nat.not_lt_zero _)⟩
    case round =>
      obtain ⟨k, l, hk, rfl, rfl, hl0, hl1, hb, hr⟩ := hrel
      by_cases hlt : k < xss.length
      · obtain ⟨b, off, u, rfl, hc, hu⟩ := (H.out.stay (kpB hb)).at hlt
        have HU := Lib.hid hu; clear hu
        go_wp2_with fail
        refine (szIntS_c u _ l wr HU.out hl0 (by omega)).mono ?_
        rintro e w1 ⟨m, rfl, hb1, hm⟩
        rcases hm.out with rfl | ⟨hm0, hm1, hm2⟩
        · clear hm
          go_wp2
          go_ret
          exact Sz.no (hb.trans (hb1.mono hb.size))
        · have Hm2 := Lib.hid hm2
          clear hm hm2
          go_wp2
          go_roundw
          case rel => exact ⟨k + 1, m, by omega, by go_num, rfl, by omega, by omega, hb.trans (hb1.mono hb.size), fun j hj hjk => by
            rcases Nat.lt_succ_iff_lt_or_eq.1 hjk with h | rfl
            · exact hr.out j hj h
            · exact Hm2.out⟩
          case measure => simp [intOf]; omega
      · go_wp2
        go_ret
        exact Sz.yes hb hl0 hl1 ⟨by omega, fun r hr' => by
          obtain ⟨j, hj, rfl⟩ := List.getElem_of_mem hr'
          exact hr.out j hj (by omega)⟩
  · go_enter Try.func88, Try.ntmps88
    go_wp2
    go_ret
    exact Sz.no (Below.refl _ _)
def smallD (D : DfaD) : Prop := smallSS D.1 ∧ D.2.length ≤ 1048576
set_option maxHeartbeats 400000 in
theorem szDfa_c (vn ve : Value) (D : DfaD) (left : Int) (w : World) (h : DfaR S w vn ve D) (h0 : 0 ≤ left) (h1 : left ≤ 1048576) :
    Calls Try.prog 42 #[.agg #[vn, ve], .int .i64 left] w (Sz w left (smallD D)) := by
  have H := Lib.hid h; clear h
  have hb0 : Below w.heap.size w (w.alloc (.cells #[vn, ve] 59)) := (Below.refl _ _).alloc (Nat.le_refl _) _
  go_enter Try.func42, Try.ntmps42
  go_wp2_with fail
  refine (szIntSS_c vn _ left _ (H.out.1.stay (kpB hb0)) h0 h1).mono ?_
  rintro e w1 ⟨m, rfl, hb1, hm⟩
  have hb2 := hb0.trans (hb1.mono hb0.size)
  have hcell : w1.cell? ⟨w.heap.size, 1, none⟩ = some ve := by
    rw [hb1.cell (p := ⟨w.heap.size, 1, none⟩) (by simp), World.cell?_alloc_mark]; rfl
  clear hb0 hb1
  rcases hm.out with rfl | ⟨hm0, hm1, hm2⟩
  · clear hm
    go_wp2
    go_ret
    exact Sz.no hb2
  · have Hm2 := Lib.hid hm2
    clear hm hm2
    go_wp2_with fail
    refine (szBoolS_c ve _ m _ (H.out.2.stay (kpB hb2)) hm0 (by omega)).mono ?_
    rintro e w2 ⟨m2, rfl, hb3, hk⟩
    have hb4 := hb2.trans (hb3.mono hb2.size)
    clear hcell
    rcases hk.out with rfl | ⟨hk0, hk1, hk2⟩
    · clear hk
      go_wp2
      go_ret
      exact Sz.no hb4
    · clear hk
      go_wp2
      go_ret
      exact Sz.yes hb4 hk0 (by omega) ⟨Hm2.out, hk2⟩
theorem toPart_c (x y : Int) (w : World) : Calls Try.prog 61 #[.agg #[.int .i64 x, .int .i64 y]] w fun e w' => e = .returned (.agg #[.int .i64 x, .int .i64 y]) ∧ Below w.heap.size w w' := by
  go_enter Try.func61, Try.ntmps61
  go_wp2
  refine bodyPost_ret (v := .agg #[.int .i64 x, .int .i64 y]) (by simp [results, Try.results61, go_sem]) rfl ⟨rfl, ?_⟩
  exact (((Below.refl _ _).alloc (Nat.le_refl _) _).alloc (by simp) _).alloc (by simp; omega) _
set_option maxHeartbeats 400000 in
theorem toIntS_c (v : Value) (xs : List Int) (w : World) (h : Ints S w v xs) (hn : xs.length ≤ 1048576) :
    Calls Try.prog 77 #[v] w (RVn w fun v w' => Made w.heap.size w' v xs.length (xs.map (.int .i64 ·))) := by
  obtain ⟨a, cap, rfl, _⟩ := h.shape
  have H := Lib.hid h; clear h
  go_enter Try.func77, Try.ntmps77
  go_wp2_with (at_make; refine makeFull elInt (by decide) rfl (.tmp 6) (.tmp 6) rfl xs.length w rfl rfl (by omega) ?_; intro w1 cs ho hcl hb hlt _)
  have hF := Lib.hid (ownAt ho.out)
  clear ho
  go_loopw [4] (fun i wr => ∃ k : Nat, k ≤ xs.length ∧ i = .int .i64 k ∧ Below w.heap.size w wr ∧ w.heap.size < wr.heap.size ∧ Hid (FlW (· = w.heap.size) wr (.slice (some ⟨w.heap.size, 0, none⟩) xs.length xs.length) xs.length (mkd cs (fun t => .int .i64 (xs.getD t 0)) k))) (fun i _ => xs.length - (intOf i).toNat)
  case atStart => exact ⟨0, by omega, rfl, hb, hlt, by rw [mkd_zero]; exact hF⟩
  case round =>
    obtain ⟨k, hk, rfl, hb, hlt0, hr⟩ := hrel
    clear hF
    by_cases hlt : k < xs.length
    · obtain ⟨b, off, rfl, hca⟩ := (H.out.stay (kpB hb)).at hlt
      have hlen := mkd_length cs (fun t => .int .i64 (xs.getD t 0)) k (by rw [hcl.out]; omega)
      obtain ⟨b', off', e, _, c0, f0⟩ := hr.out.at (i := k) (by rw [hlen, hcl.out]; omega)
      cases e
      have hs := hr.out.set k (.int .i64 (xs.getD k 0)) (by rw [hlen, hcl.out]; omega)
      rw [mkd_set cs (fun t => .int .i64 (xs.getD t 0)) k (by rw [hcl.out]; omega)] at hs
      have Hs := Lib.hid hs; clear hs
      have hxk : xs[k] = xs.getD k 0 := by rw [List.getD_eq_getElem?_getD, List.getElem?_eq_getElem hlt]; rfl
      rw [hxk] at hca
      clear hxk
      obtain ⟨u0, d0⟩ : ∃ u, wr.cell? ⟨w.heap.size, 0 + k, none⟩ = some u := ⟨_, c0⟩
      have g0 := f0 (0 + k)
      rw [Nat.zero_add] at d0 g0 Hs
      have hB : Below w.heap.size w (wr.setCell ⟨w.heap.size, k, none⟩ (.int .i64 (xs.getD k 0))) := hb.setCell (Nat.le_refl _) _
      clear hlen c0 f0 hr hb
      generalize xs.getD k 0 = x at *
      go_wp2
      go_roundw
      case rel => exact ⟨k + 1, by omega, by go_num, hB, by simpa [World.setCell] using hlt0, Hs⟩
      case measure => simp [intOf]; omega
    · obtain rfl : k = xs.length := by omega
      have he : (List.range xs.length).map (fun t => Value.int .i64 (xs.getD t 0)) = xs.map (.int .i64 ·) := by
        apply List.ext_getElem
        · simp
        · intro i h1 h2
          simp at h1
          simp [h1]
      have H2 : Hid (FlW (· = w.heap.size) wr (.slice (some ⟨w.heap.size, 0, none⟩) xs.length xs.length) xs.length (xs.map (.int .i64 ·))) := by
        rw [← he, ← mkd_all cs _ _ (by rw [hcl.out, Nat.mul_one])]; exact hr
      clear he hr
      go_wp2
      go_ret
      exact RVn.mk hb ⟨w.heap.size, Nat.le_refl _, hlt0, H2.out⟩
set_option maxHeartbeats 400000 in
theorem toBoolS_c (v : Value) (xs : List Bool) (w : World) (h : Bools S w v xs) (hn : xs.length ≤ 1048576) :
    Calls Try.prog 93 #[v] w (RVn w fun v w' => Made w.heap.size w' v xs.length (xs.map (.bool ·))) := by
  obtain ⟨a, cap, rfl, _⟩ := h.shape
  have H := Lib.hid h; clear h
  go_enter Try.func93, Try.ntmps93
  go_wp2_with (at_make; refine makeFull elBool (by decide) rfl (.tmp 6) (.tmp 6) rfl xs.length w rfl rfl (by omega) ?_; intro w1 cs ho hcl hb hlt _)
  have hF := Lib.hid (ownAt ho.out)
  clear ho
  go_loopw [4] (fun i wr => ∃ k : Nat, k ≤ xs.length ∧ i = .int .i64 k ∧ Below w.heap.size w wr ∧ w.heap.size < wr.heap.size ∧ Hid (FlW (· = w.heap.size) wr (.slice (some ⟨w.heap.size, 0, none⟩) xs.length xs.length) xs.length (mkd cs (fun t => .bool (xs.getD t false)) k))) (fun i _ => xs.length - (intOf i).toNat)
  case atStart => exact ⟨0, by omega, rfl, hb, hlt, by rw [mkd_zero]; exact hF⟩
  case round =>
    obtain ⟨k, hk, rfl, hb, hlt0, hr⟩ := hrel
    clear hF
    by_cases hlt : k < xs.length
    · obtain ⟨b, off, rfl, hca⟩ := (H.out.stay (kpB hb)).at hlt
      have hlen := mkd_length cs (fun t => .bool (xs.getD t false)) k (by rw [hcl.out]; omega)
      obtain ⟨b', off', e, _, c0, f0⟩ := hr.out.at (i := k) (by rw [hlen, hcl.out]; omega)
      cases e
      have hs := hr.out.set k (.bool (xs.getD k false)) (by rw [hlen, hcl.out]; omega)
      rw [mkd_set cs (fun t => .bool (xs.getD t false)) k (by rw [hcl.out]; omega)] at hs
      have Hs := Lib.hid hs; clear hs
      have hxk : xs[k] = xs.getD k false := by rw [List.getD_eq_getElem?_getD, List.getElem?_eq_getElem hlt]; rfl
      rw [hxk] at hca
      clear hxk
      obtain ⟨u0, d0⟩ : ∃ u, wr.cell? ⟨w.heap.size, 0 + k, none⟩ = some u := ⟨_, c0⟩
      have g0 := f0 (0 + k)
      rw [Nat.zero_add] at d0 g0 Hs
      have hB : Below w.heap.size w (wr.setCell ⟨w.heap.size, k, none⟩ (.bool (xs.getD k false))) := hb.setCell (Nat.le_refl _) _
      clear hlen c0 f0 hr hb
      generalize xs.getD k false = x at *
      go_wp2
      go_roundw
      case rel => exact ⟨k + 1, by omega, by go_num, hB, by simpa [World.setCell] using hlt0, Hs⟩
      case measure => simp [intOf]; omega
    · obtain rfl : k = xs.length := by omega
      have he : (List.range xs.length).map (fun t => Value.bool (xs.getD t false)) = xs.map (.bool ·) := by
        apply List.ext_getElem
        · simp
        · intro i h1 h2
          simp at h1
          simp [h1]
      have H2 : Hid (FlW (· = w.heap.size) wr (.slice (some ⟨w.heap.size, 0, none⟩) xs.length xs.length) xs.length (xs.map (.bool ·))) := by
        rw [← he, ← mkd_all cs _ _ (by rw [hcl.out, Nat.mul_one])]; exact hr
      clear he hr
      go_wp2
      go_ret
      exact RVn.mk hb ⟨w.heap.size, Nat.le_refl _, hlt0, H2.out⟩
set_option maxHeartbeats 800000 in
theorem toPartS_c (v : Value) (xs : List (Int × Int)) (w : World) (h : Pairs S w v xs) (hn : xs.length ≤ 1048576) :
    Calls Try.prog 17 #[v] w (RVn w fun v w' => Made w.heap.size w' v xs.length (cells2 xs)) := by
  obtain ⟨a, cap, rfl, _⟩ := h.shape
  have H := Lib.hid h; clear h
  have hl2 := length_cells2 xs
  go_enter Try.func17, Try.ntmps17
  go_wp2_with (at_make; refine makeFull elPart (by decide) rfl (.tmp 6) (.tmp 6) rfl xs.length w rfl rfl (by omega) ?_; intro w1 cs ho hcl hb hlt _)
  have hF := Lib.hid (ownAt ho.out)
  clear ho
  have Hl2 := Lib.hid hl2; clear hl2
  go_loopw [4] (fun i wr => ∃ k : Nat, k ≤ xs.length ∧ i = .int .i64 k ∧ Below w.heap.size w wr ∧ w.heap.size < wr.heap.size ∧ Hid (FlW (· = w.heap.size) wr (.slice (some ⟨w.heap.size, 0, none⟩) xs.length xs.length) xs.length (mkd cs (fun t => (cells2 xs).getD t undef) (2 * k)))) (fun i _ => xs.length - (intOf i).toNat)
  case atStart => exact ⟨0, by omega, rfl, hb, hlt, by rw [mkd_zero]; exact hF⟩
  case round =>
    obtain ⟨k, hk, rfl, hb, hlt0, hr⟩ := hrel
    clear hF
    by_cases hlt : k < xs.length
    · obtain ⟨b, off, rfl, hca, hca'⟩ := (H.out.stay (kpB hb)).at hlt
      obtain ⟨e0, e1⟩ := flat2_at (fun p : Int × Int => Value.int .i64 p.1) (fun p => Value.int .i64 p.2) xs k hlt
      have E0 := Lib.hid (show (cells2 xs).getD (2 * k) undef = .int .i64 xs[k].1 by rw [List.getD_eq_getElem?_getD]; unfold cells2; rw [e0]; rfl)
      have E1 := Lib.hid (show (cells2 xs).getD (2 * k + 1) undef = .int .i64 xs[k].2 by rw [List.getD_eq_getElem?_getD]; unfold cells2; rw [e1]; rfl)
      clear e0 e1
      generalize xs[k] = xy at *
      obtain ⟨x, y⟩ := xy
      simp only at hca hca' E0 E1
      go_wp2_with fail
      refine (toPart_c x y _).mono ?_
      rintro e w2 ⟨rfl, hb2⟩
      have hbw2 := hb.trans (hb2.mono hb.size)
      have hlt2 := Nat.lt_of_lt_of_le hlt0 hb2.size
      have hr2 := hr.out.stay (ksB hb2)
      have hlen := mkd_length cs (fun t => (cells2 xs).getD t undef) (2 * k) (by rw [hcl.out]; omega)
      have hlen2 := mkd_length cs (fun t => (cells2 xs).getD t undef) (2 * k + 1) (by rw [hcl.out]; omega)
      obtain ⟨b', off', e, _, c0, f0⟩ := hr2.at (i := 2 * k) (by rw [hlen, hcl.out]; omega)
      cases e
      obtain ⟨b', off', e, _, c1, _⟩ := hr2.at (i := 2 * k + 1) (by rw [hlen, hcl.out]; omega)
      cases e
      have hs := hr2.set (2 * k) (.int .i64 x) (by rw [hlen, hcl.out]; omega)
      have q0 := mkd_set cs (fun t => (cells2 xs).getD t undef) (2 * k) (by rw [hcl.out]; omega)
      have q1 := mkd_set cs (fun t => (cells2 xs).getD t undef) (2 * k + 1) (by rw [hcl.out]; omega)
      simp only [E0.out] at q0
      simp only [E1.out] at q1
      rw [q0] at hs
      have hs2 := hs.set (2 * k + 1) (.int .i64 y) (by rw [hlen2, hcl.out]; omega)
      rw [q1] at hs2
      obtain ⟨u0, d0⟩ : ∃ u, w2.cell? ⟨w.heap.size, 0 + 2 * k, none⟩ = some u := ⟨_, c0⟩
      obtain ⟨u1, d1⟩ : ∃ u, w2.cell? ⟨w.heap.size, 0 + (2 * k + 1), none⟩ = some u := ⟨_, c1⟩
      have g0 := f0 (k * 2)
      have g1 := f0 (k * 2 + 1)
      rw [show 0 + 2 * k = k * 2 by omega] at d0 hs2
      rw [show 0 + (2 * k + 1) = k * 2 + 1 by omega] at d1 hs2
      have Hs := Lib.hid hs2
      clear hs2 hs hlen hlen2 c0 c1 f0 hr hr2 q0 q1
      go_wp2
      go_roundw
      case rel => exact ⟨k + 1, by omega, by go_num, (hbw2.setCell (Nat.le_refl _) _).setCell (Nat.le_refl _) _, by simpa [World.setCell] using hlt2, Hs⟩
      case measure => simp [intOf]; omega
    · obtain rfl : k = xs.length := by omega
      have he : (List.range (2 * xs.length)).map (fun t => (cells2 xs).getD t undef) = cells2 xs := by
        rw [← Hl2.out]
        apply List.ext_getElem
        · simp
        · intro i h1 h2
          simp [h2]
      have H2 : Hid (FlW (· = w.heap.size) wr (.slice (some ⟨w.heap.size, 0, none⟩) xs.length xs.length) xs.length (cells2 xs)) := by
        rw [← he, ← mkd_all cs _ _ (by rw [hcl.out]; omega)]; exact hr
      clear he hr
      go_wp2
      go_ret
      exact RVn.mk hb ⟨w.heap.size, Nat.le_refl _, hlt0, H2.out⟩
set_option maxHeartbeats 800000 in
theorem toIntSS_c (v : Value) (xss : List (List Int)) (w : World) (h : IntSS S w v xss) (hn : smallSS xss) :
    Calls Try.prog 92 #[v] w (RVn w fun v w' => IntSSW (fun b => w.heap.size ≤ b ∧ b < w'.heap.size) w' v xss) := by
  obtain ⟨a, cap, rfl, _⟩ := h.shape
  have H := Lib.hid h; clear h
  have hn1 := hn.1
  have hn2 := Lib.hid hn.2
  clear hn
  go_enter Try.func92, Try.ntmps92
  go_wp2_with (at_make; refine makeFull elInts (by decide) rfl (.tmp 6) (.tmp 6) rfl xss.length w rfl rfl (by omega) ?_; intro w1 cs ho hcl hb hlt _)
  have hF := Lib.hid (ownAt ho.out)
  clear ho
  go_loopw [4] (fun i wr => ∃ k : Nat, k ≤ xss.length ∧ i = .int .i64 k ∧ Below w.heap.size w wr ∧ w.heap.size < wr.heap.size ∧ Hid (∃ (g : Nat → Nat) (vs : Nat → Value), FlW (· = w.heap.size) wr (.slice (some ⟨w.heap.size, 0, none⟩) xss.length xss.length) xss.length (mkd cs vs k) ∧
      (∀ i (h : i < xss.length), i < k → (w.heap.size < g i ∧ g i < wr.heap.size) ∧ FlW (· = g i) wr (vs i) (xss[i]).length ((xss[i]).map (.int .i64 ·))) ∧ ∀ i j, i < j → j < k → g i < g j)) (fun i _ => xss.length - (intOf i).toNat)
  case atStart => exact ⟨0, by omega, rfl, hb, hlt, fun _ => 0, fun _ => undef, by rw [mkd_zero]; exact hF, fun i _ h => absurd h (Nat.not_lt_zero _), fun i j _ h => absurd h (Nat.not_lt_zero _)⟩
  case round =>
    obtain ⟨k, hk, rfl, hb, hlt0, hr⟩ := hrel
    clear hF
    by_cases hlt : k < xss.length
    · obtain ⟨b, off, u, rfl, hca, hu⟩ := (H.out.stay (kpB hb)).at hlt
      have HU := Lib.hid hu; clear hu
      have hlk := hn2.out _ (List.getElem_mem hlt)
      go_wp2_with fail
      refine (toIntS_c u _ _ HU.out hlk).mono ?_
      rintro e w2 ⟨v2, rfl, hb2, hm2⟩
      obtain ⟨a2, cap2, rfl, _⟩ := hm2.out.fl.shape
      have hbw2 := hb.trans (hb2.mono hb.size)
      have hlt2 := Nat.lt_of_lt_of_le hlt0 hb2.size
      obtain ⟨g, vs, q1, q2, q3⟩ := hr.out
      obtain ⟨gn, m1, m2, m3⟩ := hm2.out
      have q1' := q1.stay (ksB hb2)
      have hlen := mkd_length cs vs k (by rw [hcl.out]; omega)
      obtain ⟨b', off', e, _, c0, f0⟩ := q1'.at (i := k) (by rw [hlen, hcl.out]; omega)
      cases e
      have hs := q1'.set k (.slice a2 (xss[k]).length cap2) (by rw [hlen, hcl.out]; omega)
      have hvs : mkd cs (fun i => if i = k then .slice a2 (xss[k]).length cap2 else vs i) k = mkd cs vs k := by
        unfold mkd
        congr 1
        apply List.map_congr_left
        intro i hi
        rw [if_neg (by have := List.mem_range.1 hi; omega)]
      have q0 := mkd_set cs (fun i => if i = k then .slice a2 (xss[k]).length cap2 else vs i) k (by rw [hcl.out]; omega)
      rw [hvs] at q0
      simp only [if_true] at q0
      rw [q0] at hs
      obtain ⟨u0, d0⟩ : ∃ u, w2.cell? ⟨w.heap.size, 0 + k, none⟩ = some u := ⟨_, c0⟩
      have g0 := f0 k
      rw [Nat.zero_add] at d0 hs
      have hgo : ∀ b, w.heap.size < b → Ks (· = b) w2 (w2.setCell ⟨w.heap.size, k, none⟩ (.slice a2 (xss[k]).length cap2)) := fun b hb b' e _ => by
        subst e; exact Below.heap_setCell _ _ _ _ (by show b' ≠ w.heap.size; omega)
      have hsz : (w2.setCell ⟨w.heap.size, k, none⟩ (.slice a2 (xss[k]).length cap2)).heap.size = w2.heap.size := by simp [World.setCell]
      have HR : Hid (∃ (g : Nat → Nat) (vs : Nat → Value), FlW (· = w.heap.size) (w2.setCell ⟨w.heap.size, k, none⟩ (.slice a2 (xss[k]).length cap2)) (.slice (some ⟨w.heap.size, 0, none⟩) xss.length xss.length) xss.length (mkd cs vs (k + 1)) ∧
          (∀ i (h : i < xss.length), i < k + 1 → (w.heap.size < g i ∧ g i < (w2.setCell ⟨w.heap.size, k, none⟩ (.slice a2 (xss[k]).length cap2)).heap.size) ∧ FlW (· = g i) (w2.setCell ⟨w.heap.size, k, none⟩ (.slice a2 (xss[k]).length cap2)) (vs i) (xss[i]).length ((xss[i]).map (.int .i64 ·))) ∧ ∀ i j, i < j → j < k + 1 → g i < g j) := by
        refine ⟨fun i => if i = k then gn else g i, fun i => if i = k then .slice a2 (xss[k]).length cap2 else vs i, hs, ?_, ?_⟩
        · intro i hi hik
          by_cases e : i = k
          · subst e
            simp only [if_true, hsz]
            exact ⟨⟨by omega, m2⟩, m3.stay (hgo gn (by omega))⟩
          · simp only [if_neg e, hsz]
            obtain ⟨⟨r1, r2⟩, r3⟩ := q2 i hi (by omega)
            exact ⟨⟨r1, Nat.lt_of_lt_of_le r2 hb2.size⟩, (r3.stay (ksB hb2)).stay (hgo (g i) r1)⟩
        · intro i j hij hjk
          by_cases e : j = k
          · subst e
            simp only [if_true, if_neg (show i ≠ j by omega)]
            have := (q2 i (by omega) (by omega)).1.2
            omega
          · simp only [if_neg e, if_neg (show i ≠ k by omega)]
            exact q3 i j hij (by omega)
      have hB : Below w.heap.size w (w2.setCell ⟨w.heap.size, k, none⟩ (.slice a2 (xss[k]).length cap2)) := hbw2.setCell (Nat.le_refl _) _
      clear hsz hgo hs q0 hvs c0 f0 q1 q1' q2 q3 m1 m2 m3 hr hlen hm2 hb hb2 hbw2
      generalize (xss[k]).length = L at *
      go_wp2
      go_roundw
      case rel => exact ⟨k + 1, by omega, by go_num, hB, by simpa [World.setCell] using hlt2, HR⟩
      case measure => simp [intOf]; omega
    · obtain rfl : k = xss.length := by omega
      obtain ⟨g, vs, q1, q2, q3⟩ := hr.out
      rw [mkd_all cs _ _ (by rw [hcl.out, Nat.mul_one])] at q1
      have HQ : Hid (IntSSW (fun b => w.heap.size ≤ b ∧ b < wr.heap.size) wr (.slice (some ⟨w.heap.size, 0, none⟩) xss.length xss.length) xss) :=
        ⟨w.heap.size, g, vs, ⟨Nat.le_refl _, hlt0⟩, q1, fun i hi => ⟨⟨Nat.le_of_lt (q2 i hi hi).1.1, (q2 i hi hi).1.2⟩, by have := (q2 i hi hi).1.1; omega, (q2 i hi hi).2⟩, fun i j h1 h2 => by have := q3 i j h1 h2; omega⟩
      clear q1 q2 q3 hr
      go_wp2
      go_ret
      exact RVn.mk hb HQ.out
set_option maxHeartbeats 400000 in
theorem toDfa_c (vn ve : Value) (D : DfaD) (w : World) (h : DfaR S w vn ve D) (hn : smallD D) :
    Calls Try.prog 44 #[.agg #[vn, ve]] w fun e w' => ∃ v1 v2, e = .returned (.agg #[v1, v2]) ∧ Below w.heap.size w w' ∧ Hid (DfaW (fun b => w.heap.size ≤ b ∧ b < w'.heap.size) w' v1 v2 D) := by
  have H := Lib.hid h; clear h
  have HN := Lib.hid hn; clear hn
  have hB3 : Below w.heap.size w (((w.alloc (.cells #[vn, ve] 59)).alloc (.cells #[.slice none 0 0, .slice none 0 0] 62)).alloc (.cells #[.slice none 0 0, .slice none 0 0] 62)) :=
    (((Below.refl _ _).alloc (Nat.le_refl _) _).alloc (by simp) _).alloc (by simp; omega) _
  go_enter Try.func44, Try.ntmps44
  go_wp2_with fail
  refine (toIntSS_c vn _ _ (H.out.1.stay (kpB hB3)) HN.out.1).mono ?_
  rintro e w4 ⟨v1, rfl, hb4, hm4⟩
  obtain ⟨a1, cap1, rfl, _⟩ := hm4.out.rd.shape
  have hB4 := hB3.trans (hb4.mono hB3.size)
  have k0 := blkBel hb4 (blkOld (blkOld (blkNew w (.cells #[vn, ve] 59) rfl)))
  have k1 := blkBel hb4 (blkOld (blkNew (w.alloc (.cells #[vn, ve] 59)) (.cells #[.slice none 0 0, .slice none 0 0] 62) (b := w.heap.size + 1) (by simp)))
  have k2 := blkBel hb4 (blkNew ((w.alloc (.cells #[vn, ve] 59)).alloc (.cells #[.slice none 0 0, .slice none 0 0] 62)) (.cells #[.slice none 0 0, .slice none 0 0] 62) (b := w.heap.size + 1 + 1) (by simp))
  generalize hL : D.1.length = L at *
  have HL := Lib.hid hL; clear hL hb4 hB3
  have hB5 : Below w.heap.size w (w4.setCell ⟨w.heap.size + 1 + 1, 0, none⟩ (.slice a1 L cap1)) := hB4.setCell (by show w.heap.size ≤ w.heap.size + 1 + 1; omega) _
  have m1 := Lib.hid (blkSet (o := 0) (v := .slice a1 L cap1) k1 (show w.heap.size + 1 ≠ w.heap.size + 1 + 1 by omega))
  have m2 := Lib.hid (heap_set k2 0 (.slice a1 L cap1))
  have hz : w.heap.size + 1 + 1 < w4.heap.size := (Array.getElem?_eq_some_iff.1 k2).1
  obtain ⟨_, c01, _, _⟩ := blk2 k0
  obtain ⟨c20, _, f20, _⟩ := blk2 k2
  clear k0 k1 k2
  go_wp2_with fail
  refine (toBoolS_c ve _ _ (H.out.2.stay (kpB hB5)) HN.out.2).mono ?_
  rintro e w6 ⟨v2, rfl, hb6, hm6⟩
  obtain ⟨a2, cap2, rfl, _⟩ := hm6.out.fl.shape
  have hB6 := hB5.trans (hb6.mono hB5.size)
  generalize hL2 : D.2.length = L2 at *
  have HL2 := Lib.hid hL2; clear hL2
  obtain ⟨d10, d11, g10, g11⟩ := blk2 (blkBel hb6 m1.out)
  obtain ⟨d20, d21, g20, g21⟩ := blk2 (blkBel hb6 m2.out)
  have hm4' := Lib.hid (hm4.out.stay (w' := w6) (fun b hb hl => by
    have h1 : b < (w4.setCell ⟨w.heap.size + 1 + 1, 0, none⟩ (.slice a1 L cap1)).heap.size := by simp [World.setCell]; exact hl
    rw [hb6.block b h1]
    exact Below.heap_setCell _ _ _ _ (by show b ≠ w.heap.size + 1 + 1; have := hb.1; simp at this; omega)))
  have hsz := hb6.size
  clear hb6 hB5 hB4 c01 c20 f20 m1 m2 hm4
  go_wp2
  refine bodyPost_ret (v := .agg #[.slice a1 L cap1, .slice a2 L2 cap2]) (by simp [results, Try.results44, go_sem, d10, d11, g10, g11]) rfl ⟨_, _, rfl, ?_, ?_⟩
  · exact ((hB6.setCell (by show w.heap.size ≤ w.heap.size + 1 + 1; omega) _).setCell (by show w.heap.size ≤ w.heap.size + 1; omega) _).setCell (by show w.heap.size ≤ w.heap.size + 1; omega) _
  · have hK : ∀ T : Nat → Prop, (∀ b, T b → w.heap.size + 1 + 1 < b) → Ks T w6 (((w6.setCell ⟨w.heap.size + 1 + 1, 1, none⟩ (.slice a2 L2 cap2)).setCell ⟨w.heap.size + 1, 0, none⟩ (.slice a1 L cap1)).setCell ⟨w.heap.size + 1, 1, none⟩ (.slice a2 L2 cap2)) := by
      intro T hT b hb _
      have := hT b hb
      rw [Below.heap_setCell _ _ _ _ (by show b ≠ w.heap.size + 1; omega), Below.heap_setCell _ _ _ _ (by show b ≠ w.heap.size + 1; omega), Below.heap_setCell _ _ _ _ (by show b ≠ w.heap.size + 1 + 1; omega)]
    obtain ⟨q, q1, q2, q3⟩ := hm6.out
    have hsz4 : (w4.setCell ⟨w.heap.size + 1 + 1, 0, none⟩ (.slice a1 L cap1)).heap.size = w4.heap.size := by simp [World.setCell]
    rw [hsz4] at q1 hsz
    have hszE : (((w6.setCell ⟨w.heap.size + 1 + 1, 1, none⟩ (.slice a2 L2 cap2)).setCell ⟨w.heap.size + 1, 0, none⟩ (.slice a1 L cap1)).setCell ⟨w.heap.size + 1, 1, none⟩ (.slice a2 L2 cap2)).heap.size = w6.heap.size := by simp [World.setCell]
    refine ⟨q, ⟨by omega, by rw [hszE]; exact q2⟩, ?_, ?_⟩
    · refine (hm4'.out.stay (hK _ (fun b hb => by have := hb.1; simp at this; omega))).mono (fun b hb => ⟨⟨by have := hb.1; simp at this; omega, by rw [hszE]; have := hb.2; omega⟩, by have := hb.2; omega⟩)
    · rw [HL2.out]
      exact q3.stay (hK _ (fun b e => by subst e; omega))
end Go.Proofs.Ytgihihnbapnnjaa

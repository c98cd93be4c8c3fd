/- Lists of automata: exact sizes, copies that may be written, marks; lists of tokens compared. -/
import Derived.Test.YthdbgpdidolmaaaScn
import Derived.Test.YthdbgpdidolmaaaFa4
import Derived.Test.YthdbgpdidolmaaaTok
namespace Go.Proofs.Ythdbgpdidolmaaa
open Go.RowKit
set_option maxRecDepth 100000
variable {S T : Nat → Prop}
/-- A size check: the answer is -1, or what is left. -/
def Zt (w : World) (left : Int) (n : Nat) (e : Ending) (w' : World) : Prop := ∃ m : Int, e = .returned (.int .i64 m) ∧ Below w.heap.size w w' ∧ Hid (m = -1 ∨ (0 ≤ m ∧ m + n = left))
theorem Zt.no {w w' : World} {left : Int} {n : Nat} (h : Below w.heap.size w w') : Zt w left n (.returned (.int .i64 (-1))) w' := ⟨-1, rfl, h, .inl rfl⟩
theorem Zt.yes {w w' : World} {left m : Int} {n : Nat} (h : Below w.heap.size w w') (h0 : 0 ≤ m) (h1 : m + n = left) : Zt w left n (.returned (.int .i64 m)) w' := ⟨m, rfl, h, .inr ⟨h0, h1⟩⟩
def szT (xss : List (List Int)) : Nat := xss.length + tot xss
def szD (D : DfaD) : Nat := szT D.1 + D.2.length
def totD (Ds : List DfaD) : Nat := (Ds.map szD).sum
theorem totD_take (Ds : List DfaD) {j : Nat} (h : j < Ds.length) : totD (Ds.take (j + 1)) = totD (Ds.take j) + szD Ds[j] := by
  unfold totD
  rw [List.take_succ_eq_append_getElem h, List.map_append, List.sum_append]; simp
theorem totD_le (Ds : List DfaD) (j : Nat) : totD (Ds.take j) ≤ totD Ds := by
  have h : totD Ds = totD (Ds.take j) + totD (Ds.drop j) := by
    unfold totD
    rw [← List.sum_append, ← List.map_append, List.take_append_drop]
  omega
theorem len_tot {xss : List (List Int)} {r : List Int} (h : r ∈ xss) : r.length ≤ tot xss := by
  obtain ⟨j, hj, rfl⟩ := List.getElem_of_mem h
  have h1 := tot_take xss hj
  have h2 := tot_le xss (j + 1)
  omega
theorem sz_totD {Ds : List DfaD} {D : DfaD} (h : D ∈ Ds) : szD D ≤ totD Ds := by
  obtain ⟨j, hj, rfl⟩ := List.getElem_of_mem h
  have h1 := totD_take Ds hj
  have h2 := totD_le Ds (j + 1)
  omega
theorem szD_small {D : DfaD} (h : szD D ≤ 1048576) : smallD D := by
  unfold szD szT at h
  exact ⟨⟨by omega, fun r hr => by have := len_tot hr; omega⟩, by omega⟩
theorem szDS_small {Ds : List DfaD} (h : Ds.length + totD Ds ≤ 1048576) : smallDS Ds := ⟨by omega, fun D hD => szD_small (by have := sz_totD hD; omega)⟩
theorem szIntS_t (v : Value) (xs : List Int) (left : Int) (w : World) (h : Ints S w v xs) (h0 : 0 ≤ left) (h1 : left ≤ 1048576) :
    Calls Try.prog 77 #[v, .int .i64 left] w (Zt w left xs.length) := by
  obtain ⟨a, cap, rfl, hn⟩ := h.shape
  clear h
  by_cases hl : (xs.length : Int) ≤ left
  · go_enter Try.func77, Try.ntmps77
    go_wp2
    go_ret
    exact Zt.yes (Below.refl _ _) (by omega) (by omega)
  · go_enter Try.func77, Try.ntmps77
    go_wp2
    go_ret
    exact Zt.no (Below.refl _ _)
theorem szBoolS_t (v : Value) (xs : List Bool) (left : Int) (w : World) (h : Bools S w v xs) (h0 : 0 ≤ left) (h1 : left ≤ 1048576) :
    Calls Try.prog 63 #[v, .int .i64 left] w (Zt w left xs.length) := by
  obtain ⟨a, cap, rfl, hn⟩ := h.shape
  clear h
  by_cases hl : (xs.length : Int) ≤ left
  · go_enter Try.func63, Try.ntmps63
    go_wp2
    go_ret
    exact Zt.yes (Below.refl _ _) (by omega) (by omega)
  · go_enter Try.func63, Try.ntmps63
    go_wp2
    go_ret
    exact Zt.no (Below.refl _ _)
set_option maxHeartbeats 400000 in
theorem szIntSS_t (v : Value) (xss : List (List Int)) (left : Int) (w : World) (h : IntSS S w v xss) (h0 : 0 ≤ left) (h1 : left ≤ 1048576) :
    Calls Try.prog 62 #[v, .int .i64 left] w (Zt w left (szT xss)) := by
  obtain ⟨a, cap, rfl, hn⟩ := h.shape
  have H := Lib.hid h; clear h
  by_cases hl : (xss.length : Int) ≤ left
  · go_enter Try.func62, Try.ntmps62
    go_wp2
    go_loopw [1, 5] (fun x i wr => ∃ (k : Nat) (l : Int), k ≤ xss.length ∧ i = .int .i64 k ∧ x = .int .i64 l ∧ 0 ≤ l ∧ l ≤ left ∧ Below w.heap.size w wr ∧ Hid (l + (xss.length + tot (xss.take k)) = left)) (fun _ i _ => xss.length - (intOf i).toNat)
    case atStart => exact ⟨0, _, by omega, rfl, rfl, by omega, by omega, Below.refl _ _, by simp [Hid, tot]⟩
    case round =>
      obtain ⟨k, l, hk, rfl, rfl, hl0, hl1, hb, hr⟩ := hrel
      by_cases hlt : k < xss.length
      · obtain ⟨b, off, u, rfl, hc, hu⟩ := (H.out.stay (kpB hb)).at hlt
        have HU := Lib.hid hu; clear hu
        go_wp2_with fail
        refine (szIntS_t u _ l wr HU.out hl0 (by omega)).mono ?_
        rintro e w1 ⟨m, rfl, hb1, hm⟩
        rcases hm.out with rfl | ⟨hm0, hm1⟩
        · clear hm
          go_wp2
          go_ret
          exact Zt.no (hb.trans (hb1.mono hb.size))
        · have Hm1 := Lib.hid hm1
          have htk := Lib.hid (tot_take xss hlt)
          have hml : m ≤ l := by omega
          clear hm hm1
          go_wp2
          go_roundw
          case rel => exact ⟨k + 1, m, by omega, by go_num, rfl, by omega, by omega, hb.trans (hb1.mono hb.size), by have := Hm1.out; have := hr.out; have := htk.out; show m + (xss.length + tot (xss.take (k + 1))) = left; omega⟩
          case measure => simp [intOf]; omega
      · go_wp2
        go_ret
        exact Zt.yes hb hl0 (by have := hr.out; rw [show k = xss.length by omega, List.take_length] at this; unfold szT; omega)
  · go_enter Try.func62, Try.ntmps62
    go_wp2
    go_ret
    exact Zt.no (Below.refl _ _)
set_option maxHeartbeats 400000 in
theorem szDfa_t (vn ve : Value) (D : DfaD) (left : Int) (w : World) (h : DfaR S w vn ve D) (h0 : 0 ≤ left) (h1 : left ≤ 1048576) :
    Calls Try.prog 20 #[.agg #[vn, ve], .int .i64 left] w (Zt w left (szD D)) := by
  have H := Lib.hid h; clear h
  have hb0 : Below w.heap.size w (w.alloc (.cells #[vn, ve] 32)) := (Below.refl _ _).alloc (Nat.le_refl _) _
  go_enter Try.func20, Try.ntmps20
  go_wp2_with fail
  refine (szIntSS_t vn _ left _ (H.out.1.stay (kpB hb0)) h0 h1).mono ?_
  rintro e w1 ⟨m, rfl, hb1, hm⟩
  have hb2 := hb0.trans (hb1.mono hb0.size)
  have hcell : w1.cell? ⟨w.heap.size, 1, none⟩ = some ve := by
    rw [hb1.cell (p := ⟨w.heap.size, 1, none⟩) (by simp), World.cell?_alloc_mark]; rfl
  clear hb0 hb1
  rcases hm.out with rfl | ⟨hm0, hm1⟩
  · clear hm
    go_wp2
    go_ret
    exact Zt.no hb2
  · have Hm2 := Lib.hid hm1
    have hm1' : m ≤ left := by omega
    clear hm hm1
    go_wp2_with fail
    refine (szBoolS_t ve _ m _ (H.out.2.stay (kpB hb2)) hm0 (by omega)).mono ?_
    rintro e w2 ⟨m2, rfl, hb3, hk⟩
    have hb4 := hb2.trans (hb3.mono hb2.size)
    clear hcell
    rcases hk.out with rfl | ⟨hk0, hk1⟩
    · clear hk
      go_wp2
      go_ret
      exact Zt.no hb4
    · clear hk
      go_wp2
      go_ret
      exact Zt.yes hb4 hk0 (by have := Hm2.out; unfold szD; omega)
set_option maxHeartbeats 400000 in
theorem szDfaS_t (v : Value) (Ds : List DfaD) (left : Int) (w : World) (h : DfaS S w v Ds) (h0 : 0 ≤ left) (h1 : left ≤ 1048576) :
    Calls Try.prog 15 #[v, .int .i64 left] w (Zt w left (Ds.length + totD Ds)) := by
  obtain ⟨a, cap, rfl, hn⟩ := h.shape
  have H := Lib.hid h; clear h
  by_cases hl : (Ds.length : Int) ≤ left
  · go_enter Try.func15, Try.ntmps15
    go_wp2
    go_loopw [1, 5] (fun x i wr => ∃ (k : Nat) (l : Int), k ≤ Ds.length ∧ i = .int .i64 k ∧ x = .int .i64 l ∧ 0 ≤ l ∧ l ≤ left ∧ Below w.heap.size w wr ∧ Hid (l + (Ds.length + totD (Ds.take k)) = left)) (fun _ i _ => Ds.length - (intOf i).toNat)
    case atStart => exact ⟨0, _, by omega, rfl, rfl, by omega, by omega, Below.refl _ _, by simp [Hid, totD]⟩
    case round =>
      obtain ⟨k, l, hk, rfl, rfl, hl0, hl1, hb, hr⟩ := hrel
      by_cases hlt : k < Ds.length
      · obtain ⟨b, off, vn, ve, rfl, hc, hc', hu⟩ := (H.out.stay (kpB hb)).at hlt
        obtain ⟨x1, x2, x3, x4, rfl, rfl, _, _⟩ := hu.shapes
        have HU := Lib.hid hu; clear hu
        go_wp2_with fail
        refine (szDfa_t _ _ _ l wr HU.out hl0 (by omega)).mono ?_
        rintro e w1 ⟨m, rfl, hb1, hm⟩
        rcases hm.out with rfl | ⟨hm0, hm1⟩
        · clear hm
          go_wp2
          go_ret
          exact Zt.no (hb.trans (hb1.mono hb.size))
        · have Hm1 := Lib.hid hm1
          have htk := Lib.hid (totD_take Ds hlt)
          have hml : m ≤ l := by omega
          clear hm hm1
          go_wp2
          go_roundw
          case rel => exact ⟨k + 1, m, by omega, by go_num, rfl, by omega, by omega, hb.trans (hb1.mono hb.size), by have := Hm1.out; have := hr.out; have := htk.out; show m + (Ds.length + totD (Ds.take (k + 1))) = left; omega⟩
          case measure => simp [intOf]; omega
      · go_wp2
        go_ret
        exact Zt.yes hb hl0 (by have := hr.out; rw [show k = Ds.length by omega, List.take_length] at this; omega)
  · go_enter Try.func15, Try.ntmps15
    go_wp2
    go_ret
    exact Zt.no (Below.refl _ _)
/-- A slice of automata that may be written: each has blocks of its own. -/
def DfaSW (S : Nat → Prop) (w : World) (v : Value) (Ds : List DfaD) : Prop :=
  ∃ (o : Nat) (lo hi : Nat → Nat) (f : Nat → Value), S o ∧ FlW (· = o) w v Ds.length ((List.range (2 * Ds.length)).map f) ∧
    (∀ i (h : i < Ds.length), (∀ b, lo i ≤ b ∧ b < hi i → S b ∧ b ≠ o) ∧ DfaW (fun b => lo i ≤ b ∧ b < hi i) w (f (2 * i)) (f (2 * i + 1)) Ds[i]) ∧
    ∀ i j, i < j → j < Ds.length → hi i ≤ lo j
theorem DfaSW.rd {w : World} {v : Value} {Ds : List DfaD} (h : DfaSW S w v Ds) : DfaS S w v Ds := by
  obtain ⟨o, lo, hi, f, hS, h1, h2, _⟩ := h
  refine ⟨(List.range Ds.length).map fun i => (f (2 * i), f (2 * i + 1)), ?_, by simp, fun i hi => ?_⟩
  · rw [flat_pairs]; exact h1.fl.mono (fun b e => by subst e; exact hS)
  · have := (h2 i hi).2.rd.mono (T := S) (fun b hb => ((h2 i hi).1 b hb).1)
    simpa [List.getD_eq_getElem?_getD, hi] using this
theorem DfaSW.stay {w w' : World} {v : Value} {Ds : List DfaD} (h : DfaSW S w v Ds) (k : Ks S w w') : DfaSW S w' v Ds := by
  obtain ⟨o, lo, hi, f, hS, h1, h2, h3⟩ := h
  exact ⟨o, lo, hi, f, hS, h1.stay (k.mono fun b e => by subst e; exact hS), fun i hi => ⟨(h2 i hi).1, (h2 i hi).2.stay (k.mono fun b hb => ((h2 i hi).1 b hb).1)⟩, h3⟩
set_option maxHeartbeats 1000000 in
theorem toDfaS_f (v : Value) (Ds : List DfaD) (w : World) (h : DfaS S w v Ds) (hn : smallDS Ds) :
    Calls Try.prog 17 #[v] w (RVn w fun v w' => DfaSW (fun b => w.heap.size ≤ b ∧ b < w'.heap.size) w' v Ds) := by
  obtain ⟨a, cap, rfl, _⟩ := h.shape
  have H := Lib.hid h; clear h
  have hn1 := hn.1
  have hn2 := Lib.hid hn.2
  clear hn
  go_enter Try.func17, Try.ntmps17
  go_wp2_with (at_make; refine makeFull elDfaT (by decide) rfl (.tmp 6) (.tmp 6) rfl Ds.length w rfl rfl (by omega) ?_; intro w1 cs ho hcl hb hlt _)
  have hF := Lib.hid (ownAt ho.out)
  clear ho
  go_loopw [4] (fun i wr => ∃ k : Nat, k ≤ Ds.length ∧ i = .int .i64 k ∧ Below w.heap.size w wr ∧ w.heap.size < wr.heap.size ∧ Hid (∃ (f : Nat → Value) (lo hi : Nat → Nat), FlW (· = w.heap.size) wr (.slice (some ⟨w.heap.size, 0, none⟩) Ds.length Ds.length) Ds.length (mkd cs f (2 * k)) ∧
      (∀ i (h : i < Ds.length), i < k → w.heap.size < lo i ∧ hi i ≤ wr.heap.size ∧ DfaW (fun b => lo i ≤ b ∧ b < hi i) wr (f (2 * i)) (f (2 * i + 1)) Ds[i]) ∧ ∀ i j, i < j → j < k → hi i ≤ lo j)) (fun i _ => Ds.length - (intOf i).toNat)
  case atStart => exact ⟨0, by omega, rfl, hb, hlt, fun _ => undef, fun _ => 0, fun _ => 0, by rw [mkd_zero]; exact hF, fun i _ h => absurd h (Nat.not_lt_zero _), fun i j _ h => absurd h (Nat.not_lt_zero _)⟩
  case round =>
    obtain ⟨k, hk, rfl, hb, hlt0, hr⟩ := hrel
    clear hF
    by_cases hlt : k < Ds.length
    · obtain ⟨b, off, vn, ve, rfl, hca, hca', hu⟩ := (H.out.stay (kpB hb)).at hlt
      obtain ⟨x1, x2, x3, x4, rfl, rfl, _, _⟩ := hu.shapes
      have HU := Lib.hid hu; clear hu
      have hlk := hn2.out _ (List.getElem_mem hlt)
      have Hlk := Lib.hid hlk
      clear hlk
      obtain ⟨D, hD⟩ : ∃ D, D = Ds[k] := ⟨_, rfl⟩
      rw [← hD] at HU Hlk hca hca'
      have HD := Lib.hid hD; clear hD
      go_wp2_with fail
      refine (toDfa_c _ _ D _ HU.out Hlk.out).mono ?_
      rintro e w2 ⟨v1, v2, rfl, hb2, hm2⟩
      obtain ⟨y1, y2, y3, y4, rfl, rfl, _, _⟩ := hm2.out.rd.shapes
      have hbw2 := hb.trans (hb2.mono hb.size)
      have hlt2 := Nat.lt_of_lt_of_le hlt0 hb2.size
      obtain ⟨f, lo, hi, q1, q2, q3⟩ := hr.out
      have q1' := q1.stay (ksB hb2)
      obtain ⟨V1, hV1⟩ : ∃ V, V = Value.slice y1 D.1.length y2 := ⟨_, rfl⟩
      obtain ⟨V2, hV2⟩ : ∃ V, V = Value.slice y3 D.2.length y4 := ⟨_, rfl⟩
      obtain ⟨f', hf'⟩ : ∃ f' : Nat → Value, f' = fun t => if t = 2 * k then V1 else if t = 2 * k + 1 then V2 else f t := ⟨_, rfl⟩
      have hvs : mkd cs f' (2 * k) = mkd cs f (2 * k) := by
        unfold mkd
        congr 1
        apply List.map_congr_left
        intro i hi
        have := List.mem_range.1 hi
        rw [hf']
        simp only
        rw [if_neg (by omega), if_neg (by omega)]
      have hlen := mkd_length cs f' (2 * k) (by rw [hcl.out]; omega)
      have hlen2 := mkd_length cs f' (2 * k + 1) (by rw [hcl.out]; omega)
      rw [← hvs] at q1'
      obtain ⟨b', off', e, _, e0, f0⟩ := q1'.at (i := 2 * k) (by rw [hlen, hcl.out]; omega)
      cases e
      obtain ⟨b', off', e, _, e1, _⟩ := q1'.at (i := 2 * k + 1) (by rw [hlen, hcl.out]; omega)
      cases e
      have hs := q1'.set (2 * k) V1 (by rw [hlen, hcl.out]; omega)
      have q0 := mkd_set cs f' (2 * k) (by rw [hcl.out]; omega)
      have q0' := mkd_set cs f' (2 * k + 1) (by rw [hcl.out]; omega)
      have F0 : f' (2 * k) = V1 := by rw [hf']; simp
      have F1 : f' (2 * k + 1) = V2 := by rw [hf']; simp
      rw [F0] at q0
      rw [F1] at q0'
      rw [q0] at hs
      have hs2 := hs.set (2 * k + 1) V2 (by rw [hlen2, hcl.out]; omega)
      rw [q0'] at hs2
      obtain ⟨u0, d0⟩ : ∃ u, w2.cell? ⟨w.heap.size, 0 + 2 * k, none⟩ = some u := ⟨_, e0⟩
      obtain ⟨u1, d1⟩ : ∃ u, w2.cell? ⟨w.heap.size, 0 + (2 * k + 1), none⟩ = some u := ⟨_, e1⟩
      have g0 := f0 (k * 2)
      have g1 := f0 (k * 2 + 1)
      rw [show 0 + 2 * k = k * 2 by omega] at d0 hs2
      rw [show 0 + (2 * k + 1) = k * 2 + 1 by omega] at d1 hs2
      obtain ⟨W4, hW4⟩ : ∃ W, W = (w2.setCell ⟨w.heap.size, k * 2, none⟩ V1).setCell ⟨w.heap.size, k * 2 + 1, none⟩ V2 := ⟨_, rfl⟩
      have hsz4 : W4.heap.size = w2.heap.size := by rw [hW4]; simp [World.setCell]
      have hgo : Ks (fun b => w.heap.size < b) w2 W4 := fun b hb hl => by
        rw [hW4, Below.heap_setCell _ _ _ _ (by show b ≠ w.heap.size; omega), Below.heap_setCell _ _ _ _ (by show b ≠ w.heap.size; omega)]
      rw [← hW4] at hs2
      have HR : Hid (∃ (f : Nat → Value) (lo hi : Nat → Nat), FlW (· = w.heap.size) W4 (.slice (some ⟨w.heap.size, 0, none⟩) Ds.length Ds.length) Ds.length (mkd cs f (2 * (k + 1))) ∧
          (∀ i (h : i < Ds.length), i < k + 1 → w.heap.size < lo i ∧ hi i ≤ W4.heap.size ∧ DfaW (fun b => lo i ≤ b ∧ b < hi i) W4 (f (2 * i)) (f (2 * i + 1)) Ds[i]) ∧ ∀ i j, i < j → j < k + 1 → hi i ≤ lo j) := by
        refine ⟨f', fun i => if i = k then wr.heap.size else lo i, fun i => if i = k then w2.heap.size else hi i, hs2, fun i hi' hik => ?_, fun i j hij hj => ?_⟩
        · by_cases e : i = k
          · subst e
            dsimp only
            rw [if_pos rfl, if_pos rfl, F0, F1, hsz4]
            refine ⟨hlt0, Nat.le_refl _, ?_⟩
            have := hm2.out.stay (hgo.mono fun b hb => by omega)
            rw [hV1, hV2, ← HD.out]
            exact this
          · dsimp only
            rw [if_neg e, if_neg e, hsz4]
            obtain ⟨a1, a2, a3⟩ := q2 i hi' (by omega)
            have e2 : f' (2 * i) = f (2 * i) := by rw [hf']; simp only; rw [if_neg (by omega), if_neg (by omega)]
            have e3 : f' (2 * i + 1) = f (2 * i + 1) := by rw [hf']; simp only; rw [if_neg (by omega), if_neg (by omega)]
            rw [e2, e3]
            exact ⟨a1, Nat.le_trans a2 hb2.size, (a3.stay (ksB hb2)).stay (hgo.mono fun b hb => by omega)⟩
        · show (if i = k then w2.heap.size else hi i) ≤ (if j = k then wr.heap.size else lo j)
          rw [if_neg (by omega : ¬ i = k)]
          by_cases e : j = k
          · rw [if_pos e]; exact (q2 i (by omega) (by omega)).2.1
          · rw [if_neg e]; exact q3 i j hij (by omega)
      rw [hW4] at HR
      rw [hV1, hV2] at HR
      have hB : Below w.heap.size w ((w2.setCell ⟨w.heap.size, k * 2, none⟩ (.slice y1 D.1.length y2)).setCell ⟨w.heap.size, k * 2 + 1, none⟩ (.slice y3 D.2.length y4)) := (hbw2.setCell (Nat.le_refl _) _).setCell (Nat.le_refl _) _
      clear hgo hs2 hs q0 q0' F0 F1 hf' hvs e0 e1 f0 q1 q1' q2 q3 hsz4 hW4 hr hlen hlen2 hm2 hb hb2 hbw2 hV1 hV2
      go_wp2
      go_roundw
      case rel => exact ⟨k + 1, by omega, by go_num, hB, by simpa [World.setCell] using hlt2, HR⟩
      case measure => simp [intOf]; omega
    · obtain rfl : k = Ds.length := by omega
      obtain ⟨f, lo, hi, q1, q2, q3⟩ := hr.out
      rw [mkd_all cs _ _ (by rw [hcl.out]; omega)] at q1
      have HQ : Hid (DfaSW (fun b => w.heap.size ≤ b ∧ b < wr.heap.size) wr (.slice (some ⟨w.heap.size, 0, none⟩) Ds.length Ds.length) Ds) := by
        refine ⟨w.heap.size, lo, hi, f, ⟨Nat.le_refl _, hlt0⟩, ?_, fun i hi' => ?_, q3⟩
        · rw [show 2 * Ds.length = Ds.length * 2 by omega] at q1 ⊢; exact q1
        · obtain ⟨a1, a2, a3⟩ := q2 i hi' hi'
          exact ⟨fun b hb => ⟨⟨by omega, by omega⟩, by omega⟩, a3⟩
      clear q1 q2 q3 hr
      go_wp2
      go_ret
      exact RVn.mk hb HQ.out
set_option maxHeartbeats 400000 in
theorem eqTokenS_c (v u : Value) (xs : List (Int × Int × Int)) (w : World) (hv : Trips S w v xs) (hu : Trips T w u xs) : Calls Try.prog 52 #[v, u] w (RBn w True) := by
  obtain ⟨a, ca, rfl, hn⟩ := hv.shape
  obtain ⟨b, cb, rfl, _⟩ := hu.shape
  have HV := Lib.hid hv; clear hv
  have HU := Lib.hid hu; clear hu
  have hne := bneS (xs.length : Int)
  go_enter Try.func52, Try.ntmps52
  go_wp2
  go_loopw [5] (fun i wr => ∃ k : Nat, k ≤ xs.length ∧ i = .int .i64 k ∧ Below w.heap.size w wr) (fun i _ => xs.length - (intOf i).toNat)
  case atStart => exact ⟨0, by omega, rfl, Below.refl _ _⟩
  case round =>
    obtain ⟨k, hk, rfl, hb⟩ := hrel
    by_cases hlt : k < xs.length
    · obtain ⟨ba, oa, rfl, hca, hca', hca''⟩ := (HV.out.stay (kpB hb)).at hlt
      obtain ⟨bb, ob, rfl, hcb, hcb', hcb''⟩ := (HU.out.stay (kpB hb)).at hlt
      generalize xs[k] = x at *
      obtain ⟨x, y, z⟩ := x
      go_wp2_with fail
      go_still_tail 8, (by kernel_rfl)
      change wpList _ _ _ _ _ wr.drew
      have hb2 : Below w.heap.size w wr.drew := hb.drew
      generalize wr.drew = w2 at *
      go_wp2_with fail
      refine (eqToken_c x y z _).mono ?_
      rintro e w3 ⟨b, rfl, hb3, hp⟩
      cases b
      · exact (hbF hp trivial).elim
      clear hp
      go_wp2
      go_roundw
      case rel => exact ⟨k + 1, by omega, by go_num, hb2.trans (hb3.mono hb2.size)⟩
      case measure => simp [intOf]; omega
    · go_wp2
      go_ret
      exact RBn.mk hb (by simp)
set_option maxHeartbeats 1000000 in
theorem markDfaS_f (v : Value) (Ds : List DfaD) (k : Int) (w : World) (h : DfaSW S w v Ds) (hk : 0 ≤ k ∧ k ≤ 1000000000000) (hn : Ds.length + totD Ds ≤ 1048576) :
    Calls Try.prog 53 #[v, .int .i64 k] w fun e w' => ∃ m : Int, e = .returned (.int .i64 m) ∧ 0 ≤ m ∧ m ≤ 2000000000000 ∧ Hid (Fr S w w') := by
  obtain ⟨a, cap, rfl, hl⟩ := h.rd.shape
  obtain ⟨o, lo, hi, f, hS, h1, h2, h3⟩ := h
  have H1 := Lib.hid h1; have H2 := Lib.hid h2; have H3 := Lib.hid h3; have HS := Lib.hid hS
  have Hn := Lib.hid hn
  have hnl : Ds.length ≤ 1048576 := by omega
  clear h1 h2 h3 hS hn
  obtain ⟨hk0, hk1⟩ := hk
  go_enter Try.func53, Try.ntmps53
  go_wp2
  go_loopw [1, 5] (fun x i wr => ∃ (j : Nat) (l : Int), j ≤ Ds.length ∧ i = .int .i64 j ∧ x = .int .i64 l ∧ 0 ≤ l ∧ l ≤ 1000000000000 + 1048576 ∧ Hid (l ≤ k + totD (Ds.take j)) ∧ Hid (Fr S w wr) ∧ Hid (FlW (· = o) wr (.slice a Ds.length cap) Ds.length ((List.range (2 * Ds.length)).map f)) ∧
    Hid (∀ i (h : i < Ds.length), j ≤ i → DfaW (fun b => lo i ≤ b ∧ b < hi i) wr (f (2 * i)) (f (2 * i + 1)) Ds[i])) (fun _ i _ => Ds.length - (intOf i).toNat)
  case atStart => exact ⟨0, k, by omega, rfl, rfl, hk0, by omega, by simp [Hid, totD], Fr.refl _, H1.out, fun i hi _ => (H2.out i hi).2⟩
  case round =>
    obtain ⟨j, l, hj, rfl, rfl, hl0, hl1, hlt0, hF, h1, hr⟩ := hrel
    by_cases hlt : j < Ds.length
    · obtain ⟨b, off, rfl, hbo, e0, _⟩ := h1.out.at (i := j * 2) (by simp; omega)
      obtain rfl : b = o := hbo
      obtain ⟨b', off', e, _, e1, _⟩ := h1.out.at (i := j * 2 + 1) (by simp; omega)
      cases e
      have c0 : wr.cell? ⟨b, off + j * 2, none⟩ = some (f (2 * j)) := by rw [e0, List.getElem_map, List.getElem_range, Nat.mul_comm j 2]
      have c1 : wr.cell? ⟨b, off + j * 2 + 1, none⟩ = some (f (2 * j + 1)) := by rw [show off + j * 2 + 1 = off + (j * 2 + 1) by omega, e1, List.getElem_map, List.getElem_range, Nat.mul_comm j 2]
      clear e0 e1
      have hD := hr.out j hlt (Nat.le_refl _)
      obtain ⟨vn, hvn⟩ : ∃ x, x = f (2 * j) := ⟨_, rfl⟩
      obtain ⟨ve, hve⟩ : ∃ x, x = f (2 * j + 1) := ⟨_, rfl⟩
      obtain ⟨D, hDD⟩ : ∃ D, D = Ds[j] := ⟨_, rfl⟩
      have hst := totD_take Ds hlt
      have htl := totD_le Ds (j + 1)
      rw [← hvn] at c0; rw [← hve] at c1
      rw [← hvn, ← hve, ← hDD] at hD
      rw [← hDD] at hst
      have Hvn := Lib.hid hvn; have Hve := Lib.hid hve; have HDD := Lib.hid hDD
      clear hvn hve hDD
      obtain ⟨q, hq, m1, m2⟩ := hD
      obtain ⟨x1, x2, rfl, _⟩ := m1.rd.shape
      obtain ⟨x3, x4, rfl, _⟩ := m2.shape
      have M1 := Lib.hid m1; have M2 := Lib.hid m2
      have Hq := Lib.hid hq
      have Hst := Lib.hid hst; have Htl := Lib.hid htl
      have hszD : tot D.1 + D.2.length ≤ szD D := by unfold szD szT; omega
      have HszD := Lib.hid hszD
      have hsD : szD D ≤ 1048576 := by have := Hn.out; omega
      have HsD := Lib.hid hsD
      have hlb : l + szD D ≤ 1000000000000 + 1048576 := by have := hlt0.out; have := Hn.out; omega
      have Hlb := Lib.hid hlb
      have hll : tot D.1 + D.2.length ≤ 1048576 := by omega
      clear m1 m2 hq hst htl hszD hsD hlb
      go_wp2_with fail
      refine (markIntSS_f _ D.1 l _ M1.out (by omega) (by omega) (fun r hr => by have := len_tot hr; omega)).mono ?_
      rintro e w1 ⟨rfl, hF1, _⟩
      have hko : ∀ w' (g : Nat → Prop), Fr g wr w' → (∀ b, g b → lo j ≤ b ∧ b < hi j) → Ks (fun x => x = b) wr w' := fun w' g hf hg => (hf.mono (T := fun b => lo j ≤ b ∧ b < hi j) hg).ks.mono fun b e => by
        subst e; exact fun hb => ((H2.out j hlt).1 _ hb).2 rfl
      have hko1 := hko w1 _ hF1.out (fun b hb => hb.1)
      have N2 := Lib.hid (M2.out.stay (hF1.out.ks.mono fun b e => by subst e; exact fun hb => hb.2 rfl))
      have h1' := h1.out.stay hko1
      obtain ⟨b', off', e, _, e1, _⟩ := h1'.at (i := j * 2 + 1) (by simp; omega)
      cases e
      have d1 : w1.cell? ⟨b, off + j * 2 + 1, none⟩ = some (.slice x3 D.2.length x4) := by rw [Hve.out, show off + j * 2 + 1 = off + (j * 2 + 1) by omega, e1, List.getElem_map, List.getElem_range, Nat.mul_comm j 2]
      clear e1
      have H1' := Lib.hid h1'
      have Hko := Lib.hid hko
      clear c0 c1 h1' hko hko1 M2
      go_wp2_with fail
      refine (markBoolS_f _ D.2.length _ (l + tot D.1) _ N2.out (by simp) (by omega) (by omega)).mono ?_
      rintro e w2 ⟨rfl, hF2, _⟩
      clear d1
      have hFj : Fr (fun b => lo j ≤ b ∧ b < hi j) wr w2 := (hF1.out.mono fun b hb => hb.1).trans (hF2.out.mono fun b hb => by subst hb; exact Hq.out)
      have HFj := Lib.hid hFj; clear hFj
      have hFS : Hid (Fr S w w2) := hF.out.trans (HFj.out.mono fun b hb => ((H2.out j hlt).1 b hb).1)
      have HN1 := Lib.hid (h1.out.stay (Hko.out w2 _ HFj.out (fun b hb => hb)))
      have HNr : Hid (∀ i (h : i < Ds.length), j + 1 ≤ i → DfaW (fun b => lo i ≤ b ∧ b < hi i) w2 (f (2 * i)) (f (2 * i + 1)) Ds[i]) := fun i hi' hji => (hr.out i hi' (by omega)).stay (HFj.out.ks.mono fun b hb hb' => by
        have := H3.out j i (by omega) hi'; omega)
      clear hF1 hF2 HFj hF h1 hr N2 Hko H1'
      go_wp2
      go_roundw
      case rel => exact ⟨j + 1, l + tot D.1 + D.2.length, by omega, by go_num, rfl, by omega, by have := Hlb.out; have := HszD.out; omega, by have := Hst.out; have := hlt0.out; have := HszD.out; show l + tot D.1 + D.2.length ≤ k + totD (Ds.take (j + 1)); omega, hFS, HN1.out, HNr.out⟩
      case measure => simp [intOf]; omega
    · go_wp2
      go_ret
      exact ⟨l, rfl, hl0, by omega, hF⟩
end Go.Proofs.Ythdbgpdidolmaaa

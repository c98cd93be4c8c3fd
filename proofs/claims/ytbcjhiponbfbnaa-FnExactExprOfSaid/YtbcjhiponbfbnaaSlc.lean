/- slices.Grow of nil, slices.Concat, slices.Clone at the element types of this seat. At most 10^8 elements. -/
import Derived.Test.YtbcjhiponbfbnaaGA
set_option linter.unusedSimpArgs false
set_option linter.unusedVariables false
set_option linter.unusedSectionVars false
namespace Go.Proofs.Ytbcjhiponbfbnaa
open Go.RowKit
set_option maxRecDepth 100000
variable {S : Nat → Prop}
theorem hmt_len {α : Type} (xss : List (List α)) (k : Nat) : (xss.take k).flatten.length = ((xss.take k).map List.length).sum := by rw [List.length_flatten]
theorem sum_take_le {α : Type} (xss : List (List α)) (k : Nat) : ((xss.take k).map List.length).sum ≤ (xss.map List.length).sum := by
  conv => rhs; rw [← List.take_append_drop k xss, List.map_append, List.sum_append]
  omega
theorem sum_take_succ {α : Type} (xss : List (List α)) (k : Nat) (h : k < xss.length) : ((xss.take (k + 1)).map List.length).sum = ((xss.take k).map List.length).sum + (xss[k]).length := by
  rw [List.take_succ_eq_append_getElem h, List.map_append, List.sum_append]; simp
theorem flatten_take_succ {α : Type} (xss : List (List α)) (k : Nat) (h : k < xss.length) : (xss.take (k + 1)).flatten = (xss.take k).flatten ++ xss[k] := by
  rw [List.take_succ_eq_append_getElem h, List.flatten_append]; simp

set_option maxHeartbeats 400000 in
theorem growPart_c (n : Nat) (w : World) (hn : n ≤ 100000000) :
    Calls Try.prog 157 #[.slice none 0 0, .int .i64 n] w (RVn w fun v w' => w'.ownsRow w.heap.size 67 2 v 0 []) := by
  obtain ⟨i, z, hi, hz, h2, h3, h4⟩ := elPart.inf
  rcases Nat.eq_zero_or_pos n with rfl | hpos
  · go_enter Try.func157, Try.ntmps157
    go_wp2
    go_ret
    exact RVn.mk (Below.refl _ _) (World.ownsRow_nil _ _ _ _)
  · have hr := fun ty => Lib.run_append_nil_zeros (P := Try.prog) w 23 3 ty 67 i z .i64 .i64 elPart.ul Try.underlying3 hi hz n hpos (by rw [h2]; omega) (by omega) (by rw [h3]; omega)
    have hcap : n ≤ grownCap w n 0 67 := grownCap_ge _ _ _ _
    have hcm : grownCap w n 0 67 ≤ 9223372036854775807 := by have := grownCap_le_maxLen w n 0 67 (by unfold maxLen; omega); simpa [maxLen] using this
    generalize grownCap w n 0 67 = c at *
    have hzc : (Builtin.zeroCells z.cells n ++ Builtin.zeroCells z.cells (c - n)).size = c * 2 := by
      rw [Array.size_append, size_zeroCells, size_zeroCells, h4, ← Nat.add_mul]; congr 1; omega
    generalize Builtin.zeroCells z.cells n ++ Builtin.zeroCells z.cells (c - n) = zc at *
    have Hz := Lib.hid hzc; clear hzc h4 hz hi h2 h3
    have HR := Lib.hid hr; clear hr
    go_enter Try.func157, Try.ntmps157
    go_wp2_with (at_builtin; refine Lib.wpList_append_run _ rfl (.tmp 20) (.tmp 21) _ _ rfl _ _ rfl rfl _ _ (HR.out _) ?_)
    go_ret
    exact RVn.mk (((Below.refl _ _).alloc (Nat.le_refl _) _).drew) (World.ownsRow_made w zc c (Nat.le_refl _) (by unfold maxLen; omega) Hz.out)
set_option maxHeartbeats 1000000 in
theorem concatPart_c {R : World → Value → (List (Int × Int)) → Prop} (v : Value) (xss : List (List (Int × Int))) (w : World) (h : Nest R S w v xss)
    (hR : ∀ w v x, R w v x → Fl S w v x.length (cells2 x)) (hk : ∀ w w' v x, R w v x → Kp S w w' → R w' v x) (hn : (xss.map List.length).sum ≤ 50000000) :
    Calls Try.prog 139 #[v] w (RVn w fun v w' => OwnP w' w.heap.size v xss.flatten) := by
  obtain ⟨a, cap, rfl, hl⟩ := h.shape
  have H := Lib.hid h; clear h
  have HR := Lib.hid hR; clear hR
  have HK := Lib.hid hk; clear hk
  go_enter Try.func139, Try.ntmps139
  go_wp2
  go_loop [3, 11] (fun s i => ∃ (k m : Nat), k ≤ xss.length ∧ i = .int .i64 k ∧ s = .int .i64 m ∧ Hid (m = ((xss.take k).map List.length).sum)) (fun _ i => xss.length - (intOf i).toNat)
  case atStart => exact ⟨0, 0, by omega, rfl, rfl, rfl⟩
  case round =>
    obtain ⟨k, m, hk, rfl, rfl, hm⟩ := hrel
    have hmb : m ≤ 50000000 := by rw [hm.out]; exact Nat.le_trans (sum_take_le _ _) hn
    by_cases hlt : k < xss.length
    · obtain ⟨b, off, u, rfl, hc, hu⟩ := H.out.at hlt
      have hf := HR.out _ _ _ hu
      have hsn := Lib.hid (sum_take_succ xss k hlt)
      have hsb : (((xss.take (k + 1)).map List.length).sum) ≤ 50000000 := Nat.le_trans (sum_take_le _ _) hn
      rw [hsn.out, ← hm.out] at hsb
      obtain ⟨a', cap', rfl, _⟩ := hf.shape
      clear hf hu
      generalize hL : (xss[k]).length = L at *
      have HL := Lib.hid hL; clear hL
      go_wp2
      go_round
      case rel => exact ⟨k + 1, m + L, by omega, by go_num, by go_num, by show m + L = _; rw [hsn.out, hm.out]⟩
      case measure => simp [intOf]; omega
    · obtain rfl : k = xss.length := by omega
      have hmt : m = (xss.map List.length).sum := by rw [hm.out, List.take_length]
      have Hmt := Lib.hid hmt; clear hmt hm
      clear hn
      go_wp2_with fail
      refine (growPart_c m w (by omega)).mono ?_
      rintro e w1 ⟨v1, rfl, hb1, ho1⟩
      have hbs1 := hb1.size
      go_wp2_with fail
      go_loopw [6, 27] (fun v i wr => ∃ (k : Nat), k ≤ xss.length ∧ i = .int .i64 k ∧ Below w.heap.size w wr ∧ Hid (OwnP wr w.heap.size v (xss.take k).flatten)) (fun _ i _ => xss.length - (intOf i).toNat)
      case atStart => exact ⟨0, by omega, rfl, hb1, ho1⟩
      case round =>
        obtain ⟨k, hk, rfl, hb, ho⟩ := hrel
        have hbs := hb.size
        clear ho1 hbs1 hb1
        by_cases hlt : k < xss.length
        · obtain ⟨b, off, u, rfl, hc, hu⟩ := (H.out.stay (kpB hb) (fun v x hx => HK.out _ _ _ _ hx (kpB hb))).at hlt
          have hf := Lib.hid (HR.out _ _ _ hu)
          have hsn := Lib.hid (flatten_take_succ xss k hlt)
          have hlen : (xss.take k).flatten.length + (xss[k]).length ≤ 50000000 := by
            have e1 := sum_take_le xss (k + 1)
            rw [← hmt_len xss, hsn.out, List.length_append] at e1
            have := Hmt.out
            omega
          clear hu
          go_wp2_with (at_builtin; refine appMany (S := S) elPart (by decide) rfl (.tmp 31) (.tmp 32) rfl w.heap.size u6 u _ (xss[k]).length _ (cells2 xss[k]) wr rfl rfl ho.out hf.out (by rw [length_cells2]; omega) (cells2_one _) (by omega) hbs ?_; intro v2 w2 h2 hg2)
          go_roundw
          case rel => exact ⟨k + 1, by omega, by go_num, hb.grown hg2 hbs (fun k hk => (World.ownsRow.lt ho.out k hk).1), by rw [hsn.out]; unfold OwnP; rw [List.length_append, cells2_append]; exact h2⟩
          case measure => simp [intOf]; omega
        · obtain rfl : k = xss.length := by omega
          have hall : (xss.take xss.length).flatten = xss.flatten := by rw [List.take_length]
          rw [hall] at ho
          clear hall
          go_wp2
          go_ret
          exact RVn.mk hb ho.out
end Go.Proofs.Ytbcjhiponbfbnaa

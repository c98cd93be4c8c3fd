/- WordsExpr: the reference's. -/
import Derived.Test.YtcbhfopabgiiiaaWex
set_option linter.unusedSimpArgs false
set_option linter.unusedVariables false
set_option linter.unusedSectionVars false
namespace Go.Proofs.Ytcbhfopabgiiiaa
open Go.RowKit
set_option maxRecDepth 100000
variable {S T : Nat → Prop}
theorem weX_pos (l : List UInt8) : 0 < (weX l).length := by
  unfold weX
  by_cases h : l = []
  · simp [h]
  · rw [if_neg h]
    cases l with
    | nil => exact absurd rfl h
    | cons a t => simp [weP]
theorem weX_len (l : List UInt8) : (weX l).length ≤ 2 * l.length + 1 := by
  unfold weX
  by_cases h : l = []
  · simp [h]
  · rw [if_neg h]; have := weP_len l; omega
/-- A word. -/
def wOk (s : ByteArray) : Prop := letS s ∧ s.size ≤ 8
/-- The expression of the first words. -/
def wsf (ss : List ByteArray) : Nat → List (Int × Int)
  | 0 => [(1, 0)]
  | k + 1 => if k = 0 then weX (ss.getD k ByteArray.empty).data.toList else wsf ss k ++ weX (ss.getD k ByteArray.empty).data.toList ++ [(5, 0)]
theorem wsf_step (ss : List ByteArray) (k : Nat) : (wsf ss k).length ≤ (wsf ss (k + 1)).length := by
  rcases Nat.eq_zero_or_pos k with rfl | h
  · show 1 ≤ _
    rw [wsf, if_pos rfl]; exact weX_pos _
  · rw [wsf, if_neg (by omega)]; simp
theorem wsf_mono (ss : List ByteArray) {k m : Nat} (h : k ≤ m) : (wsf ss k).length ≤ (wsf ss m).length := by
  induction h with
  | refl => exact Nat.le_refl _
  | step _ ih => exact Nat.le_trans ih (wsf_step ss _)
/-- The words have an expression. -/
def wsP (ss : List ByteArray) : Prop := (∀ s ∈ ss, wOk s) ∧ (wsf ss ss.length).length ≤ 60
open Classical in
noncomputable def wsv (ss : List ByteArray) : List (Int × Int) := if wsP ss then wsf ss ss.length else []
theorem wsv_yes {ss : List ByteArray} (h : wsP ss) : wsv ss = wsf ss ss.length := by unfold wsv; rw [if_pos h]
theorem wsv_no {ss : List ByteArray} (h : ¬ wsP ss) : wsv ss = [] := by unfold wsv; rw [if_neg h]
theorem wsv_len (ss : List ByteArray) : (wsv ss).length ≤ 60 := by
  by_cases h : wsP ss
  · rw [wsv_yes h]; exact h.2
  · rw [wsv_no h]; simp
/-- The call answers a list of parts of its own, and a bool. -/
def RPb (w : World) (Q : Prop) (xs : List (Int × Int)) (e : Ending) (w' : World) : Prop := ∃ v b, e = .returned (.tuple #[v, .bool b]) ∧ Below w.heap.size w w' ∧ Hid (b = true ↔ Q) ∧ Hid (OwnP w' w.heap.size v xs)
set_option maxHeartbeats 1000000 in
theorem sWordsExpr_c (v : Value) (ss : List ByteArray) (w : World) (h : Strs S w v ss) : Calls Try.prog 122 #[v] w (RPb w (wsP ss) (wsv ss)) := by
  obtain ⟨a, cap, rfl, hn⟩ := h.shape
  have H := Lib.hid h; clear h
  obtain ⟨W, hW⟩ : ∃ W, W = w.alloc (.cells #[.int .i64 1, .int .i64 0] 62) := ⟨_, rfl⟩
  have Hb0 : Hid (Below w.heap.size w W) := by rw [hW]; exact (Below.refl _ _).alloc (Nat.le_refl _) _
  have HO : Hid (OwnP W w.heap.size (.slice (some ⟨w.heap.size, 0, none⟩) 1 1) [(1, 0)]) := by rw [hW]; exact ownLit (n := 1) [.int .i64 1, .int .i64 0] (Nat.le_refl _) (by omega) rfl
  have HW := Lib.hid hW; clear hW
  go_enter Try.func122, Try.ntmps122
  go_wp2
  rw [← HW.out]
  go_loopw [4, 5] (fun v i wr => ∃ k : Nat, k ≤ ss.length ∧ i = .int .i64 k ∧ Hid (∀ j (h : j < ss.length), j < k → wOk ss[j]) ∧ (wsf ss k).length ≤ 60 ∧ Hid (Below w.heap.size w wr) ∧ Hid (OwnP wr w.heap.size v (wsf ss k))) (fun _ i _ => ss.length - (intOf i).toNat)
  case atStart => exact ⟨0, by omega, rfl, fun _ _ h => absurd h (Nat.not_lt_zero _), by simp [wsf], Hb0, HO⟩
  case round =>
    obtain ⟨k, hk, rfl, hall, hlen, hb, ho⟩ := hrel
    clear HO Hb0
    by_cases hlt : k < ss.length
    · obtain ⟨b, off, rfl, hc⟩ := (H.out.stay (kpB hb.out)).at hlt
      have hs := H.out.2 _ (List.getElem_mem hlt)
      have hg : Hid (ss.getD k ByteArray.empty = ss[k]) := Lib.hid (by rw [List.getD_eq_getElem?_getD, List.getElem?_eq_getElem hlt]; rfl)
      by_cases hv : wOk ss[k]
      · have hst : wsf ss (k + 1) = if k = 0 then weX ss[k].data.toList else wsf ss k ++ weX ss[k].data.toList ++ [(5, 0)] := by rw [wsf, hg.out]
        have hall' : Hid (∀ j (h : j < ss.length), j < k + 1 → wOk ss[j]) := fun j h hj => by
          rcases Nat.lt_or_ge j k with h1 | h1
          · exact hall.out j h h1
          · obtain rfl : j = k := by omega
            exact hv
        have hmono := wsf_mono ss (show k + 1 ≤ ss.length by omega)
        have Hmono := Lib.hid hmono; clear hmono hall hg
        have hwp := weX_pos ss[k].data.toList
        have hwl := weX_len ss[k].data.toList
        have h8 : ss[k].data.toList.length ≤ 8 := by have := hv.2; simpa using this
        generalize hs0 : ss[k] = s at *
        go_wp2_with fail
        refine (sWordExpr_c s wr hs hv).mono ?_
        rintro x w1 ⟨vx, rfl, hb1, hx⟩
        clear hc hs0
        replace ho := Lib.hid (ho.out.stay hb1)
        replace hx := Lib.hid (ownBase hx.out hb.out.size)
        replace hb := Lib.hid (hb.out.trans (hb1.mono hb.out.size))
        clear hb1 hv hs
        have hbs := hb.out.size
        obtain ⟨ax, cx, hsh, _⟩ := (ownFl hx.out).shape
        subst hsh
        generalize weX s.data.toList = X at *
        obtain ⟨nx, hnx⟩ : ∃ n, n = X.length := ⟨_, rfl⟩
        rw [← hnx] at hx hwp hwl ⊢
        have Hnx := Lib.hid hnx; clear hnx
        rcases Nat.eq_zero_or_pos k with rfl | hpos
        · rw [if_pos rfl] at hst
          have Hst := Lib.hid hst; clear hst
          go_wp2
          go_roundw
          case rel => exact ⟨1, by omega, rfl, hall', by rw [Hst.out, ← Hnx.out]; omega, hb, by rw [Hst.out]; unfold OwnP; rw [← Hnx.out]; exact hx.out⟩
          case measure => simp [intOf]; omega
        · rw [if_neg (by omega)] at hst
          obtain ⟨ny, hny⟩ : ∃ n, n = (wsf ss (k + 1)).length := ⟨_, rfl⟩
          rw [← hny] at Hmono
          have Hny := Lib.hid hny; clear hny
          have hnyl : ny ≤ 78 := by rw [Hny.out, hst]; simp; have := Hnx.out; omega
          have hny1 : (ny : Int) ≤ 78 := by omega
          obtain ⟨wk, hwk⟩ : ∃ x, x = (wsf ss k).length := ⟨_, rfl⟩
          rw [← hwk] at hlen
          have Hwk := Lib.hid hwk; clear hwk
          have Hst := Lib.hid hst; clear hst
          rcases Nat.lt_or_ge 60 ny with hbig | hle
          · have HN : Hid (¬ wsP ss) := fun h => by have := h.2; have := Hmono.out; omega
            have Ho := Lib.hid (wsv_no HN.out)
            go_wp2_with (first | (at_builtin; refine appMany (S := fun b => w.heap.size ≤ b) elPart (by decide) rfl (.tmp 27) (.tmp 28) rfl w.heap.size _ _ (wsf ss k).length nx (cells2 (wsf ss k)) (cells2 X) w1 rfl rfl ho.out (ownFl hx.out).fl (by rw [length_cells2, Hnx.out]; omega) (cells2_one _) (by have := Hwk.out; omega) hbs ?_; intro v2 w2 h2 hg2; have hbs2 := Nat.le_trans hbs hg2.size; have h22 : Hid (OwnP w2 w.heap.size v2 (wsf ss k ++ X)) := Lib.hid (by unfold OwnP; rw [List.length_append, cells2_append, ← Hnx.out]; exact h2.out); have hl2 := Lib.hid (show (wsf ss k ++ X).length ≤ 100 by rw [List.length_append, ← Hnx.out]; have := Hwk.out; omega)) | (at_builtin; refine appPart rfl (.tmp 29) (.tmp 31) rfl w.heap.size _ (wsf ss k ++ X) _ _ _ rfl rfl h22.out (by have := hl2.out; omega) hbs2 ?_; intro v3 w3 h3 hg3; rw [← Hst.out] at h3; obtain ⟨a3, c3, hsh3, _⟩ := (ownFl h3.out).shape; subst hsh3; rw [← Hny.out] at h3 ⊢))
            have hb3 := (hb.out.grown hg2 hbs (fun k hk => (World.ownsRow.lt ho.out k hk).1)).grown hg3 hbs2 (fun k hk => (World.ownsRow.lt h22.out k hk).1)
            have hb4 := hb3.alloc hb3.size (.cells #[] 62)
            refine bodyPost_ret (results_tmp2 rfl _ _ _) rfl ⟨_, _, rfl, hb4, ⟨nofun, fun h => (HN.out h).elim⟩, ?_⟩
            rw [Ho.out]
            exact ownLit (n := 0) [] hb3.size (by omega) rfl
          · go_wp2_with (first | (at_builtin; refine appMany (S := fun b => w.heap.size ≤ b) elPart (by decide) rfl (.tmp 27) (.tmp 28) rfl w.heap.size _ _ (wsf ss k).length nx (cells2 (wsf ss k)) (cells2 X) w1 rfl rfl ho.out (ownFl hx.out).fl (by rw [length_cells2, Hnx.out]; omega) (cells2_one _) (by have := Hwk.out; omega) hbs ?_; intro v2 w2 h2 hg2; have hbs2 := Nat.le_trans hbs hg2.size; have h22 : Hid (OwnP w2 w.heap.size v2 (wsf ss k ++ X)) := Lib.hid (by unfold OwnP; rw [List.length_append, cells2_append, ← Hnx.out]; exact h2.out); have hl2 := Lib.hid (show (wsf ss k ++ X).length ≤ 100 by rw [List.length_append, ← Hnx.out]; have := Hwk.out; omega)) | (at_builtin; refine appPart rfl (.tmp 29) (.tmp 31) rfl w.heap.size _ (wsf ss k ++ X) _ _ _ rfl rfl h22.out (by have := hl2.out; omega) hbs2 ?_; intro v3 w3 h3 hg3; rw [← Hst.out] at h3; obtain ⟨a3, c3, hsh3, _⟩ := (ownFl h3.out).shape; subst hsh3; rw [← Hny.out] at h3 ⊢))
            have hb3 := (hb.out.grown hg2 hbs (fun k hk => (World.ownsRow.lt ho.out k hk).1)).grown hg3 hbs2 (fun k hk => (World.ownsRow.lt h22.out k hk).1)
            go_roundw
            case rel => exact ⟨k + 1, by omega, by go_num, hall', by rw [← Hny.out]; omega, hb3, h3⟩
            case measure => simp [intOf]; omega
      · have HN : Hid (¬ wsP ss) := fun h => hv (h.1 _ (List.getElem_mem hlt))
        have Ho := Lib.hid (wsv_no HN.out)
        have hlk := Lib.hid hlen; clear hlen
        generalize hs0 : ss[k] = s at *
        go_wp2_with fail
        refine (sWordExpr_no s wr hs hv).mono ?_
        rintro x w1 ⟨vx, rfl, hb1, hx⟩
        obtain ⟨ax, cx, hsh, _⟩ := (ownFl hx.out).shape
        subst hsh
        clear hc hs0
        replace hb := Lib.hid (hb.out.trans (hb1.mono hb.out.size))
        have hb4 := Lib.hid (hb.out.alloc hb.out.size (.cells #[] 62))
        have hbs := hb.out.size
        go_wp2
        refine bodyPost_ret (results_tmp2 rfl _ _ _) rfl ⟨_, _, rfl, hb4.out, ⟨nofun, fun h => (HN.out h).elim⟩, ?_⟩
        rw [Ho.out]
        exact ownLit (n := 0) [] hbs (by omega) rfl
    · obtain rfl : k = ss.length := by omega
      have HP : Hid (wsP ss) := ⟨fun s hs => by
        obtain ⟨j, hj, rfl⟩ := List.getElem_of_mem hs
        exact hall.out j hj hj, hlen⟩
      have Ho := Lib.hid (wsv_yes HP.out)
      have hlk := Lib.hid hlen; clear hlen
      go_wp2
      exact bodyPost_ret (results_tmp2 rfl _ _ _) rfl ⟨_, _, rfl, hb.out, ⟨fun _ => HP.out, fun _ => rfl⟩, by rw [Ho.out]; exact ho⟩
end Go.Proofs.Ytcbhfopabgiiiaa

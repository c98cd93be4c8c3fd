/- The places of letters, and whether a list of parts is an expression: the program's answers and the reference's. -/
import Derived.Test.YtnjddneelkdmoaaSta
import Derived.Test.YtnjddneelkdmoaaLae
set_option linter.unusedSimpArgs false
set_option linter.unusedVariables false
set_option linter.unusedSectionVars false
namespace Go.Proofs.Ytnjddneelkdmoaa
open Go.RowKit
set_option maxRecDepth 100000
variable {S T : Nat → Prop}
theorem exprOk_parse (e : List (Int × Int)) : ExprOk e ↔ (∃ t, parse e = some [t]) ∧ e.length ≤ 60 := by
  unfold ExprOk
  rw [dep_parse]
  constructor
  · rintro ⟨h, hl⟩
    refine ⟨?_, hl⟩
    cases hp : parse e with
    | none => rw [hp] at h; simp at h
    | some s =>
      rw [hp] at h
      simp at h
      obtain ⟨t, rfl⟩ := List.length_eq_one_iff.1 h
      exact ⟨t, rfl⟩
  · rintro ⟨⟨t, h⟩, hl⟩
    rw [h]
    exact ⟨rfl, hl⟩
set_option maxHeartbeats 400000 in
theorem ExprValid_c (v : Value) (e : List (Int × Int)) (w : World) (h : Pairs S w v e) : Calls Try.prog 28 #[v] w (RBn w (ExprOk e)) := by
  obtain ⟨a, cap, rfl, hn⟩ := h.shape
  have H := Lib.hid h; clear h
  by_cases hl : e.length ≤ 60
  · have HE := Lib.hid (exprOk_parse e)
    go_enter Try.func28, Try.ntmps28
    go_wp2_with fail
    refine (starts_c _ e w H.out hl).mono ?_
    rintro x w1 ⟨v, rfl, hb, hs⟩
    obtain ⟨vo, ok, rfl, hok, _⟩ := hs.out
    have Hok := Lib.hid hok; clear hok hs
    go_wp2
    go_ret
    exact RBn.mk hb (by rw [HE.out, Hok.out]; exact ⟨fun h => ⟨h, hl⟩, fun h => h.1⟩)
  · have HN : Hid (¬ ExprOk e) := fun h => hl h.2
    have hl' : 60 < e.length := by omega
    go_enter Try.func28, Try.ntmps28
    go_wp2
    go_ret
    exact RBn.mk (Below.refl _ _) ⟨nofun, fun h => absurd h HN.out⟩
/-- The letters among the first parts. -/
def lpk (e : List (Int × Int)) (k : Nat) : List Int := ((List.range k).filter fun i => decide ((e.getD i (0, 0)).1 = 3)).map fun i : Nat => (i : Int)
theorem lpk_step (e : List (Int × Int)) {k : Nat} (h : k < e.length) : lpk e (k + 1) = if e[k].1 = 3 then lpk e k ++ [(k : Int)] else lpk e k := by
  unfold lpk
  rw [List.range_succ, List.filter_append, List.map_append]
  have hg : e.getD k (0, 0) = e[k] := by rw [List.getD_eq_getElem?_getD, List.getElem?_eq_getElem h]; rfl
  by_cases hk : e[k].1 = 3 <;> simp only [List.filter_cons, List.filter_nil, hg, hk] <;> simp
theorem lpk_len (e : List (Int × Int)) (k : Nat) : (lpk e k).length ≤ k := by
  unfold lpk; rw [List.length_map]; exact Nat.le_trans (List.length_filter_le _ _) (by simp)
open Classical in
/-- The places of letters of an expression. -/
noncomputable def lpv (e : List (Int × Int)) : List Int := if ExprOk e then lpk e e.length else []
theorem lpv_yes {e : List (Int × Int)} (h : ExprOk e) : lpv e = lpk e e.length := by unfold lpv; rw [if_pos h]
theorem lpv_no {e : List (Int × Int)} (h : ¬ ExprOk e) : lpv e = [] := by unfold lpv; rw [if_neg h]
theorem lpv_len (e : List (Int × Int)) : (lpv e).length ≤ 60 := by
  by_cases h : ExprOk e
  · rw [lpv_yes h]; exact Nat.le_trans (lpk_len _ _) h.2
  · rw [lpv_no h]; simp
set_option maxHeartbeats 800000 in
theorem LetterPlaces_c (v : Value) (e : List (Int × Int)) (w : World) (h : Pairs S w v e) : Calls Try.prog 36 #[v] w (RVn w fun v w' => OwnI w' w.heap.size v (lpv e)) := by
  obtain ⟨a, cap, rfl, hn⟩ := h.shape
  have H := Lib.hid h; clear h
  go_enter Try.func36, Try.ntmps36
  go_wp2_with fail
  refine (ExprValid_c _ e w H.out).mono ?_
  rintro x w1 ⟨b1, rfl, hb, hv⟩
  cases b1
  · have Ho := Lib.hid (lpv_no (hbF hv)); clear hv
    go_wp2
    go_ret
    exact RVn.mk hb (by rw [Ho.out]; exact OwnI.nil _ _)
  have Ho := Lib.hid (lpv_yes (hbT hv))
  have hl := (hbT hv).2
  clear hv
  have Hb := Lib.hid hb; clear hb
  go_wp2_with fail
  go_loopw [3, 11] (fun v i wr => ∃ k : Nat, k ≤ e.length ∧ i = .int .i64 k ∧ Hid (Below w.heap.size w wr) ∧ Hid (OwnI wr w.heap.size v (lpk e k))) (fun _ i _ => e.length - (intOf i).toNat)
  case atStart => exact ⟨0, by omega, rfl, Hb, OwnI.nil _ _⟩
  case round =>
    obtain ⟨k, hk, rfl, hb, ho⟩ := hrel
    clear Hb
    by_cases hlt : k < e.length
    · obtain ⟨b, off, rfl, c0, c1⟩ := (H.out.stay (kpB hb.out)).at hlt
      have hst := lpk_step e hlt
      have hbs := hb.out.size
      have hB1 : Below wr.heap.size wr (wr.alloc (.cells #[.int .i64 e[k].1, .int .i64 e[k].2] 52)) := (Below.refl _ _).alloc (Nat.le_refl _) _
      have HO1 := Lib.hid (ho.out.stay hB1)
      have HB1 := Lib.hid (hb.out.trans (hB1.mono hbs))
      by_cases h3 : e[k].1 = 3
      · rw [if_pos h3] at hst
        have hst' := Lib.hid hst; clear hst
        have hel := Lib.hid (show (lpk e k).length ≤ 1000000000 from by have := lpk_len e k; omega)
        obtain ⟨w2, hw2⟩ : ∃ x, x = wr.alloc (.cells #[.int .i64 e[k].1, .int .i64 e[k].2] 52) := ⟨_, rfl⟩
        rw [h3] at c0 hw2 HO1 HB1
        rw [← hw2] at HO1 HB1
        have HW2 := Lib.hid hw2; clear hw2 hB1 ho hb h3
        have hbs2 := HB1.out.size
        go_wp2_with (at_builtin; rw [← HW2.out]; refine appInt rfl (.tmp 19) (.tmp 21) rfl w.heap.size _ (lpk e k) _ w2 rfl (by rw [HW2.out, World.size_alloc]; rfl) HO1.out hel.out hbs2 ?_; intro v1 w6 h6 hg6)
        go_roundw
        case rel => exact ⟨k + 1, by omega, by go_num, HB1.out.grown hg6 hbs2 (fun k hk => (World.ownsRow.lt HO1.out k hk).1), by rw [hst'.out]; exact h6.out⟩
        case measure => simp [intOf]; omega
      · rw [if_neg h3] at hst
        have hst' := Lib.hid hst; clear hst hB1 ho hb
        have h3' : (e[k].1 == 3) = false := by simpa using h3
        clear h3
        go_wp2
        go_roundw
        case rel => exact ⟨k + 1, by omega, by go_num, HB1, by rw [hst'.out]; exact HO1.out⟩
        case measure => simp [intOf]; omega
    · obtain rfl : k = e.length := by omega
      go_wp2
      go_ret
      exact RVn.mk hb.out (by rw [Ho.out]; exact ho.out)
set_option maxHeartbeats 800000 in
theorem sLetterPlaces_c (v : Value) (e : List (Int × Int)) (w : World) (h : Pairs S w v e) (hn : e.length ≤ 1048576) : Calls Try.prog 117 #[v] w (RVn w fun v w' => OwnI w' w.heap.size v (lpv e)) := by
  obtain ⟨a, cap, rfl, _⟩ := h.shape
  have H := Lib.hid h; clear h
  obtain ⟨W, hW⟩ : ∃ W, W = w.alloc (.cells #[] 3) := ⟨_, rfl⟩
  have Hb0 : Hid (Below w.heap.size w W) := by rw [hW]; exact (Below.refl _ _).alloc (Nat.le_refl _) _
  have HO : Hid (OwnI W w.heap.size (.slice (some ⟨w.heap.size, 0, none⟩) 0 0) []) := by rw [hW]; exact ownLit (n := 0) [] (Nat.le_refl _) (by omega) rfl
  have HW := Lib.hid hW; clear hW
  go_enter Try.func117, Try.ntmps117
  go_wp2
  rw [← HW.out]
  go_loopw [3, 4] (fun v i wr => ∃ k : Nat, k ≤ e.length ∧ i = .int .i64 k ∧ (0 < k → ExprOk e) ∧ Hid (Below w.heap.size w wr) ∧ Hid (OwnI wr w.heap.size v (lpk e k))) (fun _ i _ => e.length - (intOf i).toNat)
  case atStart => exact ⟨0, by omega, rfl, fun h => absurd h (Nat.lt_irrefl 0), Hb0, HO⟩
  case round =>
    obtain ⟨k, hk, rfl, hpos, hb, ho⟩ := hrel
    have Hpos := Lib.hid hpos; clear hpos HO Hb0
    by_cases hlt : k < e.length
    · obtain ⟨b, off, rfl, c0, c1⟩ := (H.out.stay (kpB hb.out)).at hlt
      go_wp2_with fail
      refine (sExprValid_c _ e wr (H.out.stay (kpB hb.out)) hn).mono ?_
      rintro x w1 ⟨b1, rfl, hb1, hv⟩
      replace ho := Lib.hid (ho.out.stay hb1)
      replace hb := Lib.hid (hb.out.trans (hb1.mono hb.out.size))
      replace c0 := kpB (S := fun _ => True) hb1 _ _ trivial c0
      replace c1 := kpB (S := fun _ => True) hb1 _ _ trivial c1
      clear hb1
      have hbs := hb.out.size
      cases b1
      · have hno := hbF hv
        obtain rfl : k = 0 := by rcases Nat.eq_zero_or_pos k with h | h; exact h; exact (hno (Hpos.out h)).elim
        have Ho := Lib.hid (lpv_no hno); clear hv hno
        go_wp2
        go_ret
        exact RVn.mk hb.out (by rw [Ho.out]; exact ho.out)
      have Hok := Lib.hid (hbT hv); clear hv
      have hst := lpk_step e hlt
      by_cases h3 : e[k].1 = 3
      · rw [if_pos h3] at hst
        have hst' := Lib.hid hst; clear hst
        have hel := Lib.hid (show (lpk e k).length ≤ 1000000000 from by have := lpk_len e k; omega)
        rw [h3] at c0
        clear h3
        go_wp2_with (at_builtin; refine appInt rfl (.tmp 22) (.tmp 24) rfl w.heap.size _ (lpk e k) _ w1 rfl rfl ho.out hel.out hbs ?_; intro v1 w6 h6 hg6)
        go_roundw
        case rel => exact ⟨k + 1, by omega, by go_num, fun _ => Hok.out, hb.out.grown hg6 hbs (fun k hk => (World.ownsRow.lt ho.out k hk).1), by rw [hst'.out]; exact h6.out⟩
        case measure => simp [intOf]; omega
      · rw [if_neg h3] at hst
        have hst' := Lib.hid hst; clear hst
        have h3' : (e[k].1 == 3) = false := by simpa using h3
        clear h3
        go_wp2
        go_roundw
        case rel => exact ⟨k + 1, by omega, by go_num, fun _ => Hok.out, hb, by rw [hst'.out]; exact ho.out⟩
        case measure => simp [intOf]; omega
    · obtain rfl : k = e.length := by omega
      have Ho : Hid (lpv e = lpk e e.length) := by
        by_cases h : ExprOk e
        · exact lpv_yes h
        · rcases Nat.eq_zero_or_pos e.length with h0 | h0
          · have : e = [] := List.eq_nil_of_length_eq_zero h0
            subst this
            exact lpv_no h
          · exact absurd (Hpos.out h0) h
      go_wp2
      go_ret
      exact RVn.mk hb.out (by rw [Ho.out]; exact ho.out)
theorem LetterPlaces_w (v : Value) (e : List (Int × Int)) (w : World) (h : Pairs S w v e) : Calls Try.prog 36 #[v] w (RW (lpv e).length ((lpv e).map (.int .i64 ·)) w) :=
  (LetterPlaces_c v e w h).mono fun _ _ h => rwOf h (fun _ _ h => h)
theorem sLetterPlaces_w (v : Value) (e : List (Int × Int)) (w : World) (h : Pairs S w v e) (hn : e.length ≤ 1048576) : Calls Try.prog 117 #[v] w (RW (lpv e).length ((lpv e).map (.int .i64 ·)) w) :=
  (sLetterPlaces_c v e w h hn).mono fun _ _ h => rwOf h (fun _ _ h => h)
end Go.Proofs.Ytnjddneelkdmoaa

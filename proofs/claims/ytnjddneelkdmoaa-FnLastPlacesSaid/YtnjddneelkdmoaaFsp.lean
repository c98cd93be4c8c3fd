/- The first and the last places: the reference's answers. -/
import Derived.Test.YtnjddneelkdmoaaFtq
import Derived.Test.YtnjddneelkdmoaaLpl
set_option linter.unusedSimpArgs false
set_option linter.unusedVariables false
set_option linter.unusedSectionVars false
namespace Go.Proofs.Ytnjddneelkdmoaa
open Go.RowKit
set_option maxRecDepth 100000
variable {S T : Nat → Prop}
theorem fps_len (t : Re) (f : Int) : (t.fps f).length ≤ t.flat.length := by have := (fps_asc t f).2.2; omega
theorem lps_len (t : Re) (f : Int) : (t.lps f).length ≤ t.flat.length := by have := (lps_asc t f).2.2; omega
open Classical in
/-- The tree of a plain expression. -/
noncomputable def plT (e : List (Int × Int)) : Option Re := if ExprOk e ∧ plainE e then (match parse e with | some [t] => some t | _ => none) else none
theorem plT_yes {e : List (Int × Int)} (h : ExprOk e) (hp : plainE e) : ∃ t : Re, t.wf ∧ t.flat = e ∧ t.flat.length ≤ 60 ∧ plT e = some t := by
  obtain ⟨t, ht, he, hl⟩ := (exprOk_iff e).1 h
  refine ⟨t, ht, he, by rw [he]; exact hl, ?_⟩
  unfold plT
  rw [if_pos ⟨h, hp⟩, ← he, parse_flat ht]
theorem plT_no {e : List (Int × Int)} (h : ¬ (ExprOk e ∧ plainE e)) : plT e = none := by unfold plT; rw [if_neg h]
theorem plT_some {e : List (Int × Int)} {t : Re} (h : plT e = some t) : ExprOk e ∧ plainE e ∧ t.wf ∧ t.flat = e ∧ t.flat.length ≤ 60 := by
  by_cases h1 : ExprOk e ∧ plainE e
  · obtain ⟨t', a, b, c, d⟩ := plT_yes h1.1 h1.2
    rw [h] at d
    cases d
    exact ⟨h1.1, h1.2, a, b, c⟩
  · rw [plT_no h1] at h; cases h
/-- The first places of an expression. -/
noncomputable def fpv (e : List (Int × Int)) : List Int := match plT e with | some t => t.fps 0 | none => []
/-- The last places of an expression. -/
noncomputable def lpw (e : List (Int × Int)) : List Int := match plT e with | some t => t.lps 0 | none => []
theorem fpv_some {e : List (Int × Int)} {t : Re} (h : plT e = some t) : fpv e = t.fps 0 := by unfold fpv; rw [h]
theorem lpw_some {e : List (Int × Int)} {t : Re} (h : plT e = some t) : lpw e = t.lps 0 := by unfold lpw; rw [h]
theorem fpv_none {e : List (Int × Int)} (h : plT e = none) : fpv e = [] := by unfold fpv; rw [h]
theorem lpw_none {e : List (Int × Int)} (h : plT e = none) : lpw e = [] := by unfold lpw; rw [h]
theorem fpv_len (e : List (Int × Int)) : (fpv e).length ≤ 60 := by
  cases h : plT e with
  | none => rw [fpv_none h]; simp
  | some t => rw [fpv_some h]; have := fps_len t 0; have := (plT_some h).2.2.2.2; omega
theorem lpw_len (e : List (Int × Int)) : (lpw e).length ≤ 60 := by
  cases h : plT e with
  | none => rw [lpw_none h]; simp
  | some t => rw [lpw_some h]; have := lps_len t 0; have := (plT_some h).2.2.2.2; omega
set_option maxHeartbeats 800000 in
theorem sFirstPlaces_c (v : Value) (e : List (Int × Int)) (w : World) (h : Pairs S w v e) (hn : e.length ≤ 1048576) : Calls Try.prog 33 #[v] w (RVn w fun v w' => OwnI w' w.heap.size v (fpv e)) := by
  obtain ⟨a, cap, rfl, _⟩ := h.shape
  have H := Lib.hid h; clear h
  go_enter Try.func33, Try.ntmps33
  go_wp2_with fail
  refine (sExprValid_c _ e w H.out hn).mono ?_
  rintro x w1 ⟨b1, rfl, hb1, hv⟩
  cases b1
  · have Ho := Lib.hid (fpv_none (plT_no (fun h => hbF hv h.1))); clear hv
    obtain ⟨W, hW⟩ : ∃ W, W = w1.alloc (.cells #[] 3) := ⟨_, rfl⟩
    have HB : Hid (Below w.heap.size w W) := by rw [hW]; exact hb1.alloc hb1.size _
    have HO : Hid (OwnI W w.heap.size (.slice (some ⟨w1.heap.size, 0, none⟩) 0 0) []) := by rw [hW]; exact ownLit (n := 0) [] hb1.size (by omega) rfl
    have HW := Lib.hid hW; clear hW
    go_wp2
    rw [← HW.out]
    go_ret
    exact RVn.mk HB.out (by rw [Ho.out]; exact HO.out)
  have Hok := Lib.hid (hbT hv); clear hv
  have Hb := Lib.hid hb1; clear hb1
  replace H := Lib.hid (H.out.stay (kpB Hb.out))
  go_wp2_with fail
  refine (l12Plain_c _ e w1 H.out).mono ?_
  rintro x w2 ⟨b1, rfl, hb2, hv⟩
  replace H := Lib.hid (H.out.stay (kpB hb2))
  replace Hb := Lib.hid (Hb.out.trans (hb2.mono Hb.out.size))
  clear hb2
  cases b1
  · have Ho := Lib.hid (fpv_none (plT_no (fun h => hbF hv h.2))); clear hv
    obtain ⟨W, hW⟩ : ∃ W, W = w2.alloc (.cells #[] 3) := ⟨_, rfl⟩
    have HB : Hid (Below w.heap.size w W) := by rw [hW]; exact Hb.out.alloc Hb.out.size _
    have HO : Hid (OwnI W w.heap.size (.slice (some ⟨w2.heap.size, 0, none⟩) 0 0) []) := by rw [hW]; exact ownLit (n := 0) [] Hb.out.size (by omega) rfl
    have HW := Lib.hid hW; clear hW
    go_wp2
    rw [← HW.out]
    go_ret
    exact RVn.mk HB.out (by rw [Ho.out]; exact HO.out)
  obtain ⟨t, ht, he, hl, hT⟩ := plT_yes Hok.out (hbT hv)
  clear hv
  have Ho := Lib.hid (fpv_some hT); clear hT
  have HE : Hid (Pairs S w2 (.slice a e.length cap) t.flat) := Lib.hid (by rw [he]; exact H.out)
  clear he H
  have Hbs := Hb.out.size
  go_wp2_with fail
  refine (l12Ends_c t ht (by omega) _ 0 w2 (by omega) (by omega) HE.out).mono ?_
  rintro x w3 ⟨va, vb, rfl, hb3, Ha, Hb'⟩
  replace Hb := Lib.hid (Hb.out.trans (hb3.mono Hb.out.size))
  have HR : Hid (OwnI w3 w.heap.size va (fpv e)) := Lib.hid (by rw [Ho.out]; exact ownBase Ha.out Hbs)
  go_wp2
  go_ret
  exact RVn.mk Hb.out HR.out
theorem sFirstPlaces_w (v : Value) (e : List (Int × Int)) (w : World) (h : Pairs S w v e) (hn : e.length ≤ 1048576) : Calls Try.prog 33 #[v] w (RW (fpv e).length ((fpv e).map (.int .i64 ·)) w) :=
  (sFirstPlaces_c v e w h hn).mono fun _ _ h => rwOf h (fun _ _ h => h)
set_option maxHeartbeats 800000 in
theorem sLastPlaces_c (v : Value) (e : List (Int × Int)) (w : World) (h : Pairs S w v e) (hn : e.length ≤ 1048576) : Calls Try.prog 39 #[v] w (RVn w fun v w' => OwnI w' w.heap.size v (lpw e)) := by
  obtain ⟨a, cap, rfl, _⟩ := h.shape
  have H := Lib.hid h; clear h
  go_enter Try.func39, Try.ntmps39
  go_wp2_with fail
  refine (sExprValid_c _ e w H.out hn).mono ?_
  rintro x w1 ⟨b1, rfl, hb1, hv⟩
  cases b1
  · have Ho := Lib.hid (lpw_none (plT_no (fun h => hbF hv h.1))); clear hv
    obtain ⟨W, hW⟩ : ∃ W, W = w1.alloc (.cells #[] 3) := ⟨_, rfl⟩
    have HB : Hid (Below w.heap.size w W) := by rw [hW]; exact hb1.alloc hb1.size _
    have HO : Hid (OwnI W w.heap.size (.slice (some ⟨w1.heap.size, 0, none⟩) 0 0) []) := by rw [hW]; exact ownLit (n := 0) [] hb1.size (by omega) rfl
    have HW := Lib.hid hW; clear hW
    go_wp2
    rw [← HW.out]
    go_ret
    exact RVn.mk HB.out (by rw [Ho.out]; exact HO.out)
  have Hok := Lib.hid (hbT hv); clear hv
  have Hb := Lib.hid hb1; clear hb1
  replace H := Lib.hid (H.out.stay (kpB Hb.out))
  go_wp2_with fail
  refine (l12Plain_c _ e w1 H.out).mono ?_
  rintro x w2 ⟨b1, rfl, hb2, hv⟩
  replace H := Lib.hid (H.out.stay (kpB hb2))
  replace Hb := Lib.hid (Hb.out.trans (hb2.mono Hb.out.size))
  clear hb2
  cases b1
  · have Ho := Lib.hid (lpw_none (plT_no (fun h => hbF hv h.2))); clear hv
    obtain ⟨W, hW⟩ : ∃ W, W = w2.alloc (.cells #[] 3) := ⟨_, rfl⟩
    have HB : Hid (Below w.heap.size w W) := by rw [hW]; exact Hb.out.alloc Hb.out.size _
    have HO : Hid (OwnI W w.heap.size (.slice (some ⟨w2.heap.size, 0, none⟩) 0 0) []) := by rw [hW]; exact ownLit (n := 0) [] Hb.out.size (by omega) rfl
    have HW := Lib.hid hW; clear hW
    go_wp2
    rw [← HW.out]
    go_ret
    exact RVn.mk HB.out (by rw [Ho.out]; exact HO.out)
  obtain ⟨t, ht, he, hl, hT⟩ := plT_yes Hok.out (hbT hv)
  clear hv
  have Ho := Lib.hid (lpw_some hT); clear hT
  have HE : Hid (Pairs S w2 (.slice a e.length cap) t.flat) := Lib.hid (by rw [he]; exact H.out)
  clear he H
  have Hbs := Hb.out.size
  go_wp2_with fail
  refine (l12Ends_c t ht (by omega) _ 0 w2 (by omega) (by omega) HE.out).mono ?_
  rintro x w3 ⟨va, vb, rfl, hb3, Ha, Hb'⟩
  replace Hb := Lib.hid (Hb.out.trans (hb3.mono Hb.out.size))
  have HR : Hid (OwnI w3 w.heap.size vb (lpw e)) := Lib.hid (by rw [Ho.out]; exact ownBase Hb'.out Hbs)
  go_wp2
  go_ret
  exact RVn.mk Hb.out HR.out
theorem sLastPlaces_w (v : Value) (e : List (Int × Int)) (w : World) (h : Pairs S w v e) (hn : e.length ≤ 1048576) : Calls Try.prog 39 #[v] w (RW (lpw e).length ((lpw e).map (.int .i64 ·)) w) :=
  (sLastPlaces_c v e w h hn).mono fun _ _ h => rwOf h (fun _ _ h => h)
end Go.Proofs.Ytnjddneelkdmoaa

/- The smallest automaton of two side by side: the program's. -/
import Derived.Test.YtofamhgkiipagaaPrd
namespace Go.Proofs.Ytofamhgkiipagaa
open Go.RowKit
set_option maxRecDepth 100000
variable {S T : Nat → Prop}
/-- The smallest automaton, if at most 40 pairs are met. -/
noncomputable def sbD (g : Bool → Bool → Bool) (A B : DfaD) : DfaD := orNo (¬ pbig A B 40) (canon (lg (pn A B) (pe g A B) (0, 0)))
theorem prD_pos {g : Bool → Bool → Bool} {A B : DfaD} (hA : okD A) (hB : okD B) : prD g A B = sbD g A B := by
  unfold prD sbD
  by_cases h : pbig A B 40
  · rw [orNo_neg (fun hh : prP A B => hh.2.2 h), orNo_neg (fun hh => hh h)]
  · rw [orNo_pos (p := prP A B) ⟨hA, hB, h⟩, orNo_pos h]
theorem prD_neg {g : Bool → Bool → Bool} {A B : DfaD} (h : ¬ (okD A ∧ okD B)) : prD g A B = ([], []) := orNo_neg (p := prP A B) (fun hh => h ⟨hh.1, hh.2.1⟩) _
def gBoth (x y : Bool) : Bool := x && y
def gEither (x y : Bool) : Bool := x || y
def gLess (x y : Bool) : Bool := x && !y
def gApart (x y : Bool) : Bool := x != y
set_option maxHeartbeats 1000000 in
theorem sideBySide_c (g : Bool → Bool → Bool) (fE : FuncId) (cE : Array Value) (vn ve un ue : Value) (A B : DfaD) (w : World) (h : DfaR S w vn ve A) (h' : DfaR T w un ue B) (hA : okD A) (hB : okD B)
    (hbE : HasBody fE) (hE : ∀ x y w, Calls Try.prog fE (#[.bool x, .bool y] ++ cE) w (RB w (g x y = true))) :
    Calls Try.prog 117 #[.agg #[vn, ve], .agg #[un, ue], .func (.func fE) #[] cE] w (RDb (sbD g A B) (¬ pbig A B 40) w) := by
  obtain ⟨a, ca, b, d, rfl, rfl, hn, hm1⟩ := h.shapes
  obtain ⟨a', ca', b', d', rfl, rfl, hn', hm1'⟩ := h'.shapes
  obtain ⟨W, hW⟩ : ∃ W, W = ((w.alloc (.cells #[.slice a A.1.length ca, .slice b A.2.length d] 42)).alloc (.cells #[.slice a' B.1.length ca', .slice b' B.2.length d'] 42)).alloc (.cells #[.slice none 0 0, .slice none 0 0] 42) := ⟨_, rfl⟩
  have Hb0 : Hid (Below w.heap.size w W) := by rw [hW]; exact (((Below.refl _ _).alloc (Nat.le_refl _) _).alloc (by simp) _).alloc (by simp; omega) _
  have K4 : Hid (W.heap[w.heap.size]? = some (.cells #[.slice a A.1.length ca, .slice b A.2.length d] 42 (0, 0))) := by rw [hW]; exact blkOld (blkOld (blkNew _ _ rfl))
  have K5 : Hid (W.heap[w.heap.size + 1]? = some (.cells #[.slice a' B.1.length ca', .slice b' B.2.length d'] 42 (0, 0))) := by rw [hW]; exact blkOld (blkNew _ _ (by simp))
  have K6 : Hid (W.heap[w.heap.size + 2]? = some (.cells #[.slice none 0 0, .slice none 0 0] 42 (0, 0))) := by rw [hW]; exact blkNew _ _ (by simp)
  have hzW := (Array.getElem?_eq_some_iff.1 K6.out).1
  have H := Lib.hid (h.stay (kpB Hb0.out))
  have H' := Lib.hid (h'.stay (kpB Hb0.out))
  have HW := Lib.hid hW
  clear h h' hW
  obtain ⟨c0, c1, _, _⟩ := blk2 K4.out
  obtain ⟨e0, e1, _, _⟩ := blk2 K5.out
  rw [HW.out] at c0 c1 e0 e1
  have HC := Lib.hid (product_c g 40 fE cE _ _ _ _ A B W H.out H'.out hA hB hbE hE (by omega))
  clear hA hB hbE hE H H' K4 K5
  go_enter Try.func117, Try.ntmps117
  go_wp2_with fail
  clear c0 c1 e0 e1
  rw [← HW.out]
  refine HC.out.mono ?_
  rintro e w2 ⟨vN, vE, vM, ok, rfl, hb2, hx⟩
  have KR := Lib.hid (blkBel hb2 K6.out)
  have hB2 := Lib.hid (Hb0.out.trans (hb2.mono Hb0.out.size))
  have hz2 := hb2.size
  clear HC K6 HW hb2
  rcases hx.out with ⟨rfl, k, h1, h2, h3, _⟩ | ⟨rfl, rfl, rfl, _, h4⟩
  · have hno : ¬ pbig A B 40 := pbig_not h1 h2
    have HN := Lib.hid hno
    have Hok := Lib.hid (pair_ok (g := g) h1 h2)
    have Hlg := Lib.hid (pair_lg (g := g) h1)
    have HD3 := Lib.hid h3
    clear hx h1 h2 h3 hno
    generalize autD (pn A B) (pe g A B) (rnd (pn A B) (0, 0) k) = X at *
    obtain ⟨a1, ca1, b1, cb1, rfl, rfl, _, _⟩ := HD3.out.rd.shapes
    obtain ⟨W3, hW3⟩ : ∃ W3, W3 = w2.alloc (.cells #[.slice a1 X.1.length ca1, .slice b1 X.2.length cb1] 42) := ⟨_, rfl⟩
    have hb3 : Below w2.heap.size w2 W3 := by rw [hW3]; exact (Below.refl _ _).alloc (Nat.le_refl _) _
    have K8 : Hid (W3.heap[w2.heap.size]? = some (.cells #[.slice a1 X.1.length ca1, .slice b1 X.2.length cb1] 42 (0, 0))) := by rw [hW3]; exact blkNew _ _ rfl
    have HX3 := Lib.hid (HD3.out.rd.stay (kpB hb3))
    have KR3 := Lib.hid (blkBel hb3 KR.out)
    have hB3 := Lib.hid (hB2.out.trans (hb3.mono hB2.out.size))
    have hz3 := hb3.size
    have HW3 := Lib.hid hW3
    obtain ⟨d0, d1, _, _⟩ := blk2 K8.out
    rw [HW3.out] at d0 d1
    clear hW3 hb3 KR HD3
    go_wp2_with fail
    clear d0 d1
    rw [← HW3.out]
    refine (minimize_c _ _ X W3 HX3.out Hok.out).mono ?_
    rintro e w6 ⟨r1, r2, rfl, hb6, hd⟩
    rw [Hlg.out] at hd
    have Hsb : Hid (sbD g A B = canon (lg (pn A B) (pe g A B) (0, 0))) := orNo_pos HN.out _
    generalize canon (lg (pn A B) (pe g A B) (0, 0)) = C at *
    obtain ⟨a1, ca1, b1, cb1, rfl, rfl, _, _⟩ := hd.out.rd.shapes
    have KR := Lib.hid (blkBel hb6 KR3.out)
    have HBR := Lib.hid (hB3.out.trans (hb6.mono hB3.out.size))
    have hsz6 := hb6.size
    clear hb6 Hok Hlg HX3 K8 HW3
    obtain ⟨z0, z1, y0, y1⟩ := blk2 KR.out
    go_wp2
    have f0 := cell_setOther (o := 1) (u := .slice b1 C.2.length cb1) (cell_setSame (u := .slice a1 C.1.length ca1) z0) (by omega)
    have f1 := cell_setSame (u := .slice b1 C.2.length cb1) (cell_setOther (o := 0) (u := .slice a1 C.1.length ca1) z1 (by omega))
    refine bodyPost_ret (v := .tuple #[.agg #[.slice a1 C.1.length ca1, .slice b1 C.2.length cb1], .bool true]) (by simp [results, Try.results117, go_sem, f0, f1]) rfl ?_
    rw [Hsb.out]
    exact RDb.fin HBR.out (by omega) ⟨fun _ => HN.out, fun _ => rfl⟩ (hd.out.mono (fun x hx => ⟨⟨by omega, hx.2⟩, by omega⟩))
  · have hno : Hid (¬ ¬ pbig A B 40) := fun h => h h4
    have Hsb : Hid (sbD g A B = ([], [])) := orNo_neg hno.out _
    have HBR := Lib.hid (hB2.out.alloc hB2.out.size (.cells #[.slice none 0 0, .slice none 0 0] 42))
    replace KR := Lib.hid (blkOld (o := .cells #[.slice none 0 0, .slice none 0 0] 42) KR.out)
    have hzA : (w2.alloc (.cells #[.slice none 0 0, .slice none 0 0] 42)).heap.size = w2.heap.size + 1 := World.size_alloc _ _
    have HzA := Lib.hid hzA
    clear hzA
    clear hx
    obtain ⟨z0, z1, y0, y1⟩ := blk2 KR.out
    go_wp2
    have f0 := cell_setOther (o := 1) (u := .slice none 0 0) (cell_setSame (u := .slice none 0 0) z0) (by omega)
    have f1 := cell_setSame (u := .slice none 0 0) (cell_setOther (o := 0) (u := .slice none 0 0) z1 (by omega))
    refine bodyPost_ret (v := .tuple #[.agg #[.slice none 0 0, .slice none 0 0], .bool false]) (by simp [results, Try.results117, go_sem, f0, f1]) rfl ?_
    rw [Hsb.out]
    have hzA := HzA.out
    refine RDb.fin HBR.out (by omega) ⟨nofun, fun h => absurd h hno.out⟩ (dfaNil (q := w.heap.size) ⟨⟨Nat.le_refl _, by omega⟩, by omega⟩ ⟨w.heap.size + 1, ⟨⟨by omega, by omega⟩, by omega⟩, by omega⟩)
set_option maxHeartbeats 1000000 in
theorem sided_c (g : Bool → Bool → Bool) (fE : FuncId) (cE : Array Value) (vn ve un ue : Value) (A B : DfaD) (w : World) (h : DfaR S w vn ve A) (h' : DfaR T w un ue B)
    (hbE : HasBody fE) (hE : ∀ x y w, Calls Try.prog fE (#[.bool x, .bool y] ++ cE) w (RB w (g x y = true))) :
    Calls Try.prog 88 #[.agg #[vn, ve], .agg #[un, ue], .func (.func fE) #[] cE] w (RDb (prD g A B) (prP A B) w) := by
  obtain ⟨a, ca, b, d, rfl, rfl, hn, hm1⟩ := h.shapes
  obtain ⟨a', ca', b', d', rfl, rfl, hn', hm1'⟩ := h'.shapes
  obtain ⟨W, hW⟩ : ∃ W, W = ((w.alloc (.cells #[.slice a A.1.length ca, .slice b A.2.length d] 42)).alloc (.cells #[.slice a' B.1.length ca', .slice b' B.2.length d'] 42)).alloc (.cells #[.slice none 0 0, .slice none 0 0] 42) := ⟨_, rfl⟩
  have Hb0 : Hid (Below w.heap.size w W) := by rw [hW]; exact (((Below.refl _ _).alloc (Nat.le_refl _) _).alloc (by simp) _).alloc (by simp; omega) _
  have K4 : Hid (W.heap[w.heap.size]? = some (.cells #[.slice a A.1.length ca, .slice b A.2.length d] 42 (0, 0))) := by rw [hW]; exact blkOld (blkOld (blkNew _ _ rfl))
  have K5 : Hid (W.heap[w.heap.size + 1]? = some (.cells #[.slice a' B.1.length ca', .slice b' B.2.length d'] 42 (0, 0))) := by rw [hW]; exact blkOld (blkNew _ _ (by simp))
  have K6 : Hid (W.heap[w.heap.size + 2]? = some (.cells #[.slice none 0 0, .slice none 0 0] 42 (0, 0))) := by rw [hW]; exact blkNew _ _ (by simp)
  have hzW := (Array.getElem?_eq_some_iff.1 K6.out).1
  have H := Lib.hid (h.stay (kpB Hb0.out))
  have H' := Lib.hid (h'.stay (kpB Hb0.out))
  have HW := Lib.hid hW
  clear h h' hW
  obtain ⟨c0, c1, _, _⟩ := blk2 K4.out
  obtain ⟨e0, e1, _, _⟩ := blk2 K5.out
  rw [HW.out] at c0 c1 e0 e1
  have HbE := Lib.hid hbE
  have HE := Lib.hid hE
  clear hbE hE
  go_enter Try.func88, Try.ntmps88
  go_wp2_with fail
  clear c0 c1 e0 e1
  rw [← HW.out]
  refine (DfaValid_c _ _ A W H.out).mono ?_
  rintro e w1 ⟨ok, rfl, hb1, hok⟩
  have hB1 := Lib.hid (Hb0.out.trans (hb1.mono Hb0.out.size))
  have KR := Lib.hid (blkBel hb1 K6.out)
  have K51 := Lib.hid (blkBel hb1 K5.out)
  have K41 := Lib.hid (blkBel hb1 K4.out)
  have H1 := Lib.hid (H.out.stay (kpB hb1))
  have H1' := Lib.hid (H'.out.stay (kpB hb1))
  have hz1 := hb1.size
  clear hb1 K6 K5 K4 H H' HW
  obtain ⟨c0, c1, _, _⟩ := blk2 K41.out
  obtain ⟨e0, e1, _, _⟩ := blk2 K51.out
  cases ok
  · have hno : Hid (¬ prP A B) := fun h => hbF hok h.1
    have hnA := Lib.hid (hbF hok)
    have HBR := hB1
    clear hok
    obtain ⟨z0, z1, y0, y1⟩ := blk2 KR.out
    go_wp2
    have f0 := cell_setOther (o := 1) (u := .slice none 0 0) (cell_setSame (u := .slice none 0 0) z0) (by omega)
    have f1 := cell_setSame (u := .slice none 0 0) (cell_setOther (o := 0) (u := .slice none 0 0) z1 (by omega))
    refine bodyPost_ret (v := .tuple #[.agg #[.slice none 0 0, .slice none 0 0], .bool false]) (by simp [results, Try.results88, go_sem, f0, f1]) rfl ?_
    rw [prD_neg (fun h => hnA.out h.1)]
    refine RDb.fin HBR.out (by omega) ⟨nofun, fun h => absurd h hno.out⟩ (dfaNil (q := w.heap.size) ⟨⟨Nat.le_refl _, by omega⟩, by omega⟩ ⟨w.heap.size + 1, ⟨⟨by omega, by omega⟩, by omega⟩, by omega⟩)
  · have hyA := Lib.hid (hbT hok)
    clear hok
    go_wp2_with fail
    clear c0 c1 e0 e1
    refine (DfaValid_c _ _ B w1 H1'.out).mono ?_
    rintro e w2 ⟨ok, rfl, hb2, hok⟩
    have hB2 := Lib.hid (hB1.out.trans (hb2.mono hB1.out.size))
    have KR2 := Lib.hid (blkBel hb2 KR.out)
    have K52 := Lib.hid (blkBel hb2 K51.out)
    have K42 := Lib.hid (blkBel hb2 K41.out)
    have H2 := Lib.hid (H1.out.stay (kpB hb2))
    have H2' := Lib.hid (H1'.out.stay (kpB hb2))
    have hz2 := hb2.size
    clear hb2 KR K51 K41 H1 H1' hB1
    obtain ⟨c0, c1, _, _⟩ := blk2 K42.out
    obtain ⟨e0, e1, _, _⟩ := blk2 K52.out
    cases ok
    · have hno : Hid (¬ prP A B) := fun h => hbF hok h.2.1
      have hnB := Lib.hid (hbF hok)
      have HBR := hB2
      have KR := KR2
      clear hok
      obtain ⟨z0, z1, y0, y1⟩ := blk2 KR.out
      go_wp2
      have f0 := cell_setOther (o := 1) (u := .slice none 0 0) (cell_setSame (u := .slice none 0 0) z0) (by omega)
      have f1 := cell_setSame (u := .slice none 0 0) (cell_setOther (o := 0) (u := .slice none 0 0) z1 (by omega))
      refine bodyPost_ret (v := .tuple #[.agg #[.slice none 0 0, .slice none 0 0], .bool false]) (by simp [results, Try.results88, go_sem, f0, f1]) rfl ?_
      rw [prD_neg (fun h => hnB.out h.2)]
      refine RDb.fin HBR.out (by omega) ⟨nofun, fun h => absurd h hno.out⟩ (dfaNil (q := w.heap.size) ⟨⟨Nat.le_refl _, by omega⟩, by omega⟩ ⟨w.heap.size + 1, ⟨⟨by omega, by omega⟩, by omega⟩, by omega⟩)
    · have hyB := Lib.hid (hbT hok)
      clear hok
      go_wp2_with fail
      clear c0 c1 e0 e1
      refine (sideBySide_c g fE cE _ _ _ _ A B w2 H2.out H2'.out hyA.out hyB.out HbE.out HE.out).mono ?_
      rintro e w6 ⟨r1, r2, bq, rfl, hb6, hp, hd⟩
      have Hpd := Lib.hid (prD_pos (g := g) hyA.out hyB.out)
      have Hpp : Hid (bq = true ↔ prP A B) := hp.out.trans ⟨fun h => ⟨hyA.out, hyB.out, h⟩, fun h => h.2.2⟩
      generalize sbD g A B = C at *
      obtain ⟨a1, ca1, b1, cb1, rfl, rfl, _, _⟩ := hd.out.rd.shapes
      have KR := Lib.hid (blkBel hb6 KR2.out)
      have HBR := Lib.hid (hB2.out.trans (hb6.mono hB2.out.size))
      have hsz6 := hb6.size
      clear hb6 hp KR2 K52 K42
      obtain ⟨z0, z1, y0, y1⟩ := blk2 KR.out
      go_wp2
      have f0 := cell_setOther (o := 1) (u := .slice b1 C.2.length cb1) (cell_setSame (u := .slice a1 C.1.length ca1) z0) (by omega)
      have f1 := cell_setSame (u := .slice b1 C.2.length cb1) (cell_setOther (o := 0) (u := .slice a1 C.1.length ca1) z1 (by omega))
      refine bodyPost_ret (v := .tuple #[.agg #[.slice a1 C.1.length ca1, .slice b1 C.2.length cb1], .bool bq]) (by simp [results, Try.results88, go_sem, f0, f1]) rfl ?_
      rw [Hpd.out]
      exact RDb.fin HBR.out (by omega) Hpp (hd.out.mono (fun x hx => ⟨⟨by omega, hx.2⟩, by omega⟩))
theorem DfaBoth_g (x y : Bool) (w : World) : Calls Try.prog 90 (#[.bool x, .bool y] ++ #[]) w (RB w (gBoth x y = true)) := by
  cases x <;> cases y
  all_goals (
    go_enter Try.func90, Try.ntmps90
    go_wp2
    go_ret
    exact RB.mk (by decide))
theorem body_DfaBoth : HasBody 90 := by
  intro args w
  kernel_rfl
set_option maxHeartbeats 1000000 in
theorem DfaBoth_c (vn ve un ue : Value) (A B : DfaD) (w : World) (h : DfaR S w vn ve A) (h' : DfaR T w un ue B) :
    Calls Try.prog 47 #[.agg #[vn, ve], .agg #[un, ue]] w (RDb (prD gBoth A B) (prP A B) w) := by
  obtain ⟨a, ca, b, d, rfl, rfl, hn, hm1⟩ := h.shapes
  obtain ⟨a', ca', b', d', rfl, rfl, hn', hm1'⟩ := h'.shapes
  obtain ⟨W, hW⟩ : ∃ W, W = ((w.alloc (.cells #[.slice a A.1.length ca, .slice b A.2.length d] 42)).alloc (.cells #[.slice a' B.1.length ca', .slice b' B.2.length d'] 42)).alloc (.cells #[.slice none 0 0, .slice none 0 0] 42) := ⟨_, rfl⟩
  have Hb0 : Hid (Below w.heap.size w W) := by rw [hW]; exact (((Below.refl _ _).alloc (Nat.le_refl _) _).alloc (by simp) _).alloc (by simp; omega) _
  have K4 : Hid (W.heap[w.heap.size]? = some (.cells #[.slice a A.1.length ca, .slice b A.2.length d] 42 (0, 0))) := by rw [hW]; exact blkOld (blkOld (blkNew _ _ rfl))
  have K5 : Hid (W.heap[w.heap.size + 1]? = some (.cells #[.slice a' B.1.length ca', .slice b' B.2.length d'] 42 (0, 0))) := by rw [hW]; exact blkOld (blkNew _ _ (by simp))
  have K6 : Hid (W.heap[w.heap.size + 2]? = some (.cells #[.slice none 0 0, .slice none 0 0] 42 (0, 0))) := by rw [hW]; exact blkNew _ _ (by simp)
  have hzW := (Array.getElem?_eq_some_iff.1 K6.out).1
  have H := Lib.hid (h.stay (kpB Hb0.out))
  have H' := Lib.hid (h'.stay (kpB Hb0.out))
  have HW := Lib.hid hW
  clear h h' hW
  obtain ⟨c0, c1, _, _⟩ := blk2 K4.out
  obtain ⟨e0, e1, _, _⟩ := blk2 K5.out
  rw [HW.out] at c0 c1 e0 e1
  have HC := Lib.hid (sided_c gBoth 90 #[] _ _ _ _ A B W H.out H'.out body_DfaBoth DfaBoth_g)
  clear H H' K4 K5
  go_enter Try.func47, Try.ntmps47
  go_wp2_with fail
  clear c0 c1 e0 e1
  rw [← HW.out]
  refine HC.out.mono ?_
  rintro e w6 ⟨r1, r2, bq, rfl, hb6, Hpp, hd⟩
  generalize prD gBoth A B = C at *
  obtain ⟨a1, ca1, b1, cb1, rfl, rfl, _, _⟩ := hd.out.rd.shapes
  have KR := Lib.hid (blkBel hb6 K6.out)
  have HBR := Lib.hid (Hb0.out.trans (hb6.mono Hb0.out.size))
  have hsz6 := hb6.size
  clear hb6 K6 HC HW
  obtain ⟨z0, z1, y0, y1⟩ := blk2 KR.out
  go_wp2
  have f0 := cell_setOther (o := 1) (u := .slice b1 C.2.length cb1) (cell_setSame (u := .slice a1 C.1.length ca1) z0) (by omega)
  have f1 := cell_setSame (u := .slice b1 C.2.length cb1) (cell_setOther (o := 0) (u := .slice a1 C.1.length ca1) z1 (by omega))
  refine bodyPost_ret (v := .tuple #[.agg #[.slice a1 C.1.length ca1, .slice b1 C.2.length cb1], .bool bq]) (by simp [results, Try.results47, go_sem, f0, f1]) rfl ?_
  skip
  exact RDb.fin HBR.out (by omega) Hpp (hd.out.mono (fun x hx => ⟨⟨by omega, hx.2⟩, by omega⟩))
theorem DfaEither_g (x y : Bool) (w : World) : Calls Try.prog 91 (#[.bool x, .bool y] ++ #[]) w (RB w (gEither x y = true)) := by
  cases x <;> cases y
  all_goals (
    go_enter Try.func91, Try.ntmps91
    go_wp2
    go_ret
    exact RB.mk (by decide))
theorem body_DfaEither : HasBody 91 := by
  intro args w
  kernel_rfl
set_option maxHeartbeats 1000000 in
theorem DfaEither_c (vn ve un ue : Value) (A B : DfaD) (w : World) (h : DfaR S w vn ve A) (h' : DfaR T w un ue B) :
    Calls Try.prog 49 #[.agg #[vn, ve], .agg #[un, ue]] w (RDb (prD gEither A B) (prP A B) w) := by
  obtain ⟨a, ca, b, d, rfl, rfl, hn, hm1⟩ := h.shapes
  obtain ⟨a', ca', b', d', rfl, rfl, hn', hm1'⟩ := h'.shapes
  obtain ⟨W, hW⟩ : ∃ W, W = ((w.alloc (.cells #[.slice a A.1.length ca, .slice b A.2.length d] 42)).alloc (.cells #[.slice a' B.1.length ca', .slice b' B.2.length d'] 42)).alloc (.cells #[.slice none 0 0, .slice none 0 0] 42) := ⟨_, rfl⟩
  have Hb0 : Hid (Below w.heap.size w W) := by rw [hW]; exact (((Below.refl _ _).alloc (Nat.le_refl _) _).alloc (by simp) _).alloc (by simp; omega) _
  have K4 : Hid (W.heap[w.heap.size]? = some (.cells #[.slice a A.1.length ca, .slice b A.2.length d] 42 (0, 0))) := by rw [hW]; exact blkOld (blkOld (blkNew _ _ rfl))
  have K5 : Hid (W.heap[w.heap.size + 1]? = some (.cells #[.slice a' B.1.length ca', .slice b' B.2.length d'] 42 (0, 0))) := by rw [hW]; exact blkOld (blkNew _ _ (by simp))
  have K6 : Hid (W.heap[w.heap.size + 2]? = some (.cells #[.slice none 0 0, .slice none 0 0] 42 (0, 0))) := by rw [hW]; exact blkNew _ _ (by simp)
  have hzW := (Array.getElem?_eq_some_iff.1 K6.out).1
  have H := Lib.hid (h.stay (kpB Hb0.out))
  have H' := Lib.hid (h'.stay (kpB Hb0.out))
  have HW := Lib.hid hW
  clear h h' hW
  obtain ⟨c0, c1, _, _⟩ := blk2 K4.out
  obtain ⟨e0, e1, _, _⟩ := blk2 K5.out
  rw [HW.out] at c0 c1 e0 e1
  have HC := Lib.hid (sided_c gEither 91 #[] _ _ _ _ A B W H.out H'.out body_DfaEither DfaEither_g)
  clear H H' K4 K5
  go_enter Try.func49, Try.ntmps49
  go_wp2_with fail
  clear c0 c1 e0 e1
  rw [← HW.out]
  refine HC.out.mono ?_
  rintro e w6 ⟨r1, r2, bq, rfl, hb6, Hpp, hd⟩
  generalize prD gEither A B = C at *
  obtain ⟨a1, ca1, b1, cb1, rfl, rfl, _, _⟩ := hd.out.rd.shapes
  have KR := Lib.hid (blkBel hb6 K6.out)
  have HBR := Lib.hid (Hb0.out.trans (hb6.mono Hb0.out.size))
  have hsz6 := hb6.size
  clear hb6 K6 HC HW
  obtain ⟨z0, z1, y0, y1⟩ := blk2 KR.out
  go_wp2
  have f0 := cell_setOther (o := 1) (u := .slice b1 C.2.length cb1) (cell_setSame (u := .slice a1 C.1.length ca1) z0) (by omega)
  have f1 := cell_setSame (u := .slice b1 C.2.length cb1) (cell_setOther (o := 0) (u := .slice a1 C.1.length ca1) z1 (by omega))
  refine bodyPost_ret (v := .tuple #[.agg #[.slice a1 C.1.length ca1, .slice b1 C.2.length cb1], .bool bq]) (by simp [results, Try.results49, go_sem, f0, f1]) rfl ?_
  skip
  exact RDb.fin HBR.out (by omega) Hpp (hd.out.mono (fun x hx => ⟨⟨by omega, hx.2⟩, by omega⟩))
theorem DfaLess_g (x y : Bool) (w : World) : Calls Try.prog 92 (#[.bool x, .bool y] ++ #[]) w (RB w (gLess x y = true)) := by
  cases x <;> cases y
  all_goals (
    go_enter Try.func92, Try.ntmps92
    go_wp2
    go_ret
    exact RB.mk (by decide))
theorem body_DfaLess : HasBody 92 := by
  intro args w
  kernel_rfl
set_option maxHeartbeats 1000000 in
theorem DfaLess_c (vn ve un ue : Value) (A B : DfaD) (w : World) (h : DfaR S w vn ve A) (h' : DfaR T w un ue B) :
    Calls Try.prog 51 #[.agg #[vn, ve], .agg #[un, ue]] w (RDb (prD gLess A B) (prP A B) w) := by
  obtain ⟨a, ca, b, d, rfl, rfl, hn, hm1⟩ := h.shapes
  obtain ⟨a', ca', b', d', rfl, rfl, hn', hm1'⟩ := h'.shapes
  obtain ⟨W, hW⟩ : ∃ W, W = ((w.alloc (.cells #[.slice a A.1.length ca, .slice b A.2.length d] 42)).alloc (.cells #[.slice a' B.1.length ca', .slice b' B.2.length d'] 42)).alloc (.cells #[.slice none 0 0, .slice none 0 0] 42) := ⟨_, rfl⟩
  have Hb0 : Hid (Below w.heap.size w W) := by rw [hW]; exact (((Below.refl _ _).alloc (Nat.le_refl _) _).alloc (by simp) _).alloc (by simp; omega) _
  have K4 : Hid (W.heap[w.heap.size]? = some (.cells #[.slice a A.1.length ca, .slice b A.2.length d] 42 (0, 0))) := by rw [hW]; exact blkOld (blkOld (blkNew _ _ rfl))
  have K5 : Hid (W.heap[w.heap.size + 1]? = some (.cells #[.slice a' B.1.length ca', .slice b' B.2.length d'] 42 (0, 0))) := by rw [hW]; exact blkOld (blkNew _ _ (by simp))
  have K6 : Hid (W.heap[w.heap.size + 2]? = some (.cells #[.slice none 0 0, .slice none 0 0] 42 (0, 0))) := by rw [hW]; exact blkNew _ _ (by simp)
  have hzW := (Array.getElem?_eq_some_iff.1 K6.out).1
  have H := Lib.hid (h.stay (kpB Hb0.out))
  have H' := Lib.hid (h'.stay (kpB Hb0.out))
  have HW := Lib.hid hW
  clear h h' hW
  obtain ⟨c0, c1, _, _⟩ := blk2 K4.out
  obtain ⟨e0, e1, _, _⟩ := blk2 K5.out
  rw [HW.out] at c0 c1 e0 e1
  have HC := Lib.hid (sided_c gLess 92 #[] _ _ _ _ A B W H.out H'.out body_DfaLess DfaLess_g)
  clear H H' K4 K5
  go_enter Try.func51, Try.ntmps51
  go_wp2_with fail
  clear c0 c1 e0 e1
  rw [← HW.out]
  refine HC.out.mono ?_
  rintro e w6 ⟨r1, r2, bq, rfl, hb6, Hpp, hd⟩
  generalize prD gLess A B = C at *
  obtain ⟨a1, ca1, b1, cb1, rfl, rfl, _, _⟩ := hd.out.rd.shapes
  have KR := Lib.hid (blkBel hb6 K6.out)
  have HBR := Lib.hid (Hb0.out.trans (hb6.mono Hb0.out.size))
  have hsz6 := hb6.size
  clear hb6 K6 HC HW
  obtain ⟨z0, z1, y0, y1⟩ := blk2 KR.out
  go_wp2
  have f0 := cell_setOther (o := 1) (u := .slice b1 C.2.length cb1) (cell_setSame (u := .slice a1 C.1.length ca1) z0) (by omega)
  have f1 := cell_setSame (u := .slice b1 C.2.length cb1) (cell_setOther (o := 0) (u := .slice a1 C.1.length ca1) z1 (by omega))
  refine bodyPost_ret (v := .tuple #[.agg #[.slice a1 C.1.length ca1, .slice b1 C.2.length cb1], .bool bq]) (by simp [results, Try.results51, go_sem, f0, f1]) rfl ?_
  skip
  exact RDb.fin HBR.out (by omega) Hpp (hd.out.mono (fun x hx => ⟨⟨by omega, hx.2⟩, by omega⟩))
theorem DfaApart_g (x y : Bool) (w : World) : Calls Try.prog 89 (#[.bool x, .bool y] ++ #[]) w (RB w (gApart x y = true)) := by
  cases x <;> cases y
  all_goals (
    go_enter Try.func89, Try.ntmps89
    go_wp2
    go_ret
    exact RB.mk (by decide))
theorem body_DfaApart : HasBody 89 := by
  intro args w
  kernel_rfl
set_option maxHeartbeats 1000000 in
theorem DfaApart_c (vn ve un ue : Value) (A B : DfaD) (w : World) (h : DfaR S w vn ve A) (h' : DfaR T w un ue B) :
    Calls Try.prog 45 #[.agg #[vn, ve], .agg #[un, ue]] w (RDb (prD gApart A B) (prP A B) w) := by
  obtain ⟨a, ca, b, d, rfl, rfl, hn, hm1⟩ := h.shapes
  obtain ⟨a', ca', b', d', rfl, rfl, hn', hm1'⟩ := h'.shapes
  obtain ⟨W, hW⟩ : ∃ W, W = ((w.alloc (.cells #[.slice a A.1.length ca, .slice b A.2.length d] 42)).alloc (.cells #[.slice a' B.1.length ca', .slice b' B.2.length d'] 42)).alloc (.cells #[.slice none 0 0, .slice none 0 0] 42) := ⟨_, rfl⟩
  have Hb0 : Hid (Below w.heap.size w W) := by rw [hW]; exact (((Below.refl _ _).alloc (Nat.le_refl _) _).alloc (by simp) _).alloc (by simp; omega) _
  have K4 : Hid (W.heap[w.heap.size]? = some (.cells #[.slice a A.1.length ca, .slice b A.2.length d] 42 (0, 0))) := by rw [hW]; exact blkOld (blkOld (blkNew _ _ rfl))
  have K5 : Hid (W.heap[w.heap.size + 1]? = some (.cells #[.slice a' B.1.length ca', .slice b' B.2.length d'] 42 (0, 0))) := by rw [hW]; exact blkOld (blkNew _ _ (by simp))
  have K6 : Hid (W.heap[w.heap.size + 2]? = some (.cells #[.slice none 0 0, .slice none 0 0] 42 (0, 0))) := by rw [hW]; exact blkNew _ _ (by simp)
  have hzW := (Array.getElem?_eq_some_iff.1 K6.out).1
  have H := Lib.hid (h.stay (kpB Hb0.out))
  have H' := Lib.hid (h'.stay (kpB Hb0.out))
  have HW := Lib.hid hW
  clear h h' hW
  obtain ⟨c0, c1, _, _⟩ := blk2 K4.out
  obtain ⟨e0, e1, _, _⟩ := blk2 K5.out
  rw [HW.out] at c0 c1 e0 e1
  have HC := Lib.hid (sided_c gApart 89 #[] _ _ _ _ A B W H.out H'.out body_DfaApart DfaApart_g)
  clear H H' K4 K5
  go_enter Try.func45, Try.ntmps45
  go_wp2_with fail
  clear c0 c1 e0 e1
  rw [← HW.out]
  refine HC.out.mono ?_
  rintro e w6 ⟨r1, r2, bq, rfl, hb6, Hpp, hd⟩
  generalize prD gApart A B = C at *
  obtain ⟨a1, ca1, b1, cb1, rfl, rfl, _, _⟩ := hd.out.rd.shapes
  have KR := Lib.hid (blkBel hb6 K6.out)
  have HBR := Lib.hid (Hb0.out.trans (hb6.mono Hb0.out.size))
  have hsz6 := hb6.size
  clear hb6 K6 HC HW
  obtain ⟨z0, z1, y0, y1⟩ := blk2 KR.out
  go_wp2
  have f0 := cell_setOther (o := 1) (u := .slice b1 C.2.length cb1) (cell_setSame (u := .slice a1 C.1.length ca1) z0) (by omega)
  have f1 := cell_setSame (u := .slice b1 C.2.length cb1) (cell_setOther (o := 0) (u := .slice a1 C.1.length ca1) z1 (by omega))
  refine bodyPost_ret (v := .tuple #[.agg #[.slice a1 C.1.length ca1, .slice b1 C.2.length cb1], .bool bq]) (by simp [results, Try.results45, go_sem, f0, f1]) rfl ?_
  skip
  exact RDb.fin HBR.out (by omega) Hpp (hd.out.mono (fun x hx => ⟨⟨by omega, hx.2⟩, by omega⟩))
end Go.Proofs.Ytofamhgkiipagaa

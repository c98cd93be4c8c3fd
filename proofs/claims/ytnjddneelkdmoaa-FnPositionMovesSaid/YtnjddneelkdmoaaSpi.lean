/- PositionNfa: the reference's. -/
import Derived.Deep.RegionLaw
import Derived.Deep.RegionHeld3
import Derived.Deep.CutRange
import Derived.Deep.CutBlock
import Derived.Test.YtnjddneelkdmoaaSfo
set_option linter.unusedSimpArgs false
set_option linter.unusedVariables false
set_option linter.unusedSectionVars false
namespace Go.Proofs.Ytnjddneelkdmoaa
open Go.RowKit
set_option maxRecDepth 100000
variable {S T : Nat → Prop}
theorem oneLitS (w : World) (f : Int) {X : Nat} (hX : X = w.heap.size) : OwnI (w.alloc (.cells #[.int .i64 f] 3)) w.heap.size (.slice (some ⟨X, 0, none⟩) 1 1) [f] := by subst hX; exact oneLit w f (Nat.le_refl _)
theorem lowI {w : World} {v : Value} {xs : List Int} (h : Ints S w v xs) : Ints (· < w.heap.size) w v xs := h.inHeap.mono fun _ hb => hb.2
theorem lowP {w : World} {v : Value} {xs : List (Int × Int)} (h : Pairs S w v xs) : Pairs (· < w.heap.size) w v xs := h.inHeap.mono fun _ hb => hb.2
theorem l7Any_c (v : Value) (xs : List Int) (x : Int) (w : World) (h : Ints S w v xs) :
    Calls Try.prog 120 #[v, .int .i64 x] w (fun e w' => ∃ n : Int, e = .returned (.int .i64 n) ∧ w' = w ∧ Hid (decide (0 ≤ n) = decide (x ∈ xs))) := by
  by_cases hx : x ∈ xs
  · refine (l7Name_c v xs x (xs.idxOf x) w h (List.idxOf_lt_length_of_mem hx) (List.getElem_idxOf _) (fun j hj e => ?_)).mono ?_
    · have h1 := List.not_of_lt_findIdx (p := (· == x)) (xs := xs) hj
      simp [e] at h1
    · rintro e w' ⟨rfl, rfl⟩
      exact ⟨_, rfl, rfl, Lib.hid (by simp [hx])⟩
  · refine (l7NameNo_c v xs x w h (fun y hy e => hx (e ▸ hy))).mono ?_
    rintro e w' ⟨rfl, rfl⟩
    exact ⟨_, rfl, rfl, Lib.hid (by simp [hx])⟩
theorem ttM_step {F : List Int} {L : List (Int × Int)} {pl : List Int} {i j q : Nat} (hq : q < L.length) (hi : 1 ≤ i ∧ i ≤ pl.length) (hj : j < pl.length) :
    ttM F (L.take (q + 1)) pl i (j + 1) = (ttM F (L.take q) pl i (j + 1) || decide (L[q] = (pl.getD (i - 1) 0, pl.getD j 0))) := by
  have h0 : ¬ i = 0 := by omega
  have hj' : j + 1 ≤ pl.length := hj
  have key : ∀ M : List (Int × Int), ttM F M pl i (j + 1) = decide ((pl.getD (i - 1) 0, pl.getD j 0) ∈ M) := by
    intro M
    unfold ttM
    refine decide_eq_decide.2 ⟨?_, fun h => ⟨by omega, hj', .inr ⟨hi.1, hi.2, h⟩⟩⟩
    rintro ⟨_, _, ⟨h, _⟩ | ⟨_, _, h⟩⟩
    · exact absurd h h0
    · exact h
  rw [key, key, List.take_succ_eq_append_getElem hq, ← Bool.decide_or]
  refine decide_eq_decide.2 ?_
  rw [List.mem_append, List.mem_singleton, eq_comm (a := L[q])]
theorem ttM_zero (F : List Int) (L L' : List (Int × Int)) (pl : List Int) (j : Nat) : ttM F L pl 0 j = ttM F L' pl 0 j := by simp [ttM]
theorem ttM_first0 {F : List Int} {L : List (Int × Int)} {pl : List Int} {j : Nat} (hj : j < pl.length) : ttM F L pl 0 (j + 1) = decide (pl.getD j 0 ∈ F) := by
  simp [ttM, show j + 1 ≤ pl.length from hj]
theorem ttM_start {F : List Int} {pl : List Int} {i j : Nat} (hi : 1 ≤ i) : ttM F [] pl i j = false := by
  have h0 : ¬ i = 0 := by omega
  simp [ttM, h0]
theorem getD_at {l : List Int} {k : Nat} (h : k < l.length) : l.getD k 0 = l[k] := by rw [List.getD_eq_getElem?_getD, List.getElem?_eq_getElem h, Option.getD_some]
set_option maxHeartbeats 8000000 in
theorem sPositionNfa_c (v : Value) (e : List (Int × Int)) (w : World) (h : Pairs S w v e) (hn : e.length ≤ 1048576) : Calls Try.prog 52 #[v] w (RNb w (ppN e) (ppB e)) := by
  obtain ⟨a, cap, rfl, _⟩ := h.shape
  obtain ⟨W, hW⟩ : ∃ W, W = w.alloc (.cells #[.int .i64 0, .slice none 0 0, .slice none 0 0, .slice none 0 0] 36) := ⟨_, rfl⟩
  have Hb : Hid (Below w.heap.size w W) := by rw [hW]; exact (Below.refl _ _).alloc (Nat.le_refl _) _
  have k2 : Hid (W.heap[w.heap.size]? = some (.cells #[.int .i64 0, .slice none 0 0, .slice none 0 0, .slice none 0 0] 36 (0, 0))) := by rw [hW]; exact blkNew _ _ rfl
  have HW := Lib.hid hW; clear hW
  have H := Lib.hid h; clear h
  go_enter Try.func52, Try.ntmps52
  go_wp2_with fail
  rw [← HW.out]
  clear HW
  refine (sLetterPlaces_c _ e W (H.out.stay (kpB Hb.out)) hn).mono ?_
  rintro x w1 ⟨lv, rfl, hb, ho⟩
  replace Hb := Lib.hid (Hb.out.trans (hb.mono Hb.out.size))
  replace k2 := Lib.hid (blkBel hb k2.out)
  obtain ⟨ap, cp, rfl, _⟩ := ho.out.shape
  have HO := Lib.hid (lowI ho.out.rd); clear ho hb
  have hlp := lpv_len e
  go_wp2_with fail
  refine (sExprValid_c _ e w1 (H.out.stay (kpB Hb.out)) hn).mono ?_
  rintro x w2 ⟨b1, rfl, hb, hv⟩
  replace Hb := Lib.hid (Hb.out.trans (hb.mono Hb.out.size))
  replace k2 := Lib.hid (blkBel hb k2.out)
  replace HO := Lib.hid ((lowI (HO.out.stay (kpB hb))))
  clear hb
  cases b1
  · have HN := Lib.hid (pp_none (plT_no (fun h => hbF hv h.1))); clear hv
    obtain ⟨e0, e1, e2, e3⟩ := blk4 k2.out
    have g1 := blkFz k2.out
    go_wp2
    refine bodyPost_ret (v := .tuple #[.agg #[.int .i64 0, .slice none 0 0, .slice none 0 0, .slice none 0 0], .bool false]) (by simp [results, Try.results52, go_sem, e0, e1, e2, e3, g1]) rfl ⟨_, _, _, by rw [HN.out.1, HN.out.2]; rfl, bel4 Hb.out (Nat.le_refl _) _ _ _ _, by rw [HN.out.1]; exact NfaO.nil _ _⟩
  have Hok := Lib.hid (hbT hv); clear hv
  go_wp2_with fail
  refine (l12Plain_c _ e w2 (H.out.stay (kpB Hb.out))).mono ?_
  rintro x w3 ⟨b1, rfl, hb, hv⟩
  replace Hb := Lib.hid (Hb.out.trans (hb.mono Hb.out.size))
  replace k2 := Lib.hid (blkBel hb k2.out)
  replace HO := Lib.hid ((lowI (HO.out.stay (kpB hb))))
  clear hb
  cases b1
  · have HN := Lib.hid (pp_none (plT_no (fun h => hbF hv h.2))); clear hv
    obtain ⟨e0, e1, e2, e3⟩ := blk4 k2.out
    have g1 := blkFz k2.out
    go_wp2
    refine bodyPost_ret (v := .tuple #[.agg #[.int .i64 0, .slice none 0 0, .slice none 0 0, .slice none 0 0], .bool false]) (by simp [results, Try.results52, go_sem, e0, e1, e2, e3, g1]) rfl ⟨_, _, _, by rw [HN.out.1, HN.out.2]; rfl, bel4 Hb.out (Nat.le_refl _) _ _ _ _, by rw [HN.out.1]; exact NfaO.nil _ _⟩
  have hpl := hbT hv
  obtain ⟨t, ht, he, hl, hT⟩ := plT_yes Hok.out hpl
  clear hv
  have HV := Lib.hid (pp_some hT); clear hT
  have HPL0 := lpv_yes Hok.out
  subst he
  obtain ⟨pl, hpl0⟩ : ∃ z, z = lpk t.flat t.flat.length := ⟨_, rfl⟩
  rw [← hpl0] at HPL0
  rw [HPL0] at HO hlp ⊢
  have HPL := Lib.hid hpl0
  clear HPL0 hpl0 Hok
  have HT := Lib.hid ht; have HL := Lib.hid hl; clear ht hl
  by_cases h40 : pl.length < 40
  · have h40I : ((pl.length : Int) ≥ 40) = False := by simp; omega
    go_wp2_with fail
    refine (l12Ends_c t HT.out (by have := HL.out; omega) _ 0 w3 (by omega) (by have := HL.out; omega) (H.out.stay (kpB Hb.out))).mono ?_
    rintro x w4 ⟨va, vb, rfl, hb, ha, hb'⟩
    replace Hb := Lib.hid (Hb.out.trans (hb.mono Hb.out.size))
    replace k2 := Lib.hid (blkBel hb k2.out)
    replace HO := Lib.hid ((lowI (HO.out.stay (kpB hb))))
    have HE := Lib.hid (lowP (H.out.stay (kpB Hb.out)))
    obtain ⟨FS, hFS⟩ : ∃ z, z = t.fps 0 := ⟨_, rfl⟩
    obtain ⟨LS, hLS⟩ : ∃ z, z = t.lps 0 := ⟨_, rfl⟩
    rw [← hFS] at ha
    rw [← hLS] at hb'
    obtain ⟨af, cf, rfl, _⟩ := ha.out.shape
    obtain ⟨al, cl, rfl, _⟩ := hb'.out.shape
    have HFV := Lib.hid (lowI ha.out.rd)
    have HLV := Lib.hid (lowI hb'.out.rd)
    have HFS := Lib.hid hFS; have HLS := Lib.hid hLS
    clear hFS hLS ha hb' hb
    obtain ⟨W5, hW5⟩ : ∃ z, z = (w4.alloc (.cells #[] 34)).alloc (.cells #[.slice (some ⟨w4.heap.size, 0, none⟩) 0 0] 63) := ⟨_, rfl⟩
    have hb5 : Below w4.heap.size w4 W5 := by rw [hW5]; exact ((Below.refl _ _).alloc (Nat.le_refl _) _).alloc (by simp) _
    have HF5 : Hid (FLs w4.heap.size (w4.heap.size + 1) W5 []) := Lib.hid (by
      rw [hW5]
      exact ⟨_, [], blkNew _ _ (by simp), ⟨ownStay (ownLit (n := 0) [] (Nat.le_refl _) (by omega) rfl) ((Below.refl _ _).alloc (Nat.le_refl _) _), nofun⟩, rfl⟩)
    have hz5 : W5.heap.size = w4.heap.size + 2 := by rw [hW5]; simp
    have HB5 := Lib.hid hb5
    have HZ5 := Lib.hid hz5; clear hb5 hz5
    have HW5 := Lib.hid hW5; clear hW5
    go_wp2_with fail
    rw [← HW5.out]
    clear HW5
    refine (l12Follow_c (base := w4.heap.size) (P := w4.heap.size + 1) (by omega) t HT.out HL.out _ 0 [] W5 (by have := HZ5.out; omega) (by have := fol_len t HL.out 0; have := HL.out; simp; omega) (by omega) (by have := HL.out; omega) (HE.out.stay (kpB HB5.out)) HF5.out).mono ?_
    rintro x w5 ⟨rfl, hB, hZ, hF⟩
    rw [List.nil_append] at hF
    have hZ5 : w4.heap.size + 2 ≤ w5.heap.size := by have := hZ.out; have := HZ5.out; omega
    have HB4 : Hid (Below w4.heap.size w4 w5) := Lib.hid (HB5.out.trans hB.out)
    obtain ⟨FL, hFL⟩ : ∃ z, z = t.fol 0 := ⟨_, rfl⟩
    rw [← hFL] at hF
    have hfl : FL.length ≤ 216000 := by rw [hFL]; have := fol_len t HL.out 0; have := HL.out; omega
    have HFL := Lib.hid hFL; clear hFL
    obtain ⟨vN, rs, h4, hl, hm⟩ := hF.out
    have hrs : rs.length = FL.length := by rw [← List.length_map (f := fun p : Value × List Int => p.2), hm, List.length_map]
    obtain ⟨aN, cN, rfl⟩ : ∃ a c, vN = .slice a FL.length c := by obtain ⟨a, c, e, _⟩ := (ownFl hl.own).shape; exact ⟨a, c, by rw [e, hrs]⟩
    have hread := hl.read
    rw [hm] at hread
    have HB := Lib.hid (Hb.out.trans (HB4.out.mono Hb.out.size))
    have K2 := Lib.hid (blkBel HB4.out k2.out)
    have hZZ : w.heap.size ≤ w5.heap.size := HB.out.size
    have HC5 : Hid (∀ w', Below w5.heap.size w5 w' → Ints (fun _ => True) w' (.slice ap pl.length cp) pl ∧ Ints (fun _ => True) w' (.slice af FS.length cf) FS ∧ Ints (fun _ => True) w' (.slice al LS.length cl) LS ∧ Pairs (fun _ => True) w' (.slice a t.flat.length cap) t.flat ∧ w'.heap[w4.heap.size + 1]? = some (.cells #[.slice aN FL.length cN] 63 (0, 0)) ∧ IntSS (fun _ => True) w' (.slice aN FL.length cN) (FL.map fun p => [p.1, p.2])) :=
      Lib.hid (fun w' hb => ⟨((HO.out.stay (kpL HB4.out)).mono fun _ _ => trivial).stay (kpB hb), ((HFV.out.stay (kpL HB4.out)).mono fun _ _ => trivial).stay (kpB hb), ((HLV.out.stay (kpL HB4.out)).mono fun _ _ => trivial).stay (kpB hb), ((HE.out.stay (kpL HB4.out)).mono fun _ _ => trivial).stay (kpB hb), blkBel hb h4, (hread.mono fun _ _ => trivial).stay (kpB hb)⟩)
    clear hread hl hm hF h4 hrs hZ hB HO HFV HLV HE Hb k2 HB5 HF5 HZ5
    obtain ⟨W8, hW8⟩ : ∃ z, z = (w5.alloc (.cells #[.int .i64 0] 3)).alloc (.cells #[.int .i64 ((pl.length : Int) + 1), .slice none 0 0, .slice (some ⟨w5.heap.size, 0, none⟩) 1 1, .slice none 0 0] 36) := ⟨_, rfl⟩
    have hs8 : W8.heap.size = w5.heap.size + 2 := by rw [hW8]; simp
    have hb58 : Below w5.heap.size w5 W8 := by rw [hW8]; exact ((Below.refl _ _).alloc (Nat.le_refl _) _).alloc (by simp) _
    obtain ⟨vn0, hvn0⟩ : ∃ z, z = Value.slice none 0 0 := ⟨_, rfl⟩
    have HS8 : Hid (NSt w5 W8 (w5.heap.size + 1) (w5.heap.size + 2) ((pl.length : Int) + 1) vn0 (.slice (some ⟨w5.heap.size, 0, none⟩) 1 1) vn0 [] [0] []) := Lib.hid (by
      rw [hvn0]
      exact ⟨hb58, by omega, by rw [hW8]; exact blkNew _ _ (by simp), Own3.nil _ _ _, by rw [hW8]; exact ownStay (oneLitS w5 0 rfl) ((Below.refl _ _).alloc (Nat.le_refl _) _), ⟨rfl, .inl ⟨rfl, rfl⟩⟩, ⟨by omega, by omega⟩, nofun⟩)
    have HW8 := Lib.hid hW8; clear hW8 hs8 hvn0
    have HB8 := Lib.hid hb58; clear hb58
    have hwr1 : IntKind.i64.wrap ((pl.length : Int) + 1) = (pl.length : Int) + 1 := IntWalk.i64_in _ (by omega)
    obtain ⟨B, hB⟩ : ∃ z, z = w5.heap.size := ⟨_, rfl⟩
    have HBB := Lib.hid hB; clear hB
    go_wp2_with fail
    rw [← HW8.out]
    clear HW8
    refine (l2Empty_c t HT.out (by have := HL.out; omega) _ W8 (HC5.out _ HB8.out).2.2.2.1).mono ?_
    rintro x w9 ⟨rfl, hb⟩
    have HS9 := Lib.hid (HS8.out.stay hb); clear hb HS8 HB8
    obtain ⟨nb, hnb⟩ : ∃ z, z = t.nul := ⟨_, rfl⟩
    rw [← hnb]
    have HNB := Lib.hid hnb; clear hnb
    obtain ⟨es0, hes⟩ : ∃ z : List Int, z = if nb then [0] else [] := ⟨_, rfl⟩
    have HES := Lib.hid hes; clear hes
    have hes1 : es0.length ≤ 1 := by rw [HES.out]; split <;> simp
    go_upto_if 43 with fail
    go_cut [8] from 44 to 48 (fun s wx => s = .pointer (some ⟨w5.heap.size + 1, 0, none⟩) ∧ ∃ ve0, Hid (NSt w5 wx (w5.heap.size + 1) (w5.heap.size + 2) ((pl.length : Int) + 1) vn0 (.slice (some ⟨w5.heap.size, 0, none⟩) 1 1) ve0 [] [0] es0))
    case first =>
      cases nb
      · have HS13 : Hid (NSt w5 w9 (w5.heap.size + 1) (w5.heap.size + 2) ((pl.length : Int) + 1) vn0 (.slice (some ⟨w5.heap.size, 0, none⟩) 1 1) vn0 [] [0] es0) := by rw [show es0 = [] from HES.out]; exact HS9
        go_wp2_with fail
        go_meet
        exact ⟨rfl, _, HS13⟩
      · obtain ⟨e0, e1, e2, e3⟩ := blk4 HS9.out.hd
        have hl0 : ([] : List Int).length ≤ 1000000000 := by simp
        have Hl0 := Lib.hid hl0; clear hl0
        go_wp2_with (at_builtin; refine appInt rfl (.tmp 45) (.tmp 46) rfl (w5.heap.size + 2) vn0 [] 0 w9 rfl rfl HS9.out.en Hl0.out HS9.out.eB.2 ?_; intro v1 w6 h6 hg6; obtain ⟨a1, n1, ca1, rfl⟩ := h6.out.sl; obtain ⟨f0, f1, f2, f3⟩ := blk4 (HS9.out.hdE hg6); have f4 := blkFz (HS9.out.hdE hg6) 3)
        go_meet
        exact ⟨rfl, _, Lib.hid (by rw [show es0 = [0] from HES.out]; exact HS9.out.addE (fun b hb => by cases hb; show w5.heap.size < w5.heap.size + 2; omega) hg6 h6.out)⟩
    case rest =>
      obtain ⟨hs8, ve0, HS13⟩ := hcut
      subst hs8
      generalize wc = wz at *
      clear HS9
      go_wp2_with fail
      go_loopw [9] (fun i wr => ∃ (k : Nat) (vm ve : Value), k ≤ pl.length + 1 ∧ i = .int .i64 k ∧ Hid (NSt w5 wr (w5.heap.size + 1) (w5.heap.size + 2) ((pl.length : Int) + 1) vm (.slice (some ⟨w5.heap.size, 0, none⟩) 1 1) ve (pMvs t.flat FS FL pl k) [0] (es0 ++ pEnd LS pl k))) (fun i _ => pl.length + 1 - (intOf i).toNat)
      case atStart => exact ⟨0, vn0, ve0, by omega, rfl, by simpa [pMvs, pEnd] using HS13⟩
      case round =>
        obtain ⟨k, vm, ve, hk, rfl, hs⟩ := hrel
        generalize wr = wq at *
        by_cases hlt : k < pl.length + 1
        · have hkI : (k : Int) ≤ (pl.length : Int) := by omega
          go_wp2_with fail
          go_loopw [10] (fun i wr => ∃ (j : Nat) (vm : Value), j ≤ pl.length ∧ i = .int .i64 j ∧ Hid (NSt w5 wr (w5.heap.size + 1) (w5.heap.size + 2) ((pl.length : Int) + 1) vm (.slice (some ⟨w5.heap.size, 0, none⟩) 1 1) ve (pMvs t.flat FS FL pl k ++ pRow t.flat FS FL pl k (j + 1)) [0] (es0 ++ pEnd LS pl k))) (fun i _ => pl.length - (intOf i).toNat)
          case atStart => exact ⟨0, vm, by omega, rfl, by rw [pRow_one]; simpa using hs⟩
          case round =>
            obtain ⟨j, vm2, hj, rfl, hs2⟩ := hrel
            generalize wr = wp at *
            by_cases hlt2 : j < pl.length
            · have hjI : (j : Int) < (pl.length : Int) := by omega
              have HPS := Lib.hid (pRow_step t.flat FS FL pl k (j + 1))
              obtain ⟨HPI, HFI, -, HEI, HKI, HSI⟩ := HC5.out wp hs2.out.bel
              have hpm := mem_lpk.1 (show pl[j] ∈ lpk t.flat t.flat.length by rw [← HPL.out]; exact List.getElem_mem hlt2)
              obtain ⟨x, hx⟩ : ∃ x : Nat, pl[j] = (x : Int) := ⟨(pl[j]).toNat, by omega⟩
              have hxl : x < t.flat.length := by omega
              have hgp : pl.getD j 0 = (x : Int) := by rw [getD_at hlt2]; exact hx
              have hgl : t.flat.getD x (0, 0) = t.flat[x] := by rw [List.getD_eq_getElem?_getD, List.getElem?_eq_getElem hxl, Option.getD_some]
              rw [Nat.add_sub_cancel, hgp, Int.toNat_natCast, hgl] at HPS
              obtain ⟨bp, op, rfl, p0⟩ := HPI.at hlt2
              rw [hx] at p0
              obtain ⟨be, oe, rfl, q0, q1⟩ := HEI.at hxl
              obtain ⟨y, hy⟩ : ∃ y, y = (t.flat[x]).2 := ⟨_, rfl⟩
              rw [← hy] at q1 HPS
              have c7 := cell_of_row wp (w4.heap.size + 1) 0 _ _ _ HKI
              simp only [List.getElem?_toArray, List.getElem?_cons_zero] at c7
              have HGP := Lib.hid hgp
              have HHPI := Lib.hid HPI; have HHFI := Lib.hid HFI; have HHSI := Lib.hid HSI
              clear hx hpm hgl hy q0 HPI HFI HEI HKI HSI hgp
              have hxI : (x : Int) < (t.flat.length : Int) := by omega
              go_upto_region 16 with fail
              go_cut [11] from 55 to 127 (fun s wx => ∃ bb : Bool, s = .bool bb ∧ wp = wx ∧ Hid (bb = ttM FS (FL.take 0) pl k (j + 1)))
              case first =>
                by_cases hk0 : k = 0
                · subst hk0
                  go_wp2_with fail
                  refine (l7Any_c _ FS (x : Int) wp HHFI.out).mono ?_
                  rintro z wp ⟨n, rfl, rfl, hn⟩
                  have HB0 : Hid (decide (n ≥ 0) = ttM FS (FL.take 0) pl 0 (j + 1)) := Lib.hid (by rw [show decide (n ≥ 0) = decide (0 ≤ n) from rfl, hn.out, ttM_first0 hlt2, HGP.out])
                  clear hn
                  go_wp2_with fail
                  go_meet
                  exact ⟨_, rfl, rfl, HB0⟩
                · have hkn : (k : Int) ≠ 0 := by omega
                  have HB0 : Hid (false = ttM FS (FL.take 0) pl k (j + 1)) := Lib.hid (by rw [List.take_zero, ttM_start (by omega)])
                  go_wp2_with fail
                  go_meet
                  exact ⟨_, rfl, rfl, HB0⟩
              case rest =>
                obtain ⟨b0, hs11, hwc, HB0⟩ := hcut
                subst hs11
                subst hwc
                go_upto_block 4 with fail
                go_cut [11] from 55 to 127 (fun s wx => ∃ bb : Bool, s = .bool bb ∧ (∃ nq, wx = wp.drewN nq) ∧ Hid (bb = ttM FS FL pl k (j + 1)))
                case first =>
                  by_cases hk0 : k = 0
                  · subst hk0
                    rw [ttM_zero FS (FL.take 0) FL] at HB0
                    go_wp2_with fail
                    go_loop [11, 12] (fun b i => i = .int .i64 0 ∧ ∃ bb : Bool, b = .bool bb ∧ Hid (bb = ttM FS FL pl 0 (j + 1))) (fun _ i => 0)
                    case atStart => exact ⟨rfl, _, rfl, HB0⟩
                    case round =>
                      obtain ⟨rfl, bb, rfl, HBF⟩ := hrel
                      have hfl0 : (0 : Int) < (FL.length : Int) ∨ FL.length = 0 := by omega
                      rcases hfl0 with hfl0 | hfl0
                      all_goals (
                        go_wp2_with fail
                        go_meet
                        exact ⟨_, rfl, ⟨0, rfl⟩, HBF⟩)
                  · have hkn : (k : Int) ≠ 0 := by omega
                    have hkp : (0 : Int) < (k : Int) := by omega
                    have HK1 : 1 ≤ k ∧ k ≤ pl.length := ⟨by omega, by omega⟩
                    obtain ⟨k', hk'⟩ : ∃ k' : Nat, k = k' + 1 := ⟨k - 1, by omega⟩
                    have hk'l : k' < pl.length := by omega
                    have hk'I : (k' : Int) < (pl.length : Int) := by omega
                    have hwk : (k : Int) - 1 = (k' : Int) := by omega
                    have hwk2 : IntKind.i64.wrap (k' : Int) = (k' : Int) := IntWalk.i64_in _ (by omega)
                    obtain ⟨bp2, op2, hbp2, p2⟩ := HHPI.out.at hk'l
                    cases hbp2
                    obtain ⟨u, hu⟩ : ∃ u, u = pl[k'] := ⟨_, rfl⟩
                    rw [← hu] at p2
                    have HU : Hid (pl.getD (k - 1) 0 = u) := Lib.hid (by rw [hk', Nat.add_sub_cancel, getD_at hk'l, hu])
                    have Hk' := Lib.hid hk'; clear hk' hu
                    go_wp2_with fail
                    go_loopw [11, 12] (fun b i wr => ∃ q : Nat, q ≤ FL.length ∧ i = .int .i64 q ∧ (∃ bb : Bool, b = .bool bb ∧ Hid (bb = ttM FS (FL.take q) pl k (j + 1))) ∧ ∃ nq, wr = wp.drewN nq) (fun _ i _ => FL.length - (intOf i).toNat)
                    case atStart => exact ⟨0, by omega, rfl, ⟨_, rfl, HB0⟩, 0, rfl⟩
                    case round =>
                      obtain ⟨q, hq, rfl, ⟨bb, rfl, HBF⟩, nq, rfl⟩ := hrel
                      by_cases hlt3 : q < FL.length
                      · have hqI : (q : Int) < (FL.length : Int) := by omega
                        have HST := Lib.hid (ttM_step (F := FS) (j := j) hlt3 HK1 hlt2)
                        rw [HU.out, HGP.out] at HST
                        have hlt4 : q < (FL.map fun p => [p.1, p.2]).length := by rw [List.length_map]; exact hlt3
                        have c7D : (wp.drewN nq).cell? ⟨w4.heap.size + 1, 0, none⟩ = _ := c7
                        have p0D : (wp.drewN nq).cell? ⟨bp, op + j, none⟩ = _ := p0
                        have p2D : (wp.drewN nq).cell? ⟨bp, op + k', none⟩ = _ := p2
                        cases bb
                        · obtain ⟨b5, o5, v5, he5, hc5, hr5⟩ := HHSI.out.at hlt4
                          cases he5
                          obtain ⟨f1, f2, hf⟩ : ∃ f1 f2, FL[q] = (f1, f2) := ⟨_, _, rfl⟩
                          rw [List.getElem_map, hf] at hr5
                          rw [hf] at HST
                          obtain ⟨a5, cap5, rfl, _⟩ := hr5.shape
                          have hr5 : Ints (fun _ => True) wp (.slice a5 2 cap5) [f1, f2] := hr5
                          have hc5 : wp.cell? ⟨b5, o5 + q, none⟩ = some (.slice a5 2 cap5) := hc5
                          obtain ⟨b6, o6, rfl, g0⟩ := hr5.at (k := 0) (by simp)
                          obtain ⟨b7, o7, he7, g1⟩ := hr5.at (k := 1) (by simp)
                          cases he7
                          simp only [List.getElem_cons_zero, List.getElem_cons_succ, Nat.add_zero] at g0 g1
                          have hc5D : (wp.drewN nq).cell? ⟨b5, o5 + q, none⟩ = _ := hc5
                          have g0D : (wp.drewN nq).cell? ⟨b6, o6, none⟩ = _ := g0
                          have g1D : (wp.drewN nq).cell? ⟨b6, o6 + 1, none⟩ = _ := g1
                          clear hr5 hf
                          by_cases h1 : f1 = u
                          · by_cases h2 : f2 = (x : Int)
                            · have HNX : Hid (true = ttM FS (FL.take (q + 1)) pl k (j + 1)) := Lib.hid (by rw [HST.out, h1, h2]; simp)
                              subst h1
                              rw [h2] at g1 g1D
                              clear h2
                              go_wp2_with fail
                              go_quiet (fail)
                              go_wp2_with fail
                              go_roundw
                              case rel => exact ⟨q + 1, by omega, by go_num, ⟨_, rfl, HNX⟩, _, rfl⟩
                              case measure => simp [intOf]; omega
                            · have HNX : Hid (false = ttM FS (FL.take (q + 1)) pl k (j + 1)) := Lib.hid (by rw [HST.out, ← HBF.out]; simp [h2])
                              have h2b : (f2 == (x : Int)) = false := by simp [h2]
                              subst h1
                              go_wp2_with fail
                              go_quiet (fail)
                              go_wp2_with fail
                              go_roundw
                              case rel => exact ⟨q + 1, by omega, by go_num, ⟨_, rfl, by first | exact HNX | (rw [h2b]; exact HNX)⟩, _, rfl⟩
                              case measure => simp [intOf]; omega
                          · have HNX : Hid (false = ttM FS (FL.take (q + 1)) pl k (j + 1)) := Lib.hid (by rw [HST.out, ← HBF.out]; simp [h1])
                            go_wp2_with fail
                            go_quiet (fail)
                            go_wp2_with fail
                            go_roundw
                            case rel => exact ⟨q + 1, by omega, by go_num, ⟨_, rfl, HNX⟩, _, rfl⟩
                            case measure => simp [intOf]; omega
                        · have HNX : Hid (true = ttM FS (FL.take (q + 1)) pl k (j + 1)) := Lib.hid (by rw [HST.out, ← HBF.out]; rfl)
                          go_wp2_with fail
                          go_quiet (fail)
                          go_wp2_with fail
                          go_roundw
                          case rel => exact ⟨q + 1, by omega, by go_num, ⟨_, rfl, HNX⟩, _, rfl⟩
                          case measure => simp [intOf]; omega
                      · obtain rfl : q = FL.length := by omega
                        rw [List.take_length] at HBF
                        have c7D : (wp.drewN nq).cell? ⟨w4.heap.size + 1, 0, none⟩ = _ := c7
                        go_wp2_with fail
                        go_meet
                        exact ⟨_, rfl, ⟨_, rfl⟩, HBF⟩
                case rest =>
                  obtain ⟨bb, hs11, ⟨nq, hwc⟩, HBF⟩ := hcut
                  subst hs11
                  subst hwc
                  have hs3 : Hid (NSt w5 (wp.drewN nq) (w5.heap.size + 1) (w5.heap.size + 2) ((pl.length : Int) + 1) vm2 (.slice (some ⟨w5.heap.size, 0, none⟩) 1 1) ve (pMvs t.flat FS FL pl k ++ pRow t.flat FS FL pl k (j + 1)) [0] (es0 ++ pEnd LS pl k)) := Lib.hid (hs2.out.stay (belReflN _ _ _))
                  have p0D : (wp.drewN nq).cell? ⟨bp, op + j, none⟩ = _ := p0
                  have q1D : (wp.drewN nq).cell? ⟨be, oe + x * 2 + 1, none⟩ = _ := q1
                  clear hs2 p0 q1 c7 HHSI HHPI HHFI
                  generalize wp.drewN nq = wp at *
                  have hs2 := hs3; have p0 := p0D; have q1 := q1D
                  clear hs3 p0D q1D
                  cases bb
                  · rw [← HBF.out, if_neg (by simp)] at HPS
                    clear HBF
                    go_wp2_with fail
                    go_roundw
                    case rel => first | exact ⟨j + 1, by omega, by go_num, vm2, by rw [HPS.out]; exact hs2⟩ | exact ⟨j + 1, vm2, by omega, by go_num, by rw [HPS.out]; exact hs2⟩
                    case measure => simp [intOf]; omega
                  · rw [← HBF.out, if_pos rfl] at HPS
                    clear HBF
                    obtain ⟨ML, hML⟩ : ∃ z, z = pMvs t.flat FS FL pl k ++ pRow t.flat FS FL pl k (j + 1) := ⟨_, rfl⟩
                    rw [← hML] at hs2
                    have hml : ML.length ≤ 1000000000 := by
                      rw [hML, List.length_append]
                      have h1 := pMvs_len t.flat FS FL pl k
                      have h2 := pRow_len t.flat FS FL pl k (j + 1)
                      have h3 : k * (pl.length + 1) ≤ 60 * 61 := Nat.mul_le_mul (by omega) (by omega)
                      omega
                    have Hml := Lib.hid hml; clear hml
                    have HML := Lib.hid hML; clear hML
                    have HSD : Hid (NSt w5 wp.drew (w5.heap.size + 1) (w5.heap.size + 2) ((pl.length : Int) + 1) vm2 (.slice (some ⟨w5.heap.size, 0, none⟩) 1 1) ve ML [0] (es0 ++ pEnd LS pl k)) := Lib.hid (hs2.out.stay (Below.refl _ _).drew)
                    obtain ⟨e0, e1, e2, e3⟩ := blk4 hs2.out.hd
                    have hwj : IntKind.i64.wrap ((j : Int) + 1) = (j : Int) + 1 := IntWalk.i64_in _ (by omega)
                    have e1D : wp.drew.cell? ⟨w5.heap.size + 1, 1, none⟩ = some vm2 := e1
                    have p0D : wp.drew.cell? ⟨bp, op + j, none⟩ = _ := p0
                    have q1D : wp.drew.cell? ⟨be, oe + x * 2 + 1, none⟩ = _ := q1
                    have e1A : (wp.drew.alloc (.cells #[.int .i64 (k : Int), .int .i64 y, .int .i64 ((j : Int) + 1)] 40)).cell? ⟨w5.heap.size + 1, 1, none⟩ = some vm2 := kpAlloc (S := fun _ => True) _ _ trivial e1D
                    have e1B : (wp.alloc (.cells #[.int .i64 (k : Int), .int .i64 y, .int .i64 ((j : Int) + 1)] 40)).drew.cell? ⟨w5.heap.size + 1, 1, none⟩ = some vm2 := e1A
                    go_wp2_with fail
                    go_region_law
                      (refine stepAppAt elMove (by decide) rfl (.tmp 112) (.tmp 125) rfl w5.heap.size vm2 _ _ [.int .i64 (k : Int), .int .i64 y, .int .i64 ((j : Int) + 1)] _ wp.heap.size rfl rfl (HSD.out.mv.alloc _) (by exact blkNew _ _ rfl) rfl (by simp [Value.oneCell']) (by exact Hml.out) (by have hh : w5.heap.size ≤ wp.heap.size := HSD.out.sz; simp; omega) ?_
                       intro g7 cap7 w7 ho7 hg7 hat7
                       have hg8 : wp.drew.grownBy w7 _ := grownTrans (grownBel ((Below.refl _ _).alloc (Nat.le_refl _) _)) hg7
                       have HX7 := Lib.hid (HSD.out.hdM hg8)
                       obtain ⟨f0, f1, f2, f3⟩ := blk4 HX7.out
                       have f4 := blkFz HX7.out 1)
                    all_goals (
                      have hn := HSD.out.addM hg8 (ms' := ML ++ [((k : Int), y, (j : Int) + 1)]) (by unfold Own3; rw [List.length_append, cells3_app]; exact ho7.out)
                      clear f0 f1 f2 f3 f4 e1A e1B e1D p0D q1D
                      go_wp2_with fail
                      go_roundw
                      case rel => first | exact ⟨j + 1, by omega, by go_num, _, by rw [HPS.out, ← List.append_assoc, ← HML.out]; exact hn⟩ | exact ⟨j + 1, _, by omega, by go_num, by rw [HPS.out, ← List.append_assoc, ← HML.out]; exact hn⟩
                      case measure => simp [intOf]; omega)

            · obtain rfl : j = pl.length := by omega
              rw [← pMvs_step] at hs2
              obtain ⟨MK, hMK⟩ : ∃ z, z = pMvs t.flat FS FL pl (k + 1) := ⟨_, rfl⟩
              rw [← hMK] at hs2
              have HMK := Lib.hid hMK; clear hMK
              have HPE := Lib.hid (pEnd_step LS pl k)
              by_cases hk0 : k = 0
              · rw [if_neg (by omega)] at HPE
                have hkz : ¬ ((k : Int) > 0) := by omega
                go_wp2_with fail
                go_roundw
                case rel => first | exact ⟨k + 1, vm2, ve, by omega, by go_num, by rw [HPE.out, ← HMK.out]; exact hs2⟩ | exact ⟨k + 1, by omega, by go_num, vm2, ve, by rw [HPE.out, ← HMK.out]; exact hs2⟩
                case measure => simp [intOf]; omega
              · have hkp : (k : Int) > 0 := by omega
                obtain ⟨HPI, -, HLI, -, -, -⟩ := HC5.out wp hs2.out.bel
                have HHLI := Lib.hid HLI
                obtain ⟨k', hk'⟩ : ∃ k' : Nat, k = k' + 1 := ⟨k - 1, by omega⟩
                have hk'l : k' < pl.length := by omega
                have hk'I : (k' : Int) < (pl.length : Int) := by omega
                have hwk : (k : Int) - 1 = (k' : Int) := by omega
                have hwk2 : IntKind.i64.wrap (k' : Int) = (k' : Int) := IntWalk.i64_in _ (by omega)
                obtain ⟨bp2, op2, hbp2, p2⟩ := HPI.at hk'l
                cases hbp2
                obtain ⟨u, hu⟩ : ∃ u, u = pl[k'] := ⟨_, rfl⟩
                rw [← hu] at p2
                rw [hk', Nat.add_sub_cancel, getD_at hk'l, ← hu, ← hk'] at HPE
                have Hk' := Lib.hid hk'; clear hk' hu HPI HLI
                go_wp2_with fail
                refine (l7Any_c _ LS u wp HHLI.out).mono ?_
                rintro z wp ⟨n, rfl, rfl, hn⟩
                by_cases hm : u ∈ LS
                · rw [if_pos ⟨by omega, hm⟩] at HPE
                  have hn0 : 0 ≤ n := by have h := hn.out; simpa [hm] using h
                  have hel : (es0 ++ pEnd LS pl k).length ≤ 1000000000 := by
                    rw [List.length_append]
                    have : (pEnd LS pl k).length ≤ k := by unfold pEnd; rw [List.length_map]; exact Nat.le_trans (List.length_filter_le _ _) (by simp)
                    omega
                  obtain ⟨EL, hEL⟩ : ∃ z, z = es0 ++ pEnd LS pl k := ⟨_, rfl⟩
                  rw [← hEL] at hs2 hel
                  have HEL := Lib.hid hEL
                  have Hel := Lib.hid hel; clear hEL hel hn hm
                  obtain ⟨e0, e1, e2, e3⟩ := blk4 hs2.out.hd
                  go_wp2_with (at_builtin; refine appInt rfl (.tmp 141) (.tmp 143) rfl (w5.heap.size + 2) ve EL (k : Int) wp rfl rfl hs2.out.en Hel.out hs2.out.eB.2 ?_; intro v1 w6 h6 hg6; obtain ⟨a1, n1, ca1, rfl⟩ := h6.out.sl; obtain ⟨f0, f1, f2, f3⟩ := blk4 (hs2.out.hdE hg6); have f4 := blkFz (hs2.out.hdE hg6) 3)
                  have hn := hs2.out.addE (fun b hb => by cases hb; show w5.heap.size < w5.heap.size + 2; omega) hg6 h6.out
                  go_roundw
                  case rel => first | exact ⟨k + 1, vm2, _, by omega, by go_num, by rw [HPE.out, ← HMK.out, ← List.append_assoc, ← HEL.out]; exact hn⟩ | exact ⟨k + 1, by omega, by go_num, vm2, _, by rw [HPE.out, ← HMK.out, ← List.append_assoc, ← HEL.out]; exact hn⟩
                  case measure => simp [intOf]; omega
                · rw [if_neg (fun h => hm h.2)] at HPE
                  have hn0 : ¬ n ≥ 0 := by have h := hn.out; simpa [hm] using h
                  clear hn hm
                  go_wp2_with fail
                  go_roundw
                  case rel => first | exact ⟨k + 1, vm2, ve, by omega, by go_num, by rw [HPE.out, ← HMK.out]; exact hs2⟩ | exact ⟨k + 1, by omega, by go_num, vm2, ve, by rw [HPE.out, ← HMK.out]; exact hs2⟩
                  case measure => simp [intOf]; omega
        · obtain rfl : k = pl.length + 1 := by omega
          obtain ⟨MV, hMV⟩ : ∃ z, z = pMvs t.flat FS FL pl (pl.length + 1) := ⟨_, rfl⟩
          obtain ⟨ES, hES⟩ : ∃ z, z = es0 ++ pEnd LS pl (pl.length + 1) := ⟨_, rfl⟩
          rw [← hMV, ← hES] at hs
          have HPA : Hid (posA t = ⟨(pl.length : Int) + 1, MV, [0], ES⟩) := Lib.hid (by
            unfold posA
            rw [hES, HES.out, hMV, ← HPL.out, ← HFS.out, ← HFL.out, ← HLS.out, ← HNB.out] <;> simp)
          clear hES hMV
          have KF := Lib.hid (blkBel hs.out.bel K2.out)
          have HBF := Lib.hid (HB.out.trans (hs.out.bel.mono HB.out.size))
          have HNF := Lib.hid (hs.out.o.base HB.out.size)
          have hKl : w.heap.size < wq.heap.size := (Array.getElem?_eq_some_iff.1 KF.out).1
          obtain ⟨a1, ca1, rfl, _⟩ := hs.out.mv.shape
          obtain ⟨a3, n3, ca3, rfl⟩ := hs.out.en.sl
          have HHD := Lib.hid hs.out.hd
          clear hs
          obtain ⟨e0, e1, e2, e3⟩ := blk4 HHD.out
          obtain ⟨d0, d1, d2, d3⟩ := blk4 KF.out
          have g1 := blkFz KF.out
          by_cases hmv : MV.length ≤ 400
          · have HN := Lib.hid (posN_yes HT.out (by rw [← HPL.out]; exact h40) (by rw [HPA.out]; exact hmv))
            have hmvI : ¬ ((MV.length : Int) > 400) := by omega
            go_wp2
            refine bodyPost_ret (v := .tuple #[.agg #[.int .i64 ((pl.length : Int) + 1), .slice a1 MV.length ca1, .slice (some ⟨w5.heap.size, 0, none⟩) 1 1, .slice a3 n3 ca3], .bool true]) (by simp [results, Try.results52, go_sem, d0, d1, d2, d3, g1]) rfl ⟨_, _, _, by rw [HV.out.1, HV.out.2, HN.out.1, HN.out.2, HPA.out], bel4 HBF.out (Nat.le_refl _) _ _ _ _, by rw [HV.out.1, HN.out.1, HPA.out]; exact HNF.out.set4 _ (by omega) KF.out (by decide) _ _ _ _⟩
          · have HN := Lib.hid (posN_no HT.out (by rw [← HPL.out]; exact h40) (by rw [HPA.out]; exact hmv))
            have hmvI : (MV.length : Int) > 400 := by omega
            go_wp2
            refine bodyPost_ret (v := .tuple #[.agg #[.int .i64 0, .slice none 0 0, .slice none 0 0, .slice none 0 0], .bool false]) (by simp [results, Try.results52, go_sem, d0, d1, d2, d3, g1]) rfl ⟨_, _, _, by rw [HV.out.1, HV.out.2, HN.out.1, HN.out.2]; rfl, bel4 HBF.out (Nat.le_refl _) _ _ _ _, by rw [HV.out.1, HN.out.1]; exact NfaO.nil _ _⟩
  · have HN := Lib.hid (posN_big (t := t) (by rw [← HPL.out]; exact h40))
    have h40I : (pl.length : Int) ≥ 40 := by omega
    obtain ⟨e0, e1, e2, e3⟩ := blk4 k2.out
    have g1 := blkFz k2.out
    go_wp2
    refine bodyPost_ret (v := .tuple #[.agg #[.int .i64 0, .slice none 0 0, .slice none 0 0, .slice none 0 0], .bool false]) (by simp [results, Try.results52, go_sem, e0, e1, e2, e3, g1]) rfl ⟨_, _, _, by rw [HV.out.1, HV.out.2, HN.out.1, HN.out.2]; rfl, bel4 Hb.out (Nat.le_refl _) _ _ _ _, by rw [HV.out.1, HN.out.1]; exact NfaO.nil _ _⟩
end Go.Proofs.Ytnjddneelkdmoaa

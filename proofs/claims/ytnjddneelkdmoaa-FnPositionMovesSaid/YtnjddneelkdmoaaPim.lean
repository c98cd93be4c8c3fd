/- PositionNfa: the program's. -/
import Derived.Deep.RegionLaw
import Derived.Laws.EntriesVeiled
import Derived.Deep.RegionHeld3
import Derived.Test.YtnjddneelkdmoaaPcl
import Derived.Test.YtnjddneelkdmoaaApf
set_option linter.unusedSimpArgs false
set_option linter.unusedVariables false
set_option linter.unusedSectionVars false
namespace Go.Proofs.Ytnjddneelkdmoaa
open Go.RowKit
set_option maxRecDepth 100000
variable {S T : Nat → Prop}
theorem zero40 : Try.zeroCells110 = Array.replicate 1600 (.bool false) := by kernel_rfl
theorem oneLitX (w : World) (f : Int) {X : Nat} (hX : X = w.heap.size) : OwnI (w.alloc (.cells #[.int .i64 f] 3)) w.heap.size (.slice (some ⟨X, 0, none⟩) 1 1) [f] := by subst hX; exact oneLit w f (Nat.le_refl _)
theorem frGrown {M : Nat} {w w' : World} (h : Fr (· = M) w w') : w.grownBy w' (some M) := ⟨h.os, h.tape, h.output, h.size, fun i hi hr => h.block i hi (fun e => hr (by rw [e]))⟩
theorem NSt.fr {w wr w' : World} {g BE M : Nat} {n : Int} {vm vf ve : Value} {ms : List (Int × Int × Int)} {fs es : List Int} (h : NSt w wr g BE n vm vf ve ms fs es) (k : Fr (· = M) wr w') {cs : Array Value} {t : TypeId} (hm : wr.heap[M]? = some (.cells cs t (0, 0)))
    (ht : t ≠ 40 ∧ t ≠ 3) (hg : g ≠ M) (hB : w.heap.size ≤ M) : NSt w w' g BE n vm vf ve ms fs es :=
  ⟨h.bel.grown (frGrown k) h.sz (fun k e => by injection e with e; omega), h.gB, blkGrow (frGrown k) h.hd (fun e => hg (by injection e)), World.ownsRow.kept h.mv (frGrown k) (.inr (ownNe h.mv hm ht.1)), World.ownsRow.kept h.fs (frGrown k) (.inr (ownNe h.fs hm ht.2)),
   World.ownsRow.kept h.en (frGrown k) (.inr (ownNe h.en hm ht.2)), ⟨h.eB.1, Nat.le_trans h.eB.2 k.size⟩, h.ne⟩
theorem ownApart {v v' : Value} {p q : Nat} (h : ∀ b, v.ownBlock = some b → p ≤ b ∧ b < q) (h' : ∀ b, v'.ownBlock = some b → b < p ∨ q ≤ b) : v.ownBlock = none ∨ v.ownBlock ≠ v'.ownBlock := by
  rcases hv : v.ownBlock with _ | b
  · exact .inl rfl
  · refine .inr fun e => ?_
    have h1 := h b hv
    have h2 := h' b e.symm
    omega
set_option maxHeartbeats 4000000 in
theorem PositionNfa_c (v : Value) (e : List (Int × Int)) (w : World) (h : Pairs S w v e) : Calls Try.prog 51 #[v] w (RNb w (ppN e) (ppB e)) := by
  obtain ⟨a, cap, rfl, _⟩ := h.shape
  obtain ⟨W, hW⟩ : ∃ W, W = w.alloc (.cells #[.int .i64 0, .slice none 0 0, .slice none 0 0, .slice none 0 0] 36) := ⟨_, rfl⟩
  have Hb : Hid (Below w.heap.size w W) := by rw [hW]; exact (Below.refl _ _).alloc (Nat.le_refl _) _
  have k2 : Hid (W.heap[w.heap.size]? = some (.cells #[.int .i64 0, .slice none 0 0, .slice none 0 0, .slice none 0 0] 36 (0, 0))) := by rw [hW]; exact blkNew _ _ rfl
  have HW := Lib.hid hW; clear hW
  have H := Lib.hid h; clear h
  go_enter Try.func51, Try.ntmps51
  go_wp2_with fail
  rw [← HW.out]
  clear HW
  refine (isPlain_c _ e W (H.out.stay (kpB Hb.out))).mono ?_
  rintro x w1 ⟨b1, rfl, hb, hv⟩
  replace Hb := Lib.hid (Hb.out.trans (hb.mono Hb.out.size))
  replace k2 := Lib.hid (blkBel hb k2.out)
  have hz1 : w.heap.size < w1.heap.size := (Array.getElem?_eq_some_iff.1 k2.out).1
  clear hb
  cases b1
  · have HN := Lib.hid (pp_none (plT_no (hbF hv))); clear hv
    obtain ⟨e0, e1, e2, e3⟩ := blk4 k2.out
    have g1 := blkFz k2.out
    go_wp2
    refine bodyPost_ret (v := .tuple #[.agg #[.int .i64 0, .slice none 0 0, .slice none 0 0, .slice none 0 0], .bool false]) (by simp [results, Try.results51, go_sem, e0, e1, e2, e3, g1]) rfl ⟨_, _, _, by rw [HN.out.1, HN.out.2]; rfl, bel4 Hb.out (Nat.le_refl _) _ _ _ _, by rw [HN.out.1]; exact NfaO.nil _ _⟩
  obtain ⟨t, ht, he, hl, hT⟩ := plT_yes (hbT hv).1 (hbT hv).2
  have hpl := (hbT hv).2
  have hok := (hbT hv).1
  clear hv
  have HV := Lib.hid (pp_some hT)
  have HFP := Lib.hid (fpv_some hT); have HLP := Lib.hid (lpw_some hT); clear hT
  have HE : Hid (∀ w', Below w.heap.size w w' → Pairs S w' (.slice a e.length cap) e) := Lib.hid (fun w' hb => H.out.stay (kpB hb))
  clear H
  subst he
  have HEM : Hid (∀ w', Below w.heap.size w w' → ∀ m, w.heap.size ≤ m → Pairs (· ≠ m) w' (.slice a t.flat.length cap) t.flat) := Lib.hid (fun w' hb m hm => ((Fl.inHeap (HE.out w (Below.refl _ _))).mono (T := (· ≠ m)) (fun b h => by have := h.2; omega)).stay (kpB hb))
  obtain ⟨pl, hpl0⟩ : ∃ pl, pl = lpk t.flat t.flat.length := ⟨_, rfl⟩
  have HLV := Lib.hid (show lpv t.flat = pl by rw [lpv_yes hok, hpl0])
  have HPL := Lib.hid hpl0; clear hpl0
  have hp60 : pl.length ≤ 60 := by rw [← HLV.out]; exact lpv_len _
  have HT := Lib.hid ht; have HPN := Lib.hid hpl; have HL := Lib.hid hl; clear ht hpl hl hok
  go_wp2_with fail
  refine (LetterPlaces_c _ t.flat w1 (HE.out _ Hb.out)).mono ?_
  rintro x w2 ⟨plv, rfl, hb, ho⟩
  rw [HLV.out] at ho
  obtain ⟨ap, cp, rfl, _⟩ := ho.out.shape
  replace Hb := Lib.hid (Hb.out.trans (hb.mono Hb.out.size))
  replace k2 := Lib.hid (blkBel hb k2.out)
  have hz2 : w.heap.size < w2.heap.size := (Array.getElem?_eq_some_iff.1 k2.out).1
  clear hb hz1
  by_cases h40 : pl.length < 40
  · have h40I : ((pl.length : Int) ≥ 40) = False := by simp; omega
    obtain ⟨w5, hw5⟩ : ∃ z, z = (w2.alloc (.cells #[.slice ap pl.length cp] 34)).alloc (.cells #[.func (.func 113) #[] #[.pointer (some ⟨w2.heap.size, 0, none⟩)]] 76) := ⟨_, rfl⟩
    have hs5 : w5.heap.size = w2.heap.size + 2 := by rw [hw5]; simp
    have hb25 : Below w2.heap.size w2 w5 := by rw [hw5]; exact ((Below.refl _ _).alloc (Nat.le_refl _) _).alloc (by simp) _
    have HB5 : Hid (Below w.heap.size w w5) := Lib.hid (Hb.out.trans (hb25.mono Hb.out.size))
    have K2 : Hid (w5.heap[w.heap.size]? = some (.cells #[.int .i64 0, .slice none 0 0, .slice none 0 0, .slice none 0 0] 36 (0, 0))) := Lib.hid (blkBel hb25 k2.out)
    have K4 : Hid (w5.heap[w2.heap.size]? = some (.cells #[.slice ap pl.length cp] 34 (0, 0))) := Lib.hid (by rw [hw5]; exact blkOld (blkNew _ _ rfl))
    have K5 : Hid (w5.heap[w2.heap.size + 1]? = some (.cells #[.func (.func 113) #[] #[.pointer (some ⟨w2.heap.size, 0, none⟩)]] 76 (0, 0))) := Lib.hid (by rw [hw5]; exact blkNew _ _ (by simp))
    have PR : Hid (Ints (fun _ => True) w5 (.slice ap pl.length cp) pl) := Lib.hid ((ho.out.rd.mono (T := fun _ => True) (fun _ _ => trivial)).stay (kpB hb25))
    obtain ⟨W8, hW8⟩ : ∃ z, z = ((w5.alloc (.cells #[.int .i64 0] 3)).alloc (.cells #[.int .i64 ((pl.length : Int) + 1), .slice none 0 0, .slice (some ⟨w2.heap.size + 1 + 1, 0, none⟩) 1 1, .slice none 0 0] 36)).alloc (.cells (tabA [] [] pl) 110) := ⟨_, rfl⟩
    have hs8 : W8.heap.size = w2.heap.size + 5 := by rw [hW8]; simp [hs5]
    have hb58 : Below w5.heap.size w5 W8 := by rw [hW8]; exact (((Below.refl _ _).alloc (Nat.le_refl _) _).alloc (by simp) _).alloc (by simp; omega) _
    have KM : Hid (W8.heap[w2.heap.size + 1 + 1 + 1 + 1]? = some (.cells (tabA [] [] pl) 110 (0, 0))) := Lib.hid (by rw [hW8]; exact blkNew _ _ (by simp [hs5]))
    have HS8 : Hid (NSt w5 W8 (w2.heap.size + 1 + 1 + 1) (w2.heap.size + 5) ((pl.length : Int) + 1) (.slice none 0 0) (.slice (some ⟨w2.heap.size + 1 + 1, 0, none⟩) 1 1) (.slice none 0 0) [] [0] []) := Lib.hid
      ⟨hb58, by omega, by rw [hW8]; exact blkOld (blkNew _ _ (by simp [hs5])), Own3.nil _ _ _, by rw [hW8]; exact ownStay (ownStay (oneLitX w5 0 (X := w2.heap.size + 1 + 1) hs5.symm) ((Below.refl _ _).alloc (Nat.le_refl _) _)) ((Below.refl _ _).alloc (Nat.le_refl _) _), ⟨rfl, .inl ⟨rfl, rfl⟩⟩, ⟨by omega, by omega⟩, nofun⟩
    have HZ : Hid (Try.zeroCells110 = tabA [] [] pl) := Lib.hid (by rw [tabA_nil]; exact zero40)
    have HW8 : Hid (W8 = ((((w2.alloc (.cells #[.slice ap pl.length cp] 34)).alloc (.cells #[.func (.func 113) #[] #[.pointer (some ⟨w2.heap.size, 0, none⟩)]] 76)).alloc (.cells #[.int .i64 0] 3)).alloc (.cells #[.int .i64 ((pl.length : Int) + 1), .slice none 0 0, .slice (some ⟨w2.heap.size + 1 + 1, 0, none⟩) 1 1, .slice none 0 0] 36)).alloc (.cells Try.zeroCells110 110)) := Lib.hid (by rw [HZ.out, hW8, hw5])
    have HS5 := Lib.hid hs5
    have HB8 := Lib.hid (HB5.out.trans (hb58.mono HB5.out.size))
    have hu0 : Hid (pl.Pairwise (· < ·)) := Lib.hid (by rw [HPL.out]; exact lpk_asc _ _)
    have HH8 := Lib.hid hs8
    clear hw5 hs5 hb25 hW8 hs8 hb58 ho Hb k2
    have hwr1 : IntKind.i64.wrap ((pl.length : Int) + 1) = (pl.length : Int) + 1 := IntWalk.i64_in _ (by omega)
    go_wp2_with fail
    rw [← HW8.out]
    clear HW8
    obtain ⟨B, hB⟩ : ∃ z, z = w2.heap.size := ⟨_, rfl⟩
    rw [← hB] at K4 K5 KM HS8 HH8 hz2 HS5 ⊢
    clear hB
    refine (FirstPlaces_c _ t.flat W8 (HE.out _ HB8.out)).mono ?_
    rintro x w9 ⟨fv, rfl, hb, ho⟩
    rw [HFP.out] at ho
    obtain ⟨af, cf, rfl, _⟩ := ho.out.shape
    obtain ⟨FS, hFS⟩ : ∃ z, z = t.fps 0 := ⟨_, rfl⟩
    rw [← hFS] at ho ⊢
    have HFM : Hid (∀ x ∈ FS, x ∈ pl) := Lib.hid (fun x hx => by rw [hFS] at hx; rw [HPL.out]; exact let_lpk (fps_let t 0 x hx))
    have hfs60 : FS.length ≤ 60 := by rw [hFS]; have := fps_len t 0; have := HL.out; omega
    have HFS := Lib.hid hFS; clear hFS
    have hzw5 := HB5.out.size
    have HFV : Hid (Ints (· ≠ B + 1 + 1 + 1 + 1) w9 (.slice af FS.length cf) FS) := Lib.hid (ho.out.rd.mono (fun b hb => by have h0 : W8.heap.size ≤ b := hb; have := HH8.out; omega))
    have HS9 := Lib.hid (HS8.out.stay hb)
    have KM9 := Lib.hid (blkBel hb KM.out)
    have HB9 := Lib.hid (HB8.out.trans (hb.mono HB8.out.size))
    have HZ9 := Lib.hid (show B + 5 ≤ w9.heap.size by have := hb.size; have := HH8.out; omega)
    have HC9 : Hid (∀ w', Fr (· = B + 1 + 1 + 1 + 1) w9 w' → Below w5.heap.size w5 w') := Lib.hid (fun w' hf => HS9.out.bel.trans (hf.low (B := w5.heap.size) (fun b e => by rw [HS5.out]; omega) HS9.out.sz))
    clear ho hb HB8 HS8 KM
    go_wp2
    go_loopw [33] (fun i wr => ∃ k : Nat, k ≤ FS.length ∧ i = .int .i64 k ∧ Hid (Fr (· = B + 1 + 1 + 1 + 1) w9 wr) ∧ Hid (wr.heap[B + 1 + 1 + 1 + 1]? = some (.cells (tabA (FS.take k) [] pl) 110 (0, 0)))) (fun i _ => FS.length - (intOf i).toNat)
    case atStart => exact ⟨0, by omega, rfl, Fr.refl _, KM9⟩
    case round =>
      obtain ⟨k, hk, rfl, hF, hK⟩ := hrel
      generalize wr = wq at *
      by_cases hlt : k < FS.length
      · obtain ⟨bx, ox, rfl, x0⟩ := (HFV.out.stay (kpFr hF.out)).at hlt
        have HXM := Lib.hid (HFM.out _ (List.getElem_mem hlt))
        have HTK := Lib.hid (List.take_succ_eq_append_getElem hlt)
        obtain ⟨xk, hxk⟩ : ∃ x, x = FS[k] := ⟨_, rfl⟩
        rw [← hxk] at x0 HXM HTK
        have Hxk := Lib.hid hxk; clear hxk
        have HC := Lib.hid (HC9.out _ hF.out)
        have c5 := cell_of_row wq (B + 1) 0 _ _ _ (blkBel HC.out K5.out)
        simp only [List.getElem?_toArray, List.getElem?_cons_zero] at c5
        obtain ⟨j, hj⟩ : ∃ j, j = pl.idxOf xk := ⟨_, rfl⟩
        have hj40 : j + 1 < 40 := by have := List.idxOf_lt_length_of_mem HXM.out; omega
        have HST := Lib.hid (state_c (S := fun _ => True) (w := wq) (blkBel HC.out K4.out) (PR.out.stay (kpB HC.out)) hu0.out hp60 xk HXM.out)
        rw [← hj] at HST
        have cm := cell_of_row wq (B + 1 + 1 + 1 + 1) (0 * 40 + (j + 1)) _ _ _ hK.out
        rw [tabA_at _ _ _ (by omega) hj40, Nat.zero_mul, Nat.zero_add] at cm
        have hf := blkFz hK.out (j + 1)
        have HSET := Lib.hid (heap_set hK.out (0 * 40 + (j + 1)) (.bool true))
        rw [tabA_set (F' := FS.take (k + 1)) (L' := []) (by omega) hj40 (fun x y => by rw [HTK.out, ttM_first hu0.out HXM.out, ← hj]), Nat.zero_mul, Nat.zero_add] at HSET
        have HFR : Hid (Fr (· = B + 1 + 1 + 1 + 1) w9 (wq.setCell ⟨B + 1 + 1 + 1 + 1, j + 1, none⟩ (.bool true))) := Lib.hid (hF.out.trans (Fr.grown (grownSet _ _ _ _) (fun b e => by injection e with e; exact e.symm)))
        have Hj := Lib.hid hj; clear hj
        have hj0 : (0 : Int) ≤ (j : Int) + 1 := by omega
        have hj1 : (j : Int) + 1 < 40 := by omega
        go_wp2_with fail
        refine HST.out.mono ?_
        rintro e w' ⟨rfl, rfl⟩
        go_wp2
        go_roundw
        case rel => exact ⟨k + 1, by omega, by go_num, HFR, HSET⟩
        case measure => simp [intOf]; omega
      · obtain rfl : k = FS.length := by omega
        rw [List.take_length] at hK
        have HS10 : Hid (NSt w5 wq _ _ _ _ _ _ _ _ _) := Lib.hid (HS9.out.fr hF.out KM9.out (by decide) (by omega) (by have := HS5.out; omega))
        have HC := Lib.hid (HC9.out _ hF.out)
        have hzq := hF.out.size
        have HFOL := Lib.hid (follows_c (M := B + 1 + 1 + 1 + 1) (I := fun L w' => Fr (· = B + 1 + 1 + 1 + 1) w9 w' ∧ w'.heap[B + 1 + 1 + 1 + 1]? = some (.cells (tabA FS L pl) 110 (0, 0)))
          (fun L w' w'' hi hb => ⟨hi.1.trans (Fr.bel hb), blkBel hb hi.2⟩) 116 #[.pointer (some ⟨B + 1 + 1 + 1 + 1, 0, none⟩), .pointer (some ⟨B + 1, 0, none⟩)] body_mark (fun q => q.1 ∈ pl ∧ q.2 ∈ pl)
          (fun L w' a b hA hM hi => (mark_c (S := fun _ => True) (P4 := B) (P5 := B + 1) (blkBel (HC9.out w' hi.1) K4.out) (blkBel (HC9.out w' hi.1) K5.out) hi.2 (PR.out.stay (kpB (HC9.out w' hi.1))) hu0.out h40 a b hA.1 hA.2).mono (fun e w'' h => ⟨h.1, h.2.1, ⟨hi.1.trans h.2.1.out, h.2.2.out⟩⟩))
          t HT.out HL.out HPN.out (.slice a t.flat.length cap) 0 [] wq (fun q hq => by rw [HPL.out]; exact ⟨let_lpk (fol_let t 0 q hq).1, let_lpk (fol_let t 0 q hq).2⟩) (by have := HZ9.out; omega) (by omega) (by have := HL.out; omega)
          (HEM.out wq (HB5.out.trans (HC.out.mono HB5.out.size)) _ (by have := HS5.out; omega)) ⟨hF.out, hK.out⟩)
        go_wp2_with fail
        refine HFOL.out.mono ?_
        rintro e w10 ⟨rfl, hF10, hI10⟩
        rw [List.nil_append] at hI10
        obtain ⟨FL, hFL⟩ : ∃ x, x = t.fol 0 := ⟨_, rfl⟩
        rw [← hFL] at hI10
        have HFL := Lib.hid hFL; clear hFL
        have KM10 := Lib.hid hI10.out.2
        have HS11 : Hid (NSt w5 w10 _ _ _ _ _ _ _ _ _) := Lib.hid (HS9.out.fr hI10.out.1 KM9.out (by decide) (by omega) (by have := HS5.out; omega))
        have HC5 : Hid (∀ w', Below w5.heap.size w5 w' → w'.heap[B]? = some (.cells #[.slice ap pl.length cp] 34 (0, 0)) ∧ w'.heap[B + 1]? = some (.cells #[.func (.func 113) #[] #[.pointer (some ⟨B, 0, none⟩)]] 76 (0, 0)) ∧ Ints (fun _ => True) w' (.slice ap pl.length cp) pl) := Lib.hid (fun w' hb => ⟨blkBel hb K4.out, blkBel hb K5.out, PR.out.stay (kpB hb)⟩)
        have HE5 : Hid (∀ w', Below w5.heap.size w5 w' → Pairs S w' (.slice a t.flat.length cap) t.flat) := Lib.hid (fun w' hb => HE.out w' (HB5.out.trans (hb.mono HB5.out.size)))
        clear hF10 hI10 HFOL HS10 HC hzq hF hK HS9 HC9 HFV KM9 HB9 HZ9
        obtain ⟨e0, e1, e2, e3⟩ := blk4 HS11.out.hd
        go_wp2_with fail
        clear e0 e1 e2 e3
        go_loopw [48] (fun i wr => ∃ (k : Nat) (vm : Value), k ≤ pl.length + 1 ∧ i = .int .i64 k ∧ Hid (NSt w5 wr (B + 1 + 1 + 1) (B + 5) ((pl.length : Int) + 1) vm (.slice (some ⟨B + 1 + 1, 0, none⟩) 1 1) (.slice none 0 0) (pMvs t.flat FS FL pl k) [0] []) ∧ Hid (wr.heap[B + 1 + 1 + 1 + 1]? = some (.cells (tabA FS FL pl) 110 (0, 0)))) (fun i _ => pl.length + 1 - (intOf i).toNat)
        case atStart => exact ⟨0, _, by omega, rfl, by simpa [pMvs] using HS11, KM10⟩
        case round =>
          obtain ⟨k, vm, hk, rfl, hs, hK⟩ := hrel
          generalize wr = wq at *
          by_cases hlt : k < pl.length + 1
          · have hkI : (k : Int) < (pl.length : Int) + 1 := by omega
            obtain ⟨e0, e1, e2, e3⟩ := blk4 hs.out.hd
            go_wp2_with fail
            clear e0 e1 e2 e3
            go_loopw [53] (fun i wr => ∃ (j : Nat) (vm : Value), j ≤ pl.length + 1 ∧ i = .int .i64 j ∧ Hid (NSt w5 wr (B + 1 + 1 + 1) (B + 5) ((pl.length : Int) + 1) vm (.slice (some ⟨B + 1 + 1, 0, none⟩) 1 1) (.slice none 0 0) (pMvs t.flat FS FL pl k ++ pRow t.flat FS FL pl k j) [0] []) ∧ Hid (wr.heap[B + 1 + 1 + 1 + 1]? = some (.cells (tabA FS FL pl) 110 (0, 0)))) (fun i _ => pl.length + 1 - (intOf i).toNat)
            case atStart => exact ⟨0, _, by omega, rfl, by simpa [pRow] using hs, hK⟩
            case round =>
              obtain ⟨j, vm2, hj, rfl, hs2, hK2⟩ := hrel
              generalize wr = wp at *
              by_cases hlt2 : j < pl.length + 1
              · have hjI : (j : Int) < (pl.length : Int) + 1 := by omega
                have hk40 : (k : Int) < 40 := by omega
                have hj40 : (j : Int) < 40 := by omega
                have cm := cell_of_row wp (B + 1 + 1 + 1 + 1) (k * 40 + j) _ _ _ hK2.out
                rw [tabA_at _ _ _ (by omega) (by omega)] at cm
                have HPS := Lib.hid (pRow_step t.flat FS FL pl k j)
                cases ht : ttM FS FL pl k j
                · rw [ht] at cm
                  rw [ht, if_neg (by simp)] at HPS
                  clear ht
                  go_wp2_with fail
                  go_roundw
                  case rel => exact ⟨j + 1, vm2, by omega, by go_num, by rw [HPS.out]; exact hs2, hK2⟩
                  case measure => simp [intOf]; omega
                · rw [ht] at cm
                  rw [ht, if_pos rfl] at HPS
                  have hj1 : 1 ≤ j := (of_decide_eq_true ht).1
                  clear ht
                  obtain ⟨q, rfl⟩ : ∃ q, j = q + 1 := ⟨j - 1, by omega⟩
                  have hq : q < pl.length := by omega
                  have hpm := mem_lpk.1 (show pl[q] ∈ lpk t.flat t.flat.length by rw [← HPL.out]; exact List.getElem_mem hq)
                  obtain ⟨x, hx⟩ : ∃ x : Nat, pl[q] = (x : Int) := ⟨(pl[q]).toNat, by omega⟩
                  have hxl : x < t.flat.length := by omega
                  have hgp : pl.getD q 0 = (x : Int) := by rw [List.getD_eq_getElem?_getD, List.getElem?_eq_getElem hq, Option.getD_some]; exact hx
                  have hgl : t.flat.getD x (0, 0) = t.flat[x] := by rw [List.getD_eq_getElem?_getD, List.getElem?_eq_getElem hxl, Option.getD_some]
                  rw [Nat.add_sub_cancel, hgp, Int.toNat_natCast, hgl] at HPS
                  clear hpm hgp hgl
                  obtain ⟨c4, -, HPI⟩ := HC5.out wp hs2.out.bel
                  have c4 := cell_of_row wp B 0 _ _ _ c4
                  simp only [List.getElem?_toArray, List.getElem?_cons_zero] at c4
                  obtain ⟨bp, op, rfl, p0⟩ := HPI.at hq
                  rw [hx] at p0
                  obtain ⟨be, oe, rfl, q0, q1⟩ := (HE5.out wp hs2.out.bel).at hxl
                  obtain ⟨y, hy⟩ : ∃ y, y = (t.flat[x]).2 := ⟨_, rfl⟩
                  rw [← hy] at q1 HPS
                  clear hx hy HPI q0 hjI
                  obtain ⟨e0, e1, e2, e3⟩ := blk4 hs2.out.hd
                  have hqI : (q : Int) < (pl.length : Int) := by omega
                  have hxI : (x : Int) < (t.flat.length : Int) := by omega
                  have hwq : IntKind.i64.wrap (q : Int) = (q : Int) := IntWalk.i64_in _ (by omega)
                  have hml : (pMvs t.flat FS FL pl k ++ pRow t.flat FS FL pl k (q + 1)).length ≤ 1000000000 := by
                    rw [List.length_append]
                    have h1 := pMvs_len t.flat FS FL pl k
                    have h2 := pRow_len t.flat FS FL pl k (q + 1)
                    have h3 : k * (pl.length + 1) ≤ 60 * 61 := Nat.mul_le_mul (by omega) (by omega)
                    omega
                  have Hml := Lib.hid hml; clear hml
                  have HSD : Hid (NSt w5 wp.drew (B + 1 + 1 + 1) (B + 5) ((pl.length : Int) + 1) vm2 (.slice (some ⟨B + 1 + 1, 0, none⟩) 1 1) (.slice none 0 0) (pMvs t.flat FS FL pl k ++ pRow t.flat FS FL pl k (q + 1)) [0] []) := Lib.hid (hs2.out.stay (Below.refl _ _).drew)
                  have hKD : Hid (wp.drew.heap[B + 1 + 1 + 1 + 1]? = some (.cells (tabA FS FL pl) 110 (0, 0))) := hK2
                  obtain ⟨ML, hML⟩ : ∃ z, z = pMvs t.flat FS FL pl k ++ pRow t.flat FS FL pl k (q + 1) := ⟨_, rfl⟩
                  rw [← hML] at HSD Hml
                  have HML := Lib.hid hML; clear hML
                  have e1D : wp.drew.cell? ⟨B + 1 + 1 + 1, 1, none⟩ = some vm2 := e1
                  have c4D : wp.drew.cell? ⟨B, 0, none⟩ = _ := c4
                  have p0D : wp.drew.cell? ⟨bp, op + q, none⟩ = _ := p0
                  have q1D : wp.drew.cell? ⟨be, oe + x * 2 + 1, none⟩ = _ := q1
                  have e1A : (wp.drew.alloc (.cells #[.int .i64 (k : Int), .int .i64 y, .int .i64 ((q : Int) + 1)] 40)).cell? ⟨B + 1 + 1 + 1, 1, none⟩ = some vm2 := kpAlloc (S := fun _ => True) _ _ trivial e1D
                  have e1B : (wp.alloc (.cells #[.int .i64 (k : Int), .int .i64 y, .int .i64 ((q : Int) + 1)] 40)).drew.cell? ⟨B + 1 + 1 + 1, 1, none⟩ = some vm2 := e1A
                  go_wp2_with fail
                  go_region_law
                    (refine stepAppAt elMove (by decide) rfl (.tmp 62) (.tmp 75) rfl w5.heap.size vm2 _ _ [.int .i64 (k : Int), .int .i64 y, .int .i64 ((q : Int) + 1)] _ wp.heap.size rfl rfl (HSD.out.mv.alloc _) (by exact blkNew _ _ rfl) rfl (by simp [Value.oneCell']) (by exact Hml.out) (by have hh : w5.heap.size ≤ wp.heap.size := HSD.out.sz; simp; omega) ?_
                     intro g7 cap7 w7 ho7 hg7 hat7
                     have hg8 : wp.drew.grownBy w7 _ := grownTrans (grownBel ((Below.refl _ _).alloc (Nat.le_refl _) _)) hg7
                     have HX7 := Lib.hid (HSD.out.hdM hg8)
                     obtain ⟨f0, f1, f2, f3⟩ := blk4 HX7.out
                     have f4 := blkFz HX7.out 1)
                  all_goals (
                  have hn := HSD.out.addM hg8 (ms' := ML ++ [((k : Int), y, (q : Int) + 1)]) (by unfold Own3; rw [List.length_append, cells3_app]; exact ho7.out)
                  have hw := blkGrow hg8 hKD.out (fun e => ownNe HSD.out.mv hKD.out (by decide) e.symm)
                  clear f0 f1 f2 f3 f4 e1A e1B e1D c4D p0D q1D
                  go_wp2_with fail
                  go_roundw
                  case rel => exact ⟨q + 2, _, by omega, by go_num, by rw [HPS.out, ← List.append_assoc, ← HML.out]; exact hn, blkSet hw (by omega)⟩
                  case measure => simp [intOf]; omega)
              · obtain rfl : j = pl.length + 1 := by omega
                rw [← pMvs_step] at hs2
                obtain ⟨e0, e1, e2, e3⟩ := blk4 hs2.out.hd
                go_wp2_with fail
                go_roundw
                case rel => exact ⟨k + 1, vm2, by omega, by go_num, hs2, hK2⟩
                case measure => simp [intOf]; omega
          · obtain rfl : k = pl.length + 1 := by omega
            obtain ⟨MV, hMV⟩ : ∃ z, z = pMvs t.flat FS FL pl (pl.length + 1) := ⟨_, rfl⟩
            rw [← hMV] at hs
            have HMV := Lib.hid hMV; clear hMV hK KM10 HS11 hlt
            go_wp2_with fail
            refine (hasEmpty_c t HT.out HL.out _ wq (HE5.out wq hs.out.bel)).mono ?_
            rintro e w11 ⟨rfl, hb⟩
            have HS12 : Hid (NSt w5 w11 (B + 1 + 1 + 1) (B + 5) ((pl.length : Int) + 1) vm (.slice (some ⟨B + 1 + 1, 0, none⟩) 1 1) (.slice none 0 0) MV [0] []) := Lib.hid (hs.out.stay hb)
            clear hb hs
            obtain ⟨nb, hnb⟩ : ∃ z, z = t.nul := ⟨_, rfl⟩
            rw [← hnb]
            have HNB := Lib.hid hnb; clear hnb
            obtain ⟨es0, hes⟩ : ∃ z : List Int, z = if nb then [0] else [] := ⟨_, rfl⟩
            have HES := Lib.hid hes; clear hes
            have hes1 : es0.length ≤ 1 := by rw [HES.out]; split <;> simp
            cases nb
            case' false =>
              obtain ⟨ve0, hve⟩ : ∃ z, z = Value.slice none 0 0 := ⟨_, rfl⟩
              have HS13 : Hid (NSt w5 w11 (B + 1 + 1 + 1) (B + 5) ((pl.length : Int) + 1) vm (.slice (some ⟨B + 1 + 1, 0, none⟩) 1 1) ve0 MV [0] es0) := by rw [hve, show es0 = [] from HES.out]; exact HS12
              clear HS12 hve
              generalize w11 = wz at *
              go_wp2_with fail
            case' true =>
              obtain ⟨ve1, hve⟩ : ∃ z, z = Value.slice none 0 0 := ⟨_, rfl⟩
              replace HS12 : Hid (NSt w5 w11 (B + 1 + 1 + 1) (B + 5) ((pl.length : Int) + 1) vm (.slice (some ⟨B + 1 + 1, 0, none⟩) 1 1) ve1 MV [0] []) := by rw [hve]; exact HS12
              clear hve
              obtain ⟨e0, e1, e2, e3⟩ := blk4 HS12.out.hd
              have hl0 : ([] : List Int).length ≤ 1000000000 := by simp
              have Hl0 := Lib.hid hl0; clear hl0
              go_wp2_with (at_builtin; refine appInt rfl (.tmp 83) (.tmp 84) rfl (B + 5) ve1 [] 0 w11 rfl rfl HS12.out.en Hl0.out HS12.out.eB.2 ?_; intro v1 w6 h6 hg6; obtain ⟨a1, n1, ca1, rfl⟩ := h6.out.sl; obtain ⟨f0, f1, f2, f3⟩ := blk4 (HS12.out.hdE hg6); have f4 := blkFz (HS12.out.hdE hg6) 3; have HS13 := Lib.hid (HS12.out.addE (fun b hb => by cases hb; show B + 1 + 1 < B + 5; omega) hg6 h6.out))
              obtain ⟨ve0, hve⟩ : ∃ z, z = Value.slice a1 n1 ca1 := ⟨_, rfl⟩
              rw [← hve] at HS13 ⊢
              clear hve h6 hg6 f0 f1 f2 f3 f4 e0 e1 e2 e3 HS12
              replace HS13 : Hid (NSt w5 (w6.setCell ⟨B + 1 + 1 + 1, 3, none⟩ ve0) (B + 1 + 1 + 1) (B + 5) ((pl.length : Int) + 1) vm (.slice (some ⟨B + 1 + 1, 0, none⟩) 1 1) ve0 MV [0] es0) := by rw [show es0 = [0] from HES.out]; exact HS13
              generalize w6.setCell ⟨B + 1 + 1 + 1, 3, none⟩ ve0 = wz at *
            all_goals (
              refine (LastPlaces_c _ t.flat wz (HE5.out _ HS13.out.bel)).mono ?_
              rintro x w13 ⟨lv, rfl, hb, ho⟩
              rw [HLP.out] at ho
              obtain ⟨al, cl, rfl, _⟩ := ho.out.shape
              obtain ⟨LS, hLS⟩ : ∃ z, z = t.lps 0 := ⟨_, rfl⟩
              rw [← hLS] at ho ⊢
              have HLM : Hid (∀ x ∈ LS, x ∈ pl) := Lib.hid (fun x hx => by rw [hLS] at hx; rw [HPL.out]; exact let_lpk (lps_let t 0 x hx))
              have hls60 : LS.length ≤ 60 := by rw [hLS]; have := lps_len t 0; have := HL.out; omega
              have HLS := Lib.hid hLS; clear hLS
              have HS14 : Hid (NSt w5 w13 (B + 1 + 1 + 1) (B + 5) ((pl.length : Int) + 1) vm (.slice (some ⟨B + 1 + 1, 0, none⟩) 1 1) ve0 MV [0] es0) := Lib.hid (HS13.out.stay hb)
              have HZZ : Hid (∀ b, ve0.ownBlock = some b → b < wz.heap.size) := Lib.hid (fun b hb => (World.ownsRow.lt HS13.out.en b hb).2)
              have HLB : Hid (∀ b, (Value.slice al LS.length cl).ownBlock = some b → wz.heap.size ≤ b ∧ b < w13.heap.size) := Lib.hid (fun b hb => World.ownsRow.lt ho.out b hb)
              clear HS13 hb
              go_wp2_with fail
              go_loopw [90] (fun i wr => ∃ (k : Nat) (ve : Value), k ≤ LS.length ∧ i = .int .i64 k ∧ Hid (NSt w5 wr (B + 1 + 1 + 1) (B + 5) ((pl.length : Int) + 1) vm (.slice (some ⟨B + 1 + 1, 0, none⟩) 1 1) ve MV [0] (es0 ++ (LS.take k).map fun a => ((pl.idxOf a : Nat) : Int) + 1)) ∧ Hid (OwnI wr wz.heap.size (.slice al LS.length cl) LS) ∧ Hid (∀ b, ve.ownBlock = some b → b < wz.heap.size ∨ w13.heap.size ≤ b) ∧ Hid (w13.heap.size ≤ wr.heap.size)) (fun i _ => LS.length - (intOf i).toNat)
              case atStart => exact ⟨0, ve0, by omega, rfl, by simpa using HS14, ho, Lib.hid (fun b hb => .inl (HZZ.out b hb)), Nat.le_refl _⟩
              case round =>
                obtain ⟨k, ve, hk, rfl, hs, hol, hvb, hwz⟩ := hrel
                generalize wr = wq at *
                by_cases hlt : k < LS.length
                · obtain ⟨bx, ox, rfl, x0⟩ := hol.out.rd.at hlt
                  have HXM := Lib.hid (HLM.out _ (List.getElem_mem hlt))
                  have HTK := Lib.hid (List.take_succ_eq_append_getElem hlt)
                  obtain ⟨xk, hxk⟩ : ∃ x, x = LS[k] := ⟨_, rfl⟩
                  rw [← hxk] at x0 HXM HTK
                  clear hxk
                  obtain ⟨H4, H5, HPI⟩ := HC5.out wq hs.out.bel
                  have c5 := cell_of_row wq (B + 1) 0 _ _ _ H5
                  simp only [List.getElem?_toArray, List.getElem?_cons_zero] at c5
                  have HST := Lib.hid (state_c (S := fun _ => True) (w := wq.drew) H4 (HPI.stay (kpB (Below.refl _ _).drew)) hu0.out hp60 xk HXM.out)
                  obtain ⟨j, hj⟩ : ∃ j : Nat, j = pl.idxOf xk := ⟨_, rfl⟩
                  rw [← hj] at HST
                  have Hj := Lib.hid hj; clear hj H4 H5 HPI
                  obtain ⟨e0, e1, e2, e3⟩ := blk4 hs.out.hd
                  have HSD : Hid (NSt w5 wq.drew _ _ _ _ _ _ _ _ _) := Lib.hid (hs.out.stay (Below.refl _ _).drew)
                  have HOD : Hid (OwnI wq.drew wz.heap.size (.slice (some ⟨bx, ox, none⟩) LS.length cl) LS) := hol
                  have hel : (es0 ++ (LS.take k).map fun a => ((pl.idxOf a : Nat) : Int) + 1).length ≤ 1000000000 := by
                    rw [List.length_append, List.length_map, List.length_take]; omega
                  have Hel := Lib.hid hel; clear hel
                  obtain ⟨EL, hEL⟩ : ∃ z, z = es0 ++ (LS.take k).map fun a => ((pl.idxOf a : Nat) : Int) + 1 := ⟨_, rfl⟩
                  rw [← hEL] at HSD Hel
                  have HEL := Lib.hid hEL; clear hEL
                  go_wp2_with fail
                  have e3D : wq.drew.cell? ⟨B + 1 + 1 + 1, 3, none⟩ = some ve := e3
                  have c5D : wq.drew.cell? ⟨B + 1, 0, none⟩ = _ := c5
                  have e3A : (wq.drew.alloc (.cells #[.int .i64 ((j : Int) + 1)] 3)).cell? ⟨B + 1 + 1 + 1, 3, none⟩ = some ve := kpAlloc (S := fun _ => True) _ _ trivial e3D
                  have e3B : (wq.alloc (.cells #[.int .i64 ((j : Int) + 1)] 3)).drew.cell? ⟨B + 1 + 1 + 1, 3, none⟩ = some ve := e3A
                  have hszD := HSD.out.eB.2
                  go_region_law
                    (first
                      | (go_simp
                         refine HST.out.mono ?_
                         rintro e w' ⟨rfl, rfl⟩)
                      | (refine stepAppAt elInt (by decide) rfl (.tmp 95) (.tmp 99) rfl (B + 5) ve _ _ [.int .i64 ((j : Int) + 1)] _ wq.heap.size rfl rfl (HSD.out.en.alloc _) (by exact blkNew _ _ rfl) rfl (by simp [Value.oneCell']) (by exact Hel.out) (by have hh : B + 5 ≤ wq.heap.size := HSD.out.eB.2; simp; omega) ?_
                         intro g7 cap7 w7 ho7 hg7 hat7
                         have hg8 : wq.drew.grownBy w7 _ := grownTrans (grownBel ((Below.refl _ _).alloc (Nat.le_refl _) _)) hg7
                         have HX7 := Lib.hid (HSD.out.hdE hg8)
                         obtain ⟨f0, f1, f2, f3⟩ := blk4 HX7.out
                         have f4 := blkFz HX7.out 3))
                  all_goals (
                    have hn := HSD.out.addE (fun b hb => by cases hb; show B + 1 + 1 < B + 5; omega) hg8 (es' := EL ++ [(j : Int) + 1]) (by unfold OwnI; rw [List.length_append, List.map_append]; exact ho7.out)
                    have ho9 := World.ownsRow.kept HOD.out hg8 (ownApart HLB.out hvb.out)
                    have ho9 := ownSetNe ho9 (ownNe ho9 HX7.out (by decide)) (b := B + 1 + 1 + 1) (.slice (some ⟨g7, 0, none⟩) (EL.length + 1) cap7) (o := 3)
                    have hvb9 : Hid (∀ b, (Value.slice (some ⟨g7, 0, none⟩) (EL.length + 1) cap7).ownBlock = some b → b < wz.heap.size ∨ w13.heap.size ≤ b) := Lib.hid (fun b hb => by
                      cases hb
                      rcases hat7.out with h | h
                      · exact hvb.out _ h
                      · have h2 : g7 = wq.heap.size + 1 := by rw [h]; simp
                        have := hwz.out
                        exact .inr (show w13.heap.size ≤ g7 by omega))
                    have hwz9 : Hid (w13.heap.size ≤ (w7.setCell ⟨B + 1 + 1 + 1, 3, none⟩ (.slice (some ⟨g7, 0, none⟩) (EL.length + 1) cap7)).heap.size) := Lib.hid (by
                      have h1 := hg8.size
                      have h2 := hwz.out
                      have h3 : wq.drew.heap.size = wq.heap.size := rfl
                      simp [World.setCell]; omega)
                    have HTM := Lib.hid (show (LS.take (k + 1)).map (fun a => ((pl.idxOf a : Nat) : Int) + 1) = (LS.take k).map (fun a => ((pl.idxOf a : Nat) : Int) + 1) ++ [(j : Int) + 1] by rw [HTK.out, List.map_append, Hj.out]; rfl)
                    clear f0 f1 f2 f3 f4 e0 e1 e2 e3 e3A e3B e3D c5D c5 x0
                    go_wp2_with fail
                    go_roundw
                    case rel => exact ⟨k + 1, _, by omega, by go_num, by rw [HTM.out, ← List.append_assoc, ← HEL.out]; exact hn, ho9, hvb9, hwz9⟩
                    case measure => simp [intOf]; omega)
                · obtain rfl : k = LS.length := by omega
                  rw [List.take_length] at hs
                  have HLA := Lib.hid (lps_asc t 0).1
                  rw [← HLS.out] at HLA
                  obtain ⟨ES, hES⟩ : ∃ z, z = es0 ++ LS.map fun a => ((pl.idxOf a : Nat) : Int) + 1 := ⟨_, rfl⟩
                  rw [← hES] at hs
                  have HPA : Hid (posA t = ⟨(pl.length : Int) + 1, MV, [0], ES⟩) := Lib.hid (by
                    unfold posA
                    rw [hES, HES.out, HMV.out, ← HPL.out, ← HFS.out, ← HFL.out, ← HLS.out, ← HNB.out, pEnd_all hu0.out HLA.out HLM.out] <;> simp)
                  clear hES
                  have HPB := Lib.hid (posN_chk (t := t) (by rw [← HPL.out]; exact h40))
                  have KF := Lib.hid (blkBel hs.out.bel K2.out)
                  have HBF := Lib.hid (HB5.out.trans (hs.out.bel.mono HB5.out.size))
                  have HNF := Lib.hid (hs.out.o.base HB5.out.size)
                  have hKl : w.heap.size < wq.heap.size := (Array.getElem?_eq_some_iff.1 KF.out).1
                  obtain ⟨a1, n1, ca1, rfl⟩ := hs.out.mv.sl
                  obtain ⟨a3, n3, ca3, rfl⟩ := hs.out.en.sl
                  have HHD := Lib.hid hs.out.hd
                  clear hs hol hvb hwz HS14
                  obtain ⟨e0, e1, e2, e3⟩ := blk4 HHD.out
                  go_wp2_with fail
                  refine (NfaValid_c _ _ _ ⟨(pl.length : Int) + 1, MV, [0], ES⟩ wq HNF.out.w.rd).mono ?_
                  rintro e w15 ⟨b1, rfl, hb, hv⟩
                  rw [← HPA.out] at hv
                  have KF := Lib.hid (blkBel hb KF.out)
                  have HHD := Lib.hid (blkBel hb HHD.out)
                  have HNF := Lib.hid (HNF.out.stay hb)
                  have HBF := Lib.hid (HBF.out.trans (hb.mono HBF.out.size))
                  clear hb e0 e1 e2 e3
                  obtain ⟨d0, d1, d2, d3⟩ := blk4 KF.out
                  have g1 := blkFz KF.out
                  cases b1
                  · have hno := hbF hv; clear hv
                    have HN := Lib.hid (chkN_no hno); have HB := Lib.hid (chkB_no hno); clear hno
                    go_wp2
                    refine bodyPost_ret (v := .tuple #[.agg #[.int .i64 0, .slice none 0 0, .slice none 0 0, .slice none 0 0], .bool false]) (by simp [results, Try.results51, go_sem, d0, d1, d2, d3, g1]) rfl ⟨_, _, _, by rw [HV.out.1, HV.out.2, HPB.out.1, HPB.out.2, HN.out, HB.out]; rfl, bel4 HBF.out (Nat.le_refl _) _ _ _ _, by rw [HV.out.1, HPB.out.1, HN.out]; exact NfaO.nil _ _⟩
                  · have hyes := hbT hv; clear hv
                    have HN := Lib.hid (chkN_yes hyes); have HB := Lib.hid (chkB_yes hyes); clear hyes
                    obtain ⟨e0, e1, e2, e3⟩ := blk4 HHD.out
                    go_wp2
                    refine bodyPost_ret (v := .tuple #[.agg #[.int .i64 ((pl.length : Int) + 1), .slice a1 n1 ca1, .slice (some ⟨B + 1 + 1, 0, none⟩) 1 1, .slice a3 n3 ca3], .bool true]) (by simp [results, Try.results51, go_sem, d0, d1, d2, d3, g1]) rfl ⟨_, _, _, by rw [HV.out.1, HV.out.2, HPB.out.1, HPB.out.2, HN.out, HB.out, HPA.out], bel4 HBF.out (Nat.le_refl _) _ _ _ _, by rw [HV.out.1, HPB.out.1, HN.out, HPA.out]; exact HNF.out.set4 _ (by omega) KF.out (by decide) _ _ _ _⟩)
  · have HN := Lib.hid (posN_big (t := t) (by rw [← HPL.out]; exact h40))
    have h40I : (pl.length : Int) ≥ 40 := by omega
    obtain ⟨W3, hW3⟩ : ∃ z, z = w2.alloc (.cells #[.slice ap pl.length cp] 34) := ⟨_, rfl⟩
    have hb3 : Below w2.heap.size w2 W3 := by rw [hW3]; exact (Below.refl _ _).alloc (Nat.le_refl _) _
    have HB3 := Lib.hid (Hb.out.trans (hb3.mono Hb.out.size))
    have K2 := Lib.hid (blkBel hb3 k2.out)
    obtain ⟨e0, e1, e2, e3⟩ := blk4 k2.out
    obtain ⟨e0', e1', e2', e3'⟩ := blk4 K2.out
    have g1 := blkFz k2.out
    have g1' := blkFz K2.out
    have K4 : W3.heap[w2.heap.size]? = some (.cells #[.slice ap pl.length cp] 34 (0, 0)) := by rw [hW3]; exact blkNew _ _ rfl
    have p4 := cell_of_row W3 w2.heap.size 0 _ _ _ K4
    simp only [List.getElem?_toArray, List.getElem?_cons_zero] at p4
    have HW3 := Lib.hid hW3; clear hW3 hb3 Hb k2 ho K4
    go_wp2_with (rw [← HW3.out])
    refine bodyPost_ret (v := .tuple #[.agg #[.int .i64 0, .slice none 0 0, .slice none 0 0, .slice none 0 0], .bool false]) (by simp [results, Try.results51, go_sem, e0', e1', e2', e3', g1']) rfl ⟨_, _, _, by rw [HV.out.1, HV.out.2, HN.out.1, HN.out.2]; rfl, bel4 HB3.out (Nat.le_refl _) _ _ _ _, by rw [HV.out.1, HN.out.1]; exact NfaO.nil _ _⟩
end Go.Proofs.Ytnjddneelkdmoaa

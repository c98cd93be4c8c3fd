/- FnDfaTrim answers true: the walk. -/
import Derived.Test.YtebcnamfpajneaaDrd
import Derived.Test.YtebcnamfpajneaaGG
import Derived.Test.YtebcnamfpajneaaGI
import Derived.Test.YtebcnamfpajneaaFwr
import Derived.Deep.RegionHeld3
set_option linter.unusedSimpArgs false
set_option linter.unusedVariables false
set_option linter.unusedSectionVars false
namespace Go.Proofs.Ytebcnamfpajneaa.fnDfaTrim
open Go.RowKit
set_option maxRecDepth 100000
theorem sm_iff {A B : DfaD} : smB A B = true ↔ okD A ∧ okD B ∧ lgD A = lgD B := by
  by_cases h : okD A ∧ okD B
  · rw [smB_yes h.1 h.2]
    constructor
    · intro hx
      have hn : ¬ hasW (lg (pn A B) (pe gApart A B) (0, 0)) := fun hw => by
        have := pb_true hw
        unfold fwB at hx
        rw [this] at hx
        cases hx
      refine ⟨h.1, h.2, funext fun w => ?_⟩
      cases e1 : lgD A w <;> cases e2 : lgD B w
      · rfl
      · exact absurd ⟨w, by rw [lg_pair]; show gApart (lgD A w) (lgD B w) = true; rw [e1, e2]; rfl⟩ hn
      · exact absurd ⟨w, by rw [lg_pair]; show gApart (lgD A w) (lgD B w) = true; rw [e1, e2]; rfl⟩ hn
      · rfl
    · rintro ⟨_, _, e⟩
      have hn : ¬ hasW (lg (pn A B) (pe gApart A B) (0, 0)) := by
        rintro ⟨w, hw⟩
        rw [lg_pair] at hw
        have hw' : gApart (lgD A w) (lgD B w) = true := hw
        rw [e] at hw'
        cases hq : lgD B w <;> rw [hq] at hw' <;> cases hw'
      unfold fwB
      rw [pb_false hn]
      rfl
  · rw [smB_no h]
    exact ⟨nofun, fun hh => absurd ⟨hh.1, hh.2.1⟩ h⟩
theorem sm_comm (A B : DfaD) : smB A B = smB B A := Bool.eq_iff_iff.2 (sm_iff.trans ((⟨fun h => ⟨h.2.1, h.1, h.2.2.symm⟩, fun h => ⟨h.2.1, h.1, h.2.2.symm⟩⟩ : (okD A ∧ okD B ∧ lgD A = lgD B) ↔ (okD B ∧ okD A ∧ lgD B = lgD A)).trans sm_iff.symm))
theorem sm_self {A : DfaD} (h : okD A) : smB A A = true := sm_iff.2 ⟨h, h, rfl⟩
theorem min_iff {A B : DfaD} (hA : okD A) (hB : okD B) : (orNo (okD A) (canon (lgD A)) = orNo (okD B) (canon (lgD B))) ↔ smB A B = true := by
  rw [orNo_pos hA, orNo_pos hB, sm_iff]
  constructor
  · intro h
    refine ⟨hA, hB, ?_⟩
    rw [← canon_lgD hA, h, canon_lgD hB]
  · rintro ⟨_, _, e⟩
    rw [e]
theorem trim_trim {D : DfaD} (hD : okD D) : trimD (trimD D) = trimD D := by
  obtain ⟨M, hM⟩ : ∃ M, M = rnd (dn D) 0 D.1.length := ⟨_, rfl⟩
  have hT : trimD D = autD (dn D) (de D) M := by rw [hM]; rfl
  have hcl := trim_closed hD
  rw [← hM] at hcl
  have hlen : M.length ≤ D.1.length := by rw [hM]; exact rnd_len_le (nx := dn D) hD.1.1 (dn_lt3 hD) _
  have hz : M.idxOf 0 = 0 := by
    have h0 := rnd_zero (dn D) 0 D.1.length
    rw [← hM] at h0
    cases M with
    | nil => simp at h0
    | cons a t => simp at h0; subst h0; simp
  have hget : ∀ s ∈ M, ∃ h : M.idxOf s < M.length, M[M.idxOf s] = s := fun s hs => ⟨List.idxOf_lt_length_of_mem hs, List.getElem_idxOf _⟩
  have inj : ∀ s t, s ∈ M → t ∈ M → M.idxOf s = M.idxOf t → s = t := fun s t hs ht e => by
    obtain ⟨h1, e1⟩ := hget s hs
    obtain ⟨h2, e2⟩ := hget t ht
    rw [← e1, ← e2]
    simp only [e]
  have hom1 : ∀ s ∈ M, ∀ c, c < 3 → M.idxOf (dn D s c) = dn (trimD D) (M.idxOf s) c := fun s hs c hc => by
    obtain ⟨h1, e1⟩ := hget s hs
    rw [hT, aut_dn h1 hc, e1]
  have hom : ∀ s, s ∈ M → M.idxOf (dn D s 0) = dn (trimD D) (M.idxOf s) 0 ∧ M.idxOf (dn D s 1) = dn (trimD D) (M.idxOf s) 1 ∧ M.idxOf (dn D s 2) = dn (trimD D) (M.idxOf s) 2 :=
    fun s hs => ⟨hom1 s hs 0 (by omega), hom1 s hs 1 (by omega), hom1 s hs 2 (by omega)⟩
  have h0M : 0 ∈ M := by rw [hM]; exact List.mem_of_getElem? (rnd_zero (dn D) 0 D.1.length)
  have hmap : ∀ k, (rnd (dn D) 0 k).map M.idxOf = rnd (dn (trimD D)) 0 k := fun k => by
    have := rnd_map (nx := dn D) (ny := dn (trimD D)) (h := M.idxOf) (P := (· ∈ M)) inj (fun s hs => hcl s hs) hom (s0 := 0) h0M k
    rwa [hz] at this
  have hT1 : (trimD D).1.length = M.length := by rw [hT, aut_len]
  have hr : rnd (dn (trimD D)) 0 (trimD D).1.length = M.map M.idxOf := by
    rw [hT1]
    have hle : (rnd (dn (trimD D)) 0 M.length).length ≤ M.length := by
      have := rnd_len_le (nx := dn (trimD D)) (n := (trimD D).1.length) (trim_ok hD).1.1 (dn_lt3 (trim_ok hD)) M.length
      rwa [hT1] at this
    rw [← rnd_done (dn (trimD D)) hle hlen, ← hmap, ← hM]
  have hen : ∀ s, s ∈ M → de D s = de (trimD D) (M.idxOf s) := fun s hs => by
    obtain ⟨h1, e1⟩ := hget s hs
    rw [hT, aut_de h1, e1]
  show autD (dn (trimD D)) (de (trimD D)) (rnd (dn (trimD D)) 0 (trimD D).1.length) = trimD D
  rw [hr, ← autD_map (nx := dn D) (ny := dn (trimD D)) (h := M.idxOf) (P := (· ∈ M)) inj (fun s hs => hcl s hs) hom (en := de D) hen (fun s hs => hs), ← hT]
theorem trim_le {D : DfaD} (hD : okD D) : (trimD D).1.length ≤ D.1.length := by
  show (autD (dn D) (de D) (rnd (dn D) 0 D.1.length)).1.length ≤ _
  rw [aut_len]
  exact rnd_len_le (nx := dn D) hD.1.1 (dn_lt3 hD) _
set_option maxHeartbeats 2000000 in
theorem walk (w : World) (v : Value) (bs : List UInt8) (h : Bytes (fun _ => True) w v bs) :
    Calls Try.prog 5 #[v] w (Yes w) := by
  obtain ⟨a, cap, rfl, hn⟩ := h.shape
  have H := Lib.hid h; clear h
  by_cases hl : 1048576 < bs.length
  · go_enter Try.func5, Try.ntmps5
    go_wp2
    go_ret
    exact ⟨rfl, Below.refl _ _⟩
  · go_enter Try.func5, Try.ntmps5
    go_wp2_with fail
    refine (DrawDfaTrim_c _ _ _ H.out).mono ?_
    rintro e w1 ⟨D, v1, v2, rfl, hb1, hd1⟩
    clear H hn hl
    obtain ⟨aD, cD, bD, dD, rfl, rfl, hnD, hmD⟩ := (hd1.out).shapes
    obtain ⟨W1, hW1, HN, XD⟩ := boxed hb1 (hd1.out)
    have HB := HN; clear HN
    have HW := Lib.hid hW1; clear hW1
    have zD0 := XD.out.c0
    have zD1 := XD.out.c1
    rw [HW.out] at zD0 zD1
    go_wp2_with fail
    rw [← HW.out]; clear HW
    clear zD0 zD1
    refine (iDfaTrim_c (.slice aD D.1.length cD) (.slice bD D.2.length dD) D W1 XD.out.r).mono ?_
    rintro e w2 ⟨x1, x2, rfl, hb, hx⟩
    obtain ⟨X, hX⟩ : ∃ X, X = orNo (okD D) (trimD D) := ⟨_, rfl⟩
    rw [← hX] at hx
    replace hX := Lib.hid hX
    obtain ⟨aX, cX, bX, dX, rfl, rfl, hnX, hmX⟩ := (hx.out.rd).shapes
    obtain ⟨W2, hW2, HN, XX⟩ := boxed hb (hx.out.rd)
    replace XD := Lib.hid (XD.out.stay HN.out)
    replace HB := Lib.hid (belUp HB.out HN.out); clear HN
    have HW := Lib.hid hW2; clear hW2
    clear hx hb
    have zD0 := XD.out.c0
    have zD1 := XD.out.c1
    have zX0 := XX.out.c0
    have zX1 := XX.out.c1
    rw [HW.out] at zD0 zD1 zX0 zX1
    go_wp2_with fail
    rw [← HW.out]; clear HW
    clear zD0 zD1 zX0 zX1

    have hS : Hid (∀ w', Below W2.heap.size W2 w' → w'.cell? ⟨w2.heap.size, 0, none⟩ = some (.slice aX X.1.length cX) ∧ w'.cell? ⟨w2.heap.size, 1, none⟩ = some (.slice bX X.2.length dX) ∧ w'.cell? ⟨w1.heap.size, 0, none⟩ = some (.slice aD D.1.length cD) ∧ w'.cell? ⟨w1.heap.size, 1, none⟩ = some (.slice bD D.2.length dD)) := fun w' hb => ⟨(XX.out.stay hb).c0, (XX.out.stay hb).c1, (XD.out.stay hb).c0, (XD.out.stay hb).c1⟩
    have hb0 := (Below.refl W2.heap.size W2).drew
    go_region_held3 (fun w' => w'.cell? ⟨w2.heap.size, 0, none⟩ = some (.slice aX X.1.length cX) ∧ w'.cell? ⟨w2.heap.size, 1, none⟩ = some (.slice bX X.2.length dX) ∧ w'.cell? ⟨w1.heap.size, 0, none⟩ = some (.slice aD D.1.length cD) ∧ w'.cell? ⟨w1.heap.size, 1, none⟩ = some (.slice bD D.2.length dD))
      (exact hS.out _ (by assumption))
      (first
        | (go_at_call 26; refine ((DfaTrim_c (.slice aD D.1.length cD) (.slice bD D.2.length dD) D _ (XD.out.stay (by assumption)).r)).mono ?_; rintro e w3x ⟨y1, y2, rfl, hb3, hy3⟩; have hc0 := belUp (w := W2) (by first | assumption | exact belUp (by assumption) (belAlloc _ _)) hb3)
        | (go_at_call 25; refine (sameDfa_c (.slice aX X.1.length cX) (.slice bX X.2.length dX) y1 y2 X (orNo (okD D) (trimD D)) _ (XX.out.stay (by assumption)).r hy3.out.rd).mono ?_; rintro e W2x ⟨b, rfl, hb4, hp4⟩; have hc1 := belUp (w := W2) (by first | assumption | exact belUp (by assumption) (belAlloc _ _)) hb4))
    obtain rfl : b = true := hp4.out.2 hX.out
    replace XD := Lib.hid (XD.out.stay hc1)
    replace XX := Lib.hid (XX.out.stay hc1)
    replace HB := Lib.hid (belUp HB.out (hc1))
    clear hp4 hb4 hb3 hy3 hc0 hc1 hb0 hS
    have zD0 := XD.out.c0
    have zD1 := XD.out.c1
    go_wp2_with fail
    clear zD0 zD1
    refine (sDfaValid_c (.slice aD D.1.length cD) (.slice bD D.2.length dD) D W2x XD.out.r).mono ?_
    rintro e w3 ⟨okd, rfl, hb, hokd⟩
    replace XD := Lib.hid (XD.out.stay hb)
    replace XX := Lib.hid (XX.out.stay hb)
    replace HB := Lib.hid (belUp HB.out (hb))
    clear hb
    cases okd
    · have hX0 : X = ([], []) := by rw [hX.out]; exact orNo_neg (hbF hokd) _
      subst hX0
      have zX0 := XX.out.c0
      have zX1 := XX.out.c1
      go_wp2_with fail
      clear zX0 zX1
      refine (alive_c _).mono ?_
      rintro e w9 ⟨b9, rfl, rfl, hb9⟩
      obtain rfl : b9 = true := hb9.out.2 trivial
      go_wp2
      go_ret
      exact ⟨rfl, HB.out⟩
    · have hy := Lib.hid (hbT hokd); clear hokd
      have hXT : Hid (X = trimD D) := by rw [hX.out]; exact orNo_pos hy.out _
      have hXo : Hid (okD X) := by rw [hXT.out]; exact trim_ok hy.out
      have hle : (X.1.length : Int) ≤ (D.1.length : Int) := by rw [hXT.out]; have := trim_le hy.out; omega
      have hsm : Hid (smB X D = true) := sm_iff.2 ⟨hXo.out, hy.out, by rw [hXT.out]; exact trim_lg hy.out⟩
      have htt : Hid (orNo (okD X) (trimD X) = X) := by rw [orNo_pos hXo.out, hXT.out]; exact trim_trim hy.out
      have zD0 := XD.out.c0
      have zD1 := XD.out.c1
      have zX0 := XX.out.c0
      have zX1 := XX.out.c1
      go_wp2_with fail
      clear zD0 zD1 zX0 zX1
      have hS : Hid (∀ w', Below w3.heap.size w3 w' → w'.cell? ⟨w1.heap.size, 0, none⟩ = some (.slice aD D.1.length cD) ∧ w'.cell? ⟨w1.heap.size, 1, none⟩ = some (.slice bD D.2.length dD) ∧ w'.cell? ⟨w2.heap.size, 0, none⟩ = some (.slice aX X.1.length cX) ∧ w'.cell? ⟨w2.heap.size, 1, none⟩ = some (.slice bX X.2.length dX)) := fun w' hb => ⟨(XD.out.stay hb).c0, (XD.out.stay hb).c1, (XX.out.stay hb).c0, (XX.out.stay hb).c1⟩
      have hb0 := (Below.refl w3.heap.size w3).drew
      go_region_held3 (fun w' => w'.cell? ⟨w1.heap.size, 0, none⟩ = some (.slice aD D.1.length cD) ∧ w'.cell? ⟨w1.heap.size, 1, none⟩ = some (.slice bD D.2.length dD) ∧ w'.cell? ⟨w2.heap.size, 0, none⟩ = some (.slice aX X.1.length cX) ∧ w'.cell? ⟨w2.heap.size, 1, none⟩ = some (.slice bX X.2.length dX))
        (exact hS.out _ (by assumption))
        (first
          | (go_at_call 16; refine ((DfaValid_c (.slice aX X.1.length cX) (.slice bX X.2.length dX) X _ (XX.out.stay (by assumption)).r)).mono ?_; rintro e p5 ⟨b5, rfl, hb5, hp5⟩; have hc0 := belUp (w := w3) (by first | assumption | exact belUp (by assumption) (belAlloc _ _)) hb5; obtain rfl : b5 = true := hp5.out.2 hXo.out)
          | (go_at_call 27; refine ((SameLanguage_c (.slice aX X.1.length cX) (.slice bX X.2.length dX) (.slice aD D.1.length cD) (.slice bD D.2.length dD) X D _ (XX.out.stay (by assumption)).r (XD.out.stay (by assumption)).r)).mono ?_; rintro e p6 ⟨rfl, hb6⟩; have hc1 := belUp (w := w3) (by first | assumption | exact belUp (by assumption) (belAlloc _ _)) hb6; rw [hsm.out])
          | (go_at_call 24; refine ((iDfaTrim_c (.slice aX X.1.length cX) (.slice bX X.2.length dX) X _ (XX.out.stay (by assumption)).r)).mono ?_; rintro e p7 ⟨y1, y2, rfl, hb7, hy7⟩; have hc2 := belUp (w := w3) (by first | assumption | exact belUp (by assumption) (belAlloc _ _)) hb7; rw [htt.out] at hy7)
          | (go_at_call 25; refine (sameDfa_c y1 y2 (.slice aX X.1.length cX) (.slice bX X.2.length dX) X X _ (by first | (with_reducible exact hy7.out.rd) | exact hy7.out.rd.stay (kpB (belAlloc _ _)) | exact hy7.out.rd.stay (kpB (by assumption)) | exact hy7.out.rd.stay (kpB (belUp (by assumption) (belAlloc _ _))) | exact hy7.out.rd.stay (kpB (belUp (belAlloc _ _) (by assumption)))) (XX.out.stay (by assumption)).r).mono ?_; rintro e p8 ⟨b8, rfl, hb8, hp8⟩; have hc3 := belUp (w := w3) (by first | assumption | exact belUp (by assumption) (belAlloc _ _)) hb8; obtain rfl : b8 = true := hp8.out.2 rfl))
      all_goals (
        go_wp2
        go_ret
        exact ⟨rfl, belUp HB.out hc3⟩)
end Go.Proofs.Ytebcnamfpajneaa.fnDfaTrim

/- FnUselessOne answers true: the walk. -/
import Derived.Test.YtebcnamfpajneaaDrd
import Derived.Test.YtebcnamfpajneaaGG
import Derived.Test.YtebcnamfpajneaaGI
import Derived.Test.YtebcnamfpajneaaUsf
import Derived.Deep.RegionHeld3
set_option linter.unusedSimpArgs false
set_option linter.unusedVariables false
set_option linter.unusedSectionVars false
namespace Go.Proofs.Ytebcnamfpajneaa.fnUselessOne
open Go.RowKit
set_option maxRecDepth 100000
theorem lg_self (K : Lg) : lg dv (fun L => L []) K = K := by
  funext w
  have key : ∀ (w : List (Fin 3)) (K : Lg), lg dv (fun L => L []) K w = K w := by
    intro w
    induction w with
    | nil => intro K; rfl
    | cons c w ih =>
      intro K
      show lg dv (fun L => L []) (dv K c.val) w = K (c :: w)
      rw [ih]
      show K (Fin.ofNat 3 c.val :: w) = _
      have : Fin.ofNat 3 c.val = c := Fin.ext (Nat.mod_eq_of_lt c.isLt)
      rw [this]
  exact key w K
/-- The smallest automaton's states are told apart by words. -/
theorem canon_red {D : DfaD} (h : okD D) {s t : Nat} (hs : s < (canon (lgD D)).1.length) (ht : t < (canon (lgD D)).1.length)
    (he : lg (dn (canon (lgD D))) (de (canon (lgD D))) s = lg (dn (canon (lgD D))) (de (canon (lgD D))) t) : s = t := by
  classical
  have hk := canon_ok h
  obtain ⟨M, hM⟩ : ∃ M, M = lgM (lgD D) := ⟨_, rfl⟩
  have hc : canon (lgD D) = autD dv (fun L => L []) M := by rw [hM]; rfl
  rw [hc] at hs ht he hk
  have hlen : (autD dv (fun L => L []) M).1.length = M.length := aut_len
  rw [hlen] at hs ht
  have h40 : M.length ≤ 40 := by rw [← hlen]; exact hk.1.2
  have hcl : ∀ K ∈ M, dv K 0 ∈ M ∧ dv K 1 ∈ M ∧ dv K 2 ∈ M := by
    rw [hM] at h40 ⊢
    exact rnd_closed dv (k := 2000) (by show (lgM (lgD D)).length ≤ 2000; omega)
  have hnd : M.Nodup := by rw [hM]; exact rnd_nodup dv _ _
  rw [aut_lgs hcl hs, aut_lgs hcl ht, lg_self, lg_self] at he
  rcases Nat.lt_trichotomy s t with h1 | h1 | h1
  · exact absurd he (List.pairwise_iff_getElem.1 hnd s t hs ht h1)
  · exact h1
  · exact absurd he.symm (List.pairwise_iff_getElem.1 hnd t s ht hs h1)
theorem all_met {n : Nat} {l : List Nat} (hn : l.Nodup) (hl : ∀ x ∈ l, x < n) (he : l.length = n) {s : Nat} (hs : s < n) : s ∈ l := by
  apply Classical.byContradiction
  intro hm
  have := nodup_le (n := n) (l := s :: l) (List.nodup_cons.2 ⟨hm, hn⟩) (fun x hx => by
    rcases List.mem_cons.1 hx with rfl | hx
    · exact hs
    · exact hl x hx)
  simp at this
  omega
theorem canon_all {D : DfaD} (h : okD D) {s : Nat} (hs : s < (canon (lgD D)).1.length) : s ∈ rnd (dn (canon (lgD D))) 0 (canon (lgD D)).1.length := by
  classical
  have hk := canon_ok h
  have hle := rnd_len_le (nx := dn (canon (lgD D))) hk.1.1 (dn_lt3 hk) (canon (lgD D)).1.length
  have hall := rnd_all (dn (canon (lgD D))) (P := (· < (canon (lgD D)).1.length)) (s0 := 0) hk.1.1 (dn_lt3 hk) (canon (lgD D)).1.length
  have hc := canon_of (nx := dn (canon (lgD D))) (en := de (canon (lgD D))) (P := (· < (canon (lgD D)).1.length)) (s0 := 0) hk.1.1 (dn_lt3 hk) (fun s t hs ht he => canon_red h hs ht he) hle (by have := hk.1.2; omega)
  have hl : lg (dn (canon (lgD D))) (de (canon (lgD D))) 0 = lgD D := canon_lgD h
  have e2 : (rnd (dn (canon (lgD D))) 0 (canon (lgD D)).1.length).length = (canon (lgD D)).1.length := by
    have h1 := congrArg List.length hc.2
    rw [List.length_map, hl] at h1
    have h2 : (canon (lgD D)).1.length = (lgM (lgD D)).length := aut_len
    rw [h1, ← h2]
  exact all_met (rnd_nodup _ _ _) hall e2 hs
theorem count_le_one {p : Nat → Bool} {n : Nat} (h : ∀ s t, s < n → t < n → p s = false → p t = false → s = t) : ((List.range n).map p).count false ≤ 1 := by
  induction n with
  | zero => simp
  | succ n ih =>
    rw [List.range_succ, List.map_append, List.count_append]
    have h1 := ih fun s t hs ht => h s t (by omega) (by omega)
    rcases hp : p n
    · have h0 : ((List.range n).map p).count false = 0 := by
        rw [List.count_eq_zero]
        intro hm
        obtain ⟨s, hs, e⟩ := List.mem_map.1 hm
        have hs' := List.mem_range.1 hs
        have := h s n (by omega) (by omega) e hp
        omega
      rw [h0]
      simp [hp]
    · have h0 : (List.map p [n]).count false = 0 := by simp [hp]
      rw [h0]
      omega
theorem law (D : DfaD) : (ubL (orNo (okD D) (canon (lgD D)))).count false ≤ 1 := by
  by_cases h : okD D
  · rw [orNo_pos h, ubL_pos (canon_ok h)]
    refine count_le_one fun s t hs ht es et => ?_
    have key : ∀ s, s < (canon (lgD D)).1.length → uB (rnd (dn (canon (lgD D))) 0 (canon (lgD D)).1.length) (leadB (canon (lgD D))) s = false → lg (dn (canon (lgD D))) (de (canon (lgD D))) s = fun _ => false := by
      intro s hs es
      have hm := canon_all h hs
      have hl : leadB (canon (lgD D)) s = false := by simpa [uB, hm] using es
      funext w
      cases hw : lg (dn (canon (lgD D))) (de (canon (lgD D))) s w
      · rfl
      · have := leadB_iff.2 (⟨w, hw⟩ : lead (canon (lgD D)) s)
        rw [hl] at this
        cases this
    exact canon_red h hs ht (by rw [key s hs es, key t ht et])
  · rw [orNo_neg h, ubL_neg not_ok_nil]
    simp
theorem count_step {xs : List Bool} {k : Nat} (h : k < xs.length) : (xs.take (k + 1)).count false = (xs.take k).count false + (if xs[k] = false then 1 else 0) := by
  rw [List.take_succ_eq_append_getElem h, List.count_append]
  congr 1
  cases hx : xs[k] <;> simp
set_option maxHeartbeats 2000000 in
theorem walk (w : World) (v : Value) (bs : List UInt8) (h : Bytes (fun _ => True) w v bs) :
    Calls Try.prog 7 #[v] w (Yes w) := by
  obtain ⟨a, cap, rfl, hn⟩ := h.shape
  have H := Lib.hid h; clear h
  by_cases hl : 1048576 < bs.length
  · go_enter Try.func7, Try.ntmps7
    go_wp2
    go_ret
    exact ⟨rfl, Below.refl _ _⟩
  · go_enter Try.func7, Try.ntmps7
    go_wp2_with fail
    refine (DrawUsefulStates_c _ _ _ H.out).mono ?_
    rintro e w1 ⟨D, v1, v2, rfl, hb1, hd1⟩
    clear H hn hl
    obtain ⟨aD, cD, bD, dD, rfl, rfl, hnD, hmD⟩ := (hd1.out).shapes
    obtain ⟨W1, hW1, HN, XD⟩ := boxed hb1 (hd1.out)
    have HB := HN; clear HN
    have HW := Lib.hid hW1; clear hW1
    have zD0 := XD.out.c0
    have zD1 := XD.out.c1
    rw [HW.out] at zD0 zD1
    go_wp2_with fail
    rw [← HW.out]; clear HW
    clear zD0 zD1
    have hS : Hid (∀ w', Below W1.heap.size W1 w' → w'.cell? ⟨w1.heap.size, 0, none⟩ = some (.slice aD D.1.length cD) ∧ w'.cell? ⟨w1.heap.size, 1, none⟩ = some (.slice bD D.2.length dD)) := fun w' hb => ⟨(XD.out.stay hb).c0, (XD.out.stay hb).c1⟩
    have hb0 := (Below.refl W1.heap.size W1).drew
    go_region_held3 (fun w' => w'.cell? ⟨w1.heap.size, 0, none⟩ = some (.slice aD D.1.length cD) ∧ w'.cell? ⟨w1.heap.size, 1, none⟩ = some (.slice bD D.2.length dD))
      (exact hS.out _ (by assumption))
      (first
        | (go_at_call 31; refine ((UsefulStates_c (.slice aD D.1.length cD) (.slice bD D.2.length dD) D _ (XD.out.stay (by assumption)).r)).mono ?_; rintro e p5 ⟨y1, rfl, hb5, hy5⟩; have hc0 := belUp (w := W1) (by first | assumption | exact belUp (by assumption) (belAlloc _ _)) hb5)
        | (go_at_call 32; refine ((sUsefulStates_c (.slice aD D.1.length cD) (.slice bD D.2.length dD) D _ (XD.out.stay (by assumption)).r)).mono ?_; rintro e p6 ⟨z1, rfl, hb6, hy6⟩; have hc1 := belUp (w := W1) (by first | assumption | exact belUp (by assumption) (belAlloc _ _)) hb6)
        | (go_at_call 30; refine (sameFlags_c y1 z1 (ubL D) (ubL D) _ (by first | exact hy5.out.fl | exact hy5.out.fl.stay (kpB (by assumption))) (by first | exact hy6.out.fl | exact hy6.out.fl.stay (kpB (by assumption)))).mono ?_; rintro e p7 ⟨b7, rfl, hb7, hp7⟩; have hc2 := belUp (w := W1) (by first | assumption | exact belUp (by assumption) (belAlloc _ _)) hb7; obtain rfl : b7 = true := hp7.out.2 rfl))
    all_goals (
      replace XD := Lib.hid (XD.out.stay hc2)
      replace HB := Lib.hid (belUp HB.out (hc2))
      clear hS hb0 hc0 hc1 hc2 hb5 hb6 hb7 hy5 hy6 hp7
      have zD0 := XD.out.c0
      have zD1 := XD.out.c1
      go_wp2_with fail
      clear zD0 zD1
      refine (Minimize_c (.slice aD D.1.length cD) (.slice bD D.2.length dD) D p7 XD.out.r).mono ?_
      rintro e wm ⟨x1, x2, rfl, hb, hx⟩
      obtain ⟨M, hM⟩ : ∃ x, x = orNo (okD D) (canon (lgD D)) := ⟨_, rfl⟩
      replace hM := Lib.hid hM
      have hlaw := Lib.hid (law D)
      rw [← hM.out] at hx hlaw
      replace HB := Lib.hid (belUp HB.out hb); clear hb XD
      go_wp2_with fail
      refine (UsefulStates_c x1 x2 M wm hx.out.rd).mono ?_
      rintro e wu ⟨v, rfl, hb, hv⟩
      replace HB := Lib.hid (belUp HB.out hb); clear hb hx
      have hv2 := Lib.hid hv.out.fl; clear hv
      have hsm := ubL_small M
      obtain ⟨xs, hxs⟩ : ∃ xs, xs = ubL M := ⟨_, rfl⟩
      rw [← hxs] at hv2 hlaw hsm
      clear hxs
      have hv3 : Hid (Bools (wm.heap.size ≤ ·) wu v xs) := hv2; clear hv2
      obtain ⟨av, cv, rfl, hnv⟩ := hv3.out.shape
      go_wp2_with fail
      go_loop [5, 6] (fun c i => ∃ k m : Nat, k ≤ xs.length ∧ i = .int .i64 k ∧ c = .int .i64 m ∧ m ≤ k ∧ Hid (m = (xs.take k).count false)) (fun _ i => xs.length - (intOf i).toNat)
      case atStart => exact ⟨0, 0, by omega, rfl, rfl, by omega, by simp [Hid]⟩
      case round =>
        obtain ⟨k, m, hk, rfl, rfl, hmk, hm⟩ := hrel
        by_cases hlt : k < xs.length
        · obtain ⟨b, off, rfl, hc⟩ := hv3.out.at hlt
          have hs := Lib.hid (count_step hlt)
          generalize xs[k] = x at *
          have hkI : (k : Int) < (xs.length : Int) := by omega
          cases x
          · go_wp2
            go_round
            case rel => exact ⟨k + 1, m + 1, by omega, by go_num, by go_num, by omega, by have := hs.out; have := hm.out; simp at *; show _ = _; omega⟩
            case measure => simp [intOf]; omega
          · go_wp2
            go_round
            case rel => exact ⟨k + 1, m, by omega, by go_num, by go_num, by omega, by have := hs.out; have := hm.out; simp at *; show _ = _; omega⟩
            case measure => simp [intOf]; omega
        · obtain rfl : k = xs.length := by omega
          have hm1 : m ≤ 1 := by have := hlaw.out; have h2 := hm.out; rw [List.take_of_length_le (Nat.le_refl _)] at h2; omega
          have hm1I : (m : Int) ≤ 1 := by omega
          go_wp2_with fail
          refine (alive_c _).mono ?_
          rintro e w9 ⟨b9, rfl, rfl, hb9⟩
          obtain rfl : b9 = true := hb9.out.2 trivial
          go_wp2
          go_ret
          exact ⟨rfl, HB.out⟩)
end Go.Proofs.Ytebcnamfpajneaa.fnUselessOne

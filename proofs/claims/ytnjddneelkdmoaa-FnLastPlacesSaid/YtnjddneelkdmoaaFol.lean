/- The pairs of letters that follow each other: the program's follows hands each to a function. -/
import Derived.Deep.RegionHeld3
import Derived.Test.YtnjddneelkdmoaaEdg
import Derived.Test.YtnjddneelkdmoaaPsn
set_option linter.unusedSimpArgs false
set_option linter.unusedVariables false
set_option linter.unusedSectionVars false
namespace Go.Proofs.Ytnjddneelkdmoaa
open Go.RowKit
set_option maxRecDepth 100000
theorem kpFr {M : Nat} {w w' : World} (h : Fr (· = M) w w') : Kp (· ≠ M) w w' := (Ks.mono h.ks (fun _ hb => hb)).kp
theorem cellFr {M b o : Nat} {w w' : World} {v : Value} (h : Fr (· = M) w w') (hb : b ≠ M) (hc : w.cell? ⟨b, o, none⟩ = some v) : w'.cell? ⟨b, o, none⟩ = some v := kpFr h ⟨b, o, none⟩ v hb hc
theorem lastF {M : Nat} {e0 : List (Int × Int)} {x y : Int} {ad : Option Addr} {n cap : Nat} {w : World} (h : Pairs (· ≠ M) w (.slice ad n cap) (e0 ++ [(x, y)])) : ∃ b off, ad = some ⟨b, off, none⟩ ∧ ∀ w', Fr (· = M) w w' → w'.cell? ⟨b, off + e0.length * 2, none⟩ = some (.int .i64 x) := by
  obtain ⟨b, off, rfl, _, _⟩ := h.at (k := e0.length) (by simp)
  refine ⟨b, off, rfl, fun w' hb => ?_⟩
  obtain ⟨b', off', e, c0, _⟩ := (h.stay (kpFr hb)).at (k := e0.length) (by simp)
  cases e
  rw [List.getElem_concat_length rfl] at c0
  exact c0
theorem prodL_step (xs ys : List Int) {k : Nat} (hk : k < xs.length) : prodL (xs.take (k + 1)) ys = prodL (xs.take k) ys ++ ys.map fun b => (xs[k], b) := by
  unfold prodL; rw [List.take_succ_eq_append_getElem hk, List.flatMap_append]; simp
theorem prodL_mem {xs ys : List Int} {k j : Nat} (hk : k < xs.length) (hj : j < ys.length) : (xs[k], ys[j]) ∈ prodL xs ys := mem_prodL.2 ⟨List.getElem_mem hk, List.getElem_mem hj⟩
theorem map_step (x : Int) (ys : List Int) {j : Nat} (hj : j < ys.length) : (ys.take (j + 1)).map (fun b => (x, b)) = (ys.take j).map (fun b => (x, b)) ++ [(x, ys[j])] := by
  rw [List.take_succ_eq_append_getElem hj, List.map_append]; rfl
set_option maxHeartbeats 8000000 in
theorem follows_c {M : Nat} {I : List (Int × Int) → World → Prop} (hI : ∀ L w w', I L w → Below w.heap.size w w' → I L w') (fid : FuncId) (cs : Array Value) (hbody : HasBody fid) (A : Int × Int → Prop)
    (hadd : ∀ (L : List (Int × Int)) (w' : World) (a b : Int), A (a, b) → M < w'.heap.size → I L w' → Calls Try.prog fid (#[.int .i64 a, .int .i64 b] ++ cs) w' (fun e w'' => e = .returned (.tuple #[]) ∧ Hid (Fr (· = M) w' w'') ∧ Hid (I (L ++ [(a, b)]) w''))) :
    ∀ (t : Re), t.wf → t.flat.length ≤ 60 → plainE t.flat → ∀ (v : Value) (f : Int) (L : List (Int × Int)) (w : World), (∀ q ∈ t.fol f, A q) → M < w.heap.size → 0 ≤ f → f ≤ 1000000 - t.flat.length → Pairs (· ≠ M) w v t.flat → I L w →
    Calls Try.prog 115 #[v, .int .i64 f, .func (.func fid) #[] cs] w (fun e w' => e = .returned (.tuple #[]) ∧ Hid (Fr (· = M) w w') ∧ Hid (I (L ++ t.fol f) w')) := by
  have HI := Lib.hid hI; have HC := Lib.hid hbody; have HA := Lib.hid hadd; clear hI hbody hadd
  intro t
  induction t with
  | none =>
    intro ht hl hpl v f L w hA hM hf0 hf1 h hi
    replace h : Pairs (· ≠ M) w v [(1, 0)] := h
    obtain ⟨ad, cap, hv, _⟩ := h.shape
    change v = .slice ad 1 cap at hv
    subst hv
    have H := Lib.hid h; have HT := Lib.hid ht; have HII := Lib.hid hi; clear h hl hf1 hpl ht hi hA
    go_enter Try.func115, Try.ntmps115
    go_wp2_with fail
    refine (operands0_c _ 1 0 w H.out (by decide) (by decide)).mono ?_
    rintro e w1 ⟨rfl, hb⟩
    obtain ⟨b, off, rfl, k0, k1⟩ := (H.out.stay (kpB hb)).at (k := 0) (by show 0 < 1; decide)
    simp at k0; clear k1
    have HJ := Lib.hid (HI.out _ _ _ HII.out hb)
    have HF : Hid (Fr (· = M) w w1) := Fr.bel hb
    clear hb
    go_wp2
    go_loopw [20] (fun i wr => i = .int .i64 0 ∧ w1 = wr) (fun _ _ => 0)
    case atStart => exact ⟨rfl, rfl⟩
    case round =>
      obtain ⟨rfl, rfl⟩ := hrel
      go_wp2
      go_loopw [77] (fun i wr => i = .int .i64 0 ∧ w1 = wr) (fun _ _ => 0)
      case atStart => exact ⟨rfl, rfl⟩
      case round =>
        obtain ⟨rfl, rfl⟩ := hrel
        go_wp2
        refine bodyPost_end (v := .tuple #[]) (by simp [results, Try.results115, go_sem]) rfl ⟨rfl, HF, Lib.hid (by simpa [Re.fol] using HJ.out)⟩
  | empty =>
    intro ht hl hpl v f L w hA hM hf0 hf1 h hi
    replace h : Pairs (· ≠ M) w v [(2, 0)] := h
    obtain ⟨ad, cap, hv, _⟩ := h.shape
    change v = .slice ad 1 cap at hv
    subst hv
    have H := Lib.hid h; have HT := Lib.hid ht; have HII := Lib.hid hi; clear h hl hf1 hpl ht hi hA
    go_enter Try.func115, Try.ntmps115
    go_wp2_with fail
    refine (operands0_c _ 2 0 w H.out (by decide) (by decide)).mono ?_
    rintro e w1 ⟨rfl, hb⟩
    obtain ⟨b, off, rfl, k0, k1⟩ := (H.out.stay (kpB hb)).at (k := 0) (by show 0 < 1; decide)
    simp at k0; clear k1
    have HJ := Lib.hid (HI.out _ _ _ HII.out hb)
    have HF : Hid (Fr (· = M) w w1) := Fr.bel hb
    clear hb
    go_wp2
    go_loopw [20] (fun i wr => i = .int .i64 0 ∧ w1 = wr) (fun _ _ => 0)
    case atStart => exact ⟨rfl, rfl⟩
    case round =>
      obtain ⟨rfl, rfl⟩ := hrel
      go_wp2
      go_loopw [77] (fun i wr => i = .int .i64 0 ∧ w1 = wr) (fun _ _ => 0)
      case atStart => exact ⟨rfl, rfl⟩
      case round =>
        obtain ⟨rfl, rfl⟩ := hrel
        go_wp2
        refine bodyPost_end (v := .tuple #[]) (by simp [results, Try.results115, go_sem]) rfl ⟨rfl, HF, Lib.hid (by simpa [Re.fol] using HJ.out)⟩
  | letter c =>
    intro ht hl hpl v f L w hA hM hf0 hf1 h hi
    replace h : Pairs (· ≠ M) w v [(3, c)] := h
    obtain ⟨ad, cap, hv, _⟩ := h.shape
    change v = .slice ad 1 cap at hv
    subst hv
    have H := Lib.hid h; have HT := Lib.hid ht; have HII := Lib.hid hi; clear h hl hf1 hpl ht hi hA
    go_enter Try.func115, Try.ntmps115
    go_wp2_with fail
    refine (operands0_c _ 3 c w H.out (.inl ⟨rfl, HT.out.1, HT.out.2⟩) (by decide)).mono ?_
    rintro e w1 ⟨rfl, hb⟩
    obtain ⟨b, off, rfl, k0, k1⟩ := (H.out.stay (kpB hb)).at (k := 0) (by show 0 < 1; decide)
    simp at k0; clear k1
    have HJ := Lib.hid (HI.out _ _ _ HII.out hb)
    have HF : Hid (Fr (· = M) w w1) := Fr.bel hb
    clear hb
    go_wp2
    go_loopw [20] (fun i wr => i = .int .i64 0 ∧ w1 = wr) (fun _ _ => 0)
    case atStart => exact ⟨rfl, rfl⟩
    case round =>
      obtain ⟨rfl, rfl⟩ := hrel
      go_wp2
      go_loopw [77] (fun i wr => i = .int .i64 0 ∧ w1 = wr) (fun _ _ => 0)
      case atStart => exact ⟨rfl, rfl⟩
      case round =>
        obtain ⟨rfl, rfl⟩ := hrel
        go_wp2
        refine bodyPost_end (v := .tuple #[]) (by simp [results, Try.results115, go_sem]) rfl ⟨rfl, HF, Lib.hid (by simpa [Re.fol] using HJ.out)⟩
  | both a b iha ihb =>
    intro ht hl hpl
    exact absurd rfl (hpl (6, 0) (by simp [Re.flat])).1
  | not a iha =>
    intro ht hl hpl
    exact absurd rfl (hpl (7, 0) (by simp [Re.flat])).2
  | star a iha =>
    intro ht hl hpl v f L w hA hM hf0 hf1 h hi
    replace h : Pairs (· ≠ M) w v (a.flat ++ [(8, 0)]) := h
    have hpl' := (plainE_app (show plainE (a.flat ++ [(8, 0)]) from hpl)).1
    have hl' : a.flat.length + 1 ≤ 60 := by have : (a.flat ++ [((8 : Int), (0 : Int))]).length ≤ 60 := hl; simpa using this
    have hf1' : f ≤ 1000000 - a.flat.length := by have : (Re.star a).flat.length = a.flat.length + 1 := by simp [Re.flat]
                                                  omega
    obtain ⟨ad, cap, hv, _⟩ := h.shape
    rw [List.length_append, List.length_singleton] at hv
    subst hv
    obtain ⟨b, off, rfl, hC0⟩ := lastF h
    have IA := Lib.hid (fun (L' : List (Int × Int)) (w' : World) (v' : Value) (hM' : M < w'.heap.size) (hp : Pairs (· ≠ M) w' v' a.flat) (hi' : I L' w') => iha ht (by omega) hpl' v' f L' w' (fun q hq => hA q (by unfold Re.fol; exact List.mem_append_left _ hq)) hM' hf0 hf1' hp hi')
    have E1 := Lib.hid (fun (w' : World) (v' : Value) (hp : Pairs (· ≠ M) w' v' a.flat) (fst : Bool) => edgePlaces_c a ht (by omega) hpl' v' f fst w' hf0 hf1' hp)
    obtain ⟨xs, hxs⟩ : ∃ xs, xs = a.lps f := ⟨_, rfl⟩
    obtain ⟨ys, hys⟩ : ∃ ys, ys = a.fps f := ⟨_, rfl⟩
    have HEX := Lib.hid (show a.eps false f = xs from hxs.symm)
    have HEY := Lib.hid (show a.eps true f = ys from hys.symm)
    have HAX : Hid (∀ q ∈ prodL xs ys, A q) := Lib.hid (fun q hq => hA q (by unfold Re.fol; rw [← hxs, ← hys]; exact List.mem_append_right _ hq))
    have HLX := Lib.hid (show xs.length ≤ 1000 ∧ ys.length ≤ 1000 from by have := lps_len a f; have := fps_len a f; rw [hxs, hys]; omega)
    obtain ⟨L2, hL2⟩ : ∃ L2, L2 = L ++ a.fol f := ⟨_, rfl⟩
    have HL2 := Lib.hid (show L ++ (Re.star a).fol f = L2 ++ prodL xs ys by rw [hL2, hxs, hys]; simp [Re.fol])
    have HLA := Lib.hid (show L ++ a.fol f = L2 from hL2.symm)
    have H := Lib.hid h; have HT := Lib.hid ht; have HII := Lib.hid hi; have HMW := Lib.hid hM; clear h hl hf1 hpl ht hpl' hf1' iha hi hA hxs hys hL2 hM
    have hap := a.flat_pos
    obtain ⟨n, hn⟩ : ∃ n, n = a.flat.length := ⟨_, rfl⟩
    rw [← hn] at hC0 hl' H hap ⊢
    have HC0 := Lib.hid hC0; clear hC0
    have Hn := Lib.hid hn; clear hn
    go_enter Try.func115, Try.ntmps115
    go_wp2_with fail
    refine (operands1_c _ a 8 0 w HT.out H.out (by decide) (by decide) (by rw [← Hn.out]; omega)).mono ?_
    rintro e w1 ⟨vo, rfl, hb, ho⟩
    obtain ⟨g, c, ad2, cap2, rfl, hg0, _, kc, _, hP⟩ := ho.out.at
    rw [← Hn.out] at kc hP
    have HP := Lib.hid hP; have KC := Lib.hid kc; clear hP ho kc
    have hgM : Hid (g ≠ M) := Lib.hid (by have := HMW.out; omega)
    have HM1 : Hid (M < w1.heap.size) := Lib.hid (by have := HMW.out; have := hb.size; omega)
    have HJ1 := Lib.hid (HI.out _ _ _ HII.out hb)
    have HF1 : Hid (Fr (· = M) w w1) := Fr.bel hb
    clear hb hg0
    go_wp2
    go_loopw [20] (fun i wq => ∃ k : Nat, k ≤ 1 ∧ i = .int .i64 k ∧ Hid (Fr (· = M) w1 wq) ∧ Hid ((k = 0 ∧ I L wq) ∨ (k = 1 ∧ I L2 wq))) (fun i _ => 1 - (intOf i).toNat)
    case atStart => exact ⟨0, by omega, rfl, Fr.refl _, .inl ⟨rfl, HJ1.out⟩⟩
    case round =>
      obtain ⟨k, hk, rfl, hF, hJ⟩ := hrel
      generalize wr = wq at *
      rcases hJ.out with ⟨rfl, hJ0⟩ | ⟨rfl, hJ0⟩
      · have kq := cellFr hF.out hgM.out KC.out
        have HJ0 := Lib.hid hJ0; clear hJ hJ0
        have hzz := hF.out.size
        go_wp2_with fail
        refine (IA.out L wq _ (by have := HM1.out; omega) (HP.out.stay (kpFr hF.out)) HJ0.out).mono ?_
        rintro e w2 ⟨rfl, hF2, hJ2⟩
        rw [HLA.out] at hJ2
        go_wp2
        go_roundw
        case rel => exact ⟨1, by omega, by go_num, hF.out.trans hF2.out, .inr ⟨rfl, hJ2.out⟩⟩
        case measure => simp [intOf]
      · have kq := cellFr hF.out hgM.out KC.out
        have k0 := HC0.out wq (HF1.out.trans hF.out)
        have HJ0 := Lib.hid hJ0; clear hJ hJ0
        have HPQ := Lib.hid (HP.out.stay (kpFr hF.out))
        have KD : Hid (wq.cell? ⟨g, 0, none⟩ = some (.slice ad2 n cap2)) := Lib.hid kq
        have hzz := hF.out.size
        have HMQ : Hid (M < wq.heap.size) := Lib.hid (by have := HM1.out; omega)
        have HPA := Lib.hid (fun (w' : World) (hb : Below wq.heap.size wq w') => HPQ.out.stay (kpB hb)); have HPB := HPA
        clear HPQ
        go_wp2_with fail
        have hS : Hid (∀ w', Below wq.heap.size wq w' → w'.cell? ⟨g, 0, none⟩ = some (.slice ad2 n cap2)) := Lib.hid (fun w' hb => kpB (S := fun _ => True) hb _ _ trivial KD.out)
        have hb0 : Below wq.heap.size wq wq.drew := (Below.refl _ _).drew
        go_region_held3 (fun w' => w'.cell? ⟨g, 0, none⟩ = some (.slice ad2 n cap2))
          (exact hS.out _ (by assumption))
          (first
            | (go_at_call 90; (with_reducible refine atArgs #[.slice ad2 n cap2, .int .i64 f, .bool false] ?_); refine (E1.out _ _ (HPA.out _ (by assumption)) false).mono ?_; rintro e wA ⟨va, rfl, hbA, hoA⟩; rw [HEX.out] at hoA; obtain ⟨aX, cX, rfl, _⟩ := hoA.out.shape; have hcA := belUp (w := wq) (by assumption) hbA)
            | (go_at_call 90; (with_reducible refine atArgs #[.slice ad2 n cap2, .int .i64 f, .bool true] ?_); refine (E1.out _ _ (HPB.out _ (by assumption)) true).mono ?_; rintro e wB ⟨vb, rfl, hbB, hoB⟩; rw [HEY.out] at hoB; obtain ⟨aY, cY, rfl, _⟩ := hoB.out.shape; have hcB := belUp (w := wq) (by assumption) hbB))
        all_goals (first
          | (have hb1 := hcA.size
             have hb5 := hcB
             have hX : Hid (Ints (· ≠ M) wB (.slice aX xs.length cX) xs) := Lib.hid ((hoA.out.rd.mono (fun b hb => by have h0 : wq.heap.size ≤ b := hb; have := HMQ.out; omega)).stay (kpB hbB))
             have hY : Hid (Ints (· ≠ M) wB (.slice aY ys.length cY) ys) := Lib.hid (hoB.out.rd.mono (fun b hb => by have h0 : wA.heap.size ≤ b := hb; have h1 := hb1; have := HMQ.out; omega))
             have hJ5 : Hid (I L2 wB) := Lib.hid (HI.out _ _ _ HJ0.out hb5)
             have hF5 : Hid (Fr (· = M) w wB) := Lib.hid ((HF1.out.trans hF.out).trans (Fr.bel hb5))
             clear hoA hoB hb1 hcA hcB hbA hbB
             generalize wB = w5 at *)
          | (have hb1 := hcB.size
             have hb5 := hcA
             have hY : Hid (Ints (· ≠ M) wA (.slice aY ys.length cY) ys) := Lib.hid ((hoB.out.rd.mono (fun b hb => by have h0 : wq.heap.size ≤ b := hb; have := HMQ.out; omega)).stay (kpB hbA))
             have hX : Hid (Ints (· ≠ M) wA (.slice aX xs.length cX) xs) := Lib.hid (hoA.out.rd.mono (fun b hb => by have h0 : wB.heap.size ≤ b := hb; have h1 := hb1; have := HMQ.out; omega))
             have hJ5 : Hid (I L2 wA) := Lib.hid (HI.out _ _ _ HJ0.out hb5)
             have hF5 : Hid (Fr (· = M) w wA) := Lib.hid ((HF1.out.trans hF.out).trans (Fr.bel hb5))
             clear hoB hoA hb1 hcA hcB hbA hbB
             generalize wA = w5 at *))
        all_goals (
          have HX := hX; have HY := hY; have HMW : Hid (M < w5.heap.size) := Lib.hid (by have := hb5.size; have := HMQ.out; omega); clear hX hY hb5
          go_wp2
          go_loopw [77] (fun i wq => ∃ k : Nat, k ≤ xs.length ∧ i = .int .i64 k ∧ Hid (Fr (· = M) w5 wq) ∧ Hid (I (L2 ++ prodL (xs.take k) ys) wq)) (fun i _ => xs.length - (intOf i).toNat)
          case atStart => exact ⟨0, by omega, rfl, Fr.refl _, Lib.hid (by simpa [prodL] using hJ5.out)⟩
          case round =>
            obtain ⟨k, hk, rfl, hF, hJ⟩ := hrel
            generalize wr = wq at *
            by_cases hlt : k < xs.length
            · obtain ⟨bx, ox, rfl, x0⟩ := (HX.out.stay (kpFr hF.out)).at hlt
              have hps := Lib.hid (prodL_step xs ys hlt)
              have hmm := Lib.hid (fun (j : Nat) (hj : j < ys.length) => prodL_mem hlt hj)
              have hst := Lib.hid (fun (j : Nat) (hj : j < ys.length) => map_step xs[k] ys hj)
              obtain ⟨xk, hxk⟩ : ∃ x, x = xs[k] := ⟨_, rfl⟩
              rw [← hxk] at x0 hps hmm hst
              have Hxk := Lib.hid hxk; clear hxk
              go_wp2
              go_loopw [83] (fun i wz => ∃ j : Nat, j ≤ ys.length ∧ i = .int .i64 j ∧ Hid (Fr (· = M) w5 wz) ∧ Hid (I (L2 ++ prodL (xs.take k) ys ++ (ys.take j).map (fun b => (xk, b))) wz)) (fun i _ => ys.length - (intOf i).toNat)
              case atStart => exact ⟨0, by omega, rfl, hF, Lib.hid (by simpa using hJ.out)⟩
              case round =>
                obtain ⟨j, hj, rfl, hFz, hJz⟩ := hrel
                generalize wr = wz at *
                clear x0
                by_cases hjt : j < ys.length
                · obtain ⟨by', oy, rfl, y0⟩ := (HY.out.stay (kpFr hFz.out)).at hjt
                  have hmj := Lib.hid (hmm.out j hjt)
                  have hsj := Lib.hid (hst.out j hjt)
                  obtain ⟨yj, hyj⟩ : ∃ x, x = ys[j] := ⟨_, rfl⟩
                  rw [← hyj] at y0 hsj
                  have hmj' : Hid ((xk, yj) ∈ prodL xs ys) := Lib.hid (by rw [Hxk.out, hyj]; exact prodL_mem hlt hjt)
                  have Hyj := Lib.hid hyj; clear hyj hmj
                  have hzz := hFz.out.size
                  go_wp2_with fail
                  rw [HC.out, Oper.upon_enter]
                  refine (HA.out _ _ _ _ (HAX.out _ hmj'.out) (by have := HMW.out; omega) hJz.out).mono ?_
                  rintro e wy ⟨rfl, hFy, hJy⟩
                  go_wp2
                  go_roundw
                  case rel => exact ⟨j + 1, by omega, by go_num, hFz.out.trans hFy.out, Lib.hid (by rw [hsj.out, ← List.append_assoc]; exact hJy.out)⟩
                  case measure => simp [intOf]; omega
                · obtain rfl : j = ys.length := by omega
                  rw [List.take_length] at hJz
                  go_wp2
                  go_roundw
                  case rel => exact ⟨k + 1, by omega, by go_num, hFz, Lib.hid (by rw [hps.out, ← List.append_assoc]; exact hJz.out)⟩
                  case measure => simp [intOf]; omega
            · obtain rfl : k = xs.length := by omega
              rw [List.take_length] at hJ
              go_wp2
              refine bodyPost_end (v := .tuple #[]) (by simp [results, Try.results115, go_sem]) rfl ⟨rfl, hF5.out.trans hF.out, Lib.hid (by rw [HL2.out]; exact hJ.out)⟩)
  | either a b iha ihb =>
    intro ht hl hpl v f L w hA hM hf0 hf1 h hi
    replace h : Pairs (· ≠ M) w v (a.flat ++ b.flat ++ [(5, 0)]) := h
    have hpl1 := (plainE_app (show plainE (a.flat ++ b.flat ++ [(5, 0)]) from hpl)).1
    have hpa := (plainE_app hpl1).1
    have hpb := (plainE_app hpl1).2
    have hll : (Re.either a b).flat.length = a.flat.length + b.flat.length + 1 := by simp [Re.flat]; omega
    rw [hll] at hl hf1
    obtain ⟨ad, cap, hv, _⟩ := h.shape
    rw [List.length_append, List.length_append, List.length_singleton] at hv
    subst hv
    obtain ⟨bb, off, rfl, hC0⟩ := lastF h
    rw [List.length_append] at hC0
    have IA := Lib.hid (fun (L' : List (Int × Int)) (w' : World) (v' : Value) (hM' : M < w'.heap.size) (hp : Pairs (· ≠ M) w' v' a.flat) (hi' : I L' w') => iha ht.1 (by omega) hpa v' f L' w' (fun q hq => hA q (by unfold Re.fol; exact List.mem_append_left _ hq)) hM' hf0 (by omega) hp hi')
    have IB := Lib.hid (fun (L' : List (Int × Int)) (w' : World) (v' : Value) (hM' : M < w'.heap.size) (hp : Pairs (· ≠ M) w' v' b.flat) (hi' : I L' w') => ihb ht.2 (by omega) hpb v' (f + a.flat.length) L' w' (fun q hq => hA q (by unfold Re.fol; exact List.mem_append_right _ hq)) hM' (by omega) (by omega) hp hi')
    obtain ⟨LA, hLA⟩ : ∃ LA, LA = L ++ a.fol f := ⟨_, rfl⟩
    obtain ⟨L2, hL2⟩ : ∃ L2, L2 = LA ++ b.fol (f + a.flat.length) := ⟨_, rfl⟩
    have HL2 := Lib.hid (show L ++ (Re.either a b).fol f = L2 by rw [hL2, hLA]; simp [Re.fol])
    have HLA := Lib.hid (show L ++ a.fol f = LA from hLA.symm)
    have HLB := Lib.hid (show LA ++ b.fol (f + a.flat.length) = L2 from hL2.symm)
    have H := Lib.hid h; have HT := Lib.hid ht; have HII := Lib.hid hi; have HMW := Lib.hid hM; clear h hpl ht hpl1 hpa hpb iha ihb hi hA hL2 hLA hM hll
    have hap := a.flat_pos
    have hbp := b.flat_pos
    obtain ⟨n, hn⟩ : ∃ n, n = a.flat.length := ⟨_, rfl⟩
    obtain ⟨m, hm⟩ : ∃ m, m = b.flat.length := ⟨_, rfl⟩
    rw [← hn] at hC0 hl hf1 H hap HLB IB ⊢
    rw [← hm] at hC0 hl hf1 H hbp ⊢
    have HC0 := Lib.hid hC0; clear hC0
    have Hn := Lib.hid hn; clear hn
    have Hm := Lib.hid hm; clear hm
    obtain ⟨N, hN⟩ : ∃ N, N = n + m := ⟨_, rfl⟩
    rw [← hN] at HC0 hl hf1 H ⊢
    have hwr : IntKind.i64.wrap (f + (n : Int)) = f + (n : Int) := IntWalk.i64_in _ (by omega)
    have hn60 : n ≤ 59 ∧ m ≤ 59 ∧ n + m ≤ 59 := by omega
    have Hn60 := Lib.hid hn60; clear hn60
    have HN := Lib.hid hN; clear hN
    go_enter Try.func115, Try.ntmps115
    go_wp2_with fail
    refine (operands2_c _ a b 5 0 w HT.out.1 HT.out.2 H.out (by decide) (by decide) (by rw [List.length_append, ← Hn.out, ← Hm.out]; exact Hn60.out.2.2)).mono ?_
    rintro e w1 ⟨vo, rfl, hb, ho⟩
    obtain ⟨g, c, ad1, cap1, ad2, cap2, rfl, hg0, _, kc1, kc2, hP1, hP2⟩ := ho.out.at
    rw [← Hn.out] at kc1 hP1
    rw [← Hm.out] at kc2 hP2
    have HP1 := Lib.hid hP1; have HP2 := Lib.hid hP2; have KC1 := Lib.hid kc1; have KC2 := Lib.hid kc2; clear hP1 hP2 ho kc1 kc2
    have hgM : Hid (g ≠ M) := Lib.hid (by have := HMW.out; omega)
    have HM1 : Hid (M < w1.heap.size) := Lib.hid (by have := HMW.out; have := hb.size; omega)
    have HJ1 := Lib.hid (HI.out _ _ _ HII.out hb)
    have HF1 : Hid (Fr (· = M) w w1) := Fr.bel hb
    clear hb hg0
    go_wp2
    go_loopw [20] (fun i wq => ∃ k : Nat, k ≤ 2 ∧ i = .int .i64 k ∧ Hid (Fr (· = M) w1 wq) ∧ Hid ((k = 0 ∧ I L wq) ∨ (k = 1 ∧ I LA wq) ∨ (k = 2 ∧ I L2 wq))) (fun i _ => 2 - (intOf i).toNat)
    case atStart => exact ⟨0, by omega, rfl, Fr.refl _, .inl ⟨rfl, HJ1.out⟩⟩
    case round =>
      obtain ⟨k, hk, rfl, hF, hJ⟩ := hrel
      generalize wr = wq at *
      have kq1 := cellFr hF.out hgM.out KC1.out
      have kq2 := cellFr hF.out hgM.out KC2.out
      have hzz := hF.out.size
      rcases hJ.out with ⟨rfl, hJ0⟩ | ⟨rfl, hJ0⟩ | ⟨rfl, hJ0⟩
      · have HJ0 := Lib.hid hJ0; clear hJ hJ0
        go_wp2_with fail
        refine (IA.out L wq _ (by have := HM1.out; omega) (HP1.out.stay (kpFr hF.out)) HJ0.out).mono ?_
        rintro e w2 ⟨rfl, hF2, hJ2⟩
        rw [HLA.out] at hJ2
        go_wp2
        go_roundw
        case rel => exact ⟨1, by omega, by go_num, hF.out.trans hF2.out, .inr (.inl ⟨rfl, hJ2.out⟩)⟩
        case measure => simp [intOf]
      · have HJ0 := Lib.hid hJ0; clear hJ hJ0
        go_wp2_with fail
        refine (IB.out LA wq _ (by have := HM1.out; omega) (HP2.out.stay (kpFr hF.out)) HJ0.out).mono ?_
        rintro e w2 ⟨rfl, hF2, hJ2⟩
        rw [HLB.out] at hJ2
        go_wp2
        go_roundw
        case rel => exact ⟨2, by omega, by go_num, hF.out.trans hF2.out, .inr (.inr ⟨rfl, hJ2.out⟩)⟩
        case measure => simp [intOf]
      · have k0 := HC0.out wq (HF1.out.trans hF.out)
        have HJ0 := Lib.hid hJ0; clear hJ hJ0
        have HFF : Hid (Fr (· = M) w wq) := HF1.out.trans hF.out
        go_wp2
        go_loopw [77] (fun i wr => i = .int .i64 0 ∧ wq = wr) (fun _ _ => 0)
        case atStart => exact ⟨rfl, rfl⟩
        case round =>
          obtain ⟨rfl, rfl⟩ := hrel
          go_wp2
          refine bodyPost_end (v := .tuple #[]) (by simp [results, Try.results115, go_sem]) rfl ⟨rfl, HFF, Lib.hid (by rw [HL2.out]; exact HJ0.out)⟩
  | join a b iha ihb =>
    intro ht hl hpl v f L w hA hM hf0 hf1 h hi
    replace h : Pairs (· ≠ M) w v (a.flat ++ b.flat ++ [(4, 0)]) := h
    have hpl1 := (plainE_app (show plainE (a.flat ++ b.flat ++ [(4, 0)]) from hpl)).1
    have hpa := (plainE_app hpl1).1
    have hpb := (plainE_app hpl1).2
    have hll : (Re.join a b).flat.length = a.flat.length + b.flat.length + 1 := by simp [Re.flat]; omega
    rw [hll] at hl hf1
    obtain ⟨ad, cap, hv, _⟩ := h.shape
    rw [List.length_append, List.length_append, List.length_singleton] at hv
    subst hv
    obtain ⟨bb, off, rfl, hC0⟩ := lastF h
    rw [List.length_append] at hC0
    have IA := Lib.hid (fun (L' : List (Int × Int)) (w' : World) (v' : Value) (hM' : M < w'.heap.size) (hp : Pairs (· ≠ M) w' v' a.flat) (hi' : I L' w') => iha ht.1 (by omega) hpa v' f L' w' (fun q hq => hA q (by unfold Re.fol; exact List.mem_append_left _ (List.mem_append_left _ hq))) hM' hf0 (by omega) hp hi')
    have IB := Lib.hid (fun (L' : List (Int × Int)) (w' : World) (v' : Value) (hM' : M < w'.heap.size) (hp : Pairs (· ≠ M) w' v' b.flat) (hi' : I L' w') => ihb ht.2 (by omega) hpb v' (f + a.flat.length) L' w' (fun q hq => hA q (by unfold Re.fol; exact List.mem_append_left _ (List.mem_append_right _ hq))) hM' (by omega) (by omega) hp hi')
    have E1 := Lib.hid (fun (w' : World) (v' : Value) (hp : Pairs (· ≠ M) w' v' a.flat) (fst : Bool) => edgePlaces_c a ht.1 (by omega) hpa v' f fst w' hf0 (by omega) hp)
    have E2 := Lib.hid (fun (w' : World) (v' : Value) (hp : Pairs (· ≠ M) w' v' b.flat) (fst : Bool) => edgePlaces_c b ht.2 (by omega) hpb v' (f + a.flat.length) fst w' (by omega) (by omega) hp)
    obtain ⟨xs, hxs⟩ : ∃ xs, xs = a.lps f := ⟨_, rfl⟩
    obtain ⟨ys, hys⟩ : ∃ ys, ys = b.fps (f + a.flat.length) := ⟨_, rfl⟩
    have HEX := Lib.hid (show a.eps false f = xs from hxs.symm)
    have HEY := Lib.hid (show b.eps true (f + a.flat.length) = ys from hys.symm)
    have HAX : Hid (∀ q ∈ prodL xs ys, A q) := Lib.hid (fun q hq => hA q (by unfold Re.fol; rw [← hxs, ← hys]; exact List.mem_append_right _ hq))
    have HLX := Lib.hid (show xs.length ≤ 1000 ∧ ys.length ≤ 1000 from by have := lps_len a f; have := fps_len b (f + a.flat.length); rw [hxs, hys]; omega)
    obtain ⟨LA, hLA⟩ : ∃ LA, LA = L ++ a.fol f := ⟨_, rfl⟩
    obtain ⟨L2, hL2⟩ : ∃ L2, L2 = LA ++ b.fol (f + a.flat.length) := ⟨_, rfl⟩
    have HL2 := Lib.hid (show L ++ (Re.join a b).fol f = L2 ++ prodL xs ys by rw [hL2, hLA, hxs, hys]; simp [Re.fol])
    have HLA := Lib.hid (show L ++ a.fol f = LA from hLA.symm)
    have HLB := Lib.hid (show LA ++ b.fol (f + a.flat.length) = L2 from hL2.symm)
    have H := Lib.hid h; have HT := Lib.hid ht; have HII := Lib.hid hi; have HMW := Lib.hid hM; clear h hpl ht hpl1 hpa hpb iha ihb hi hA hxs hys hL2 hLA hM hll
    have hap := a.flat_pos
    have hbp := b.flat_pos
    obtain ⟨n, hn⟩ : ∃ n, n = a.flat.length := ⟨_, rfl⟩
    obtain ⟨m, hm⟩ : ∃ m, m = b.flat.length := ⟨_, rfl⟩
    rw [← hn] at hC0 hl hf1 H hap HLB IB E2 HEY ⊢
    rw [← hm] at hC0 hl hf1 H hbp ⊢
    have HC0 := Lib.hid hC0; clear hC0
    have Hn := Lib.hid hn; clear hn
    have Hm := Lib.hid hm; clear hm
    obtain ⟨N, hN⟩ : ∃ N, N = n + m := ⟨_, rfl⟩
    rw [← hN] at HC0 hl hf1 H ⊢
    have hwr : IntKind.i64.wrap (f + (n : Int)) = f + (n : Int) := IntWalk.i64_in _ (by omega)
    have hn60 : n ≤ 59 ∧ m ≤ 59 ∧ n + m ≤ 59 := by omega
    have Hn60 := Lib.hid hn60; clear hn60
    have HN := Lib.hid hN; clear hN
    go_enter Try.func115, Try.ntmps115
    go_wp2_with fail
    refine (operands2_c _ a b 4 0 w HT.out.1 HT.out.2 H.out (by decide) (by decide) (by rw [List.length_append, ← Hn.out, ← Hm.out]; exact Hn60.out.2.2)).mono ?_
    rintro e w1 ⟨vo, rfl, hb, ho⟩
    obtain ⟨g, c, ad1, cap1, ad2, cap2, rfl, hg0, _, kc1, kc2, hP1, hP2⟩ := ho.out.at
    rw [← Hn.out] at kc1 hP1
    rw [← Hm.out] at kc2 hP2
    have HP1 := Lib.hid hP1; have HP2 := Lib.hid hP2; have KC1 := Lib.hid kc1; have KC2 := Lib.hid kc2; clear hP1 hP2 ho kc1 kc2
    have hgM : Hid (g ≠ M) := Lib.hid (by have := HMW.out; omega)
    have HM1 : Hid (M < w1.heap.size) := Lib.hid (by have := HMW.out; have := hb.size; omega)
    have HJ1 := Lib.hid (HI.out _ _ _ HII.out hb)
    have HF1 : Hid (Fr (· = M) w w1) := Fr.bel hb
    clear hb hg0
    go_wp2
    go_loopw [20] (fun i wq => ∃ k : Nat, k ≤ 2 ∧ i = .int .i64 k ∧ Hid (Fr (· = M) w1 wq) ∧ Hid ((k = 0 ∧ I L wq) ∨ (k = 1 ∧ I LA wq) ∨ (k = 2 ∧ I L2 wq))) (fun i _ => 2 - (intOf i).toNat)
    case atStart => exact ⟨0, by omega, rfl, Fr.refl _, .inl ⟨rfl, HJ1.out⟩⟩
    case round =>
      obtain ⟨k, hk, rfl, hF, hJ⟩ := hrel
      generalize wr = wq at *
      have kq1 := cellFr hF.out hgM.out KC1.out
      have kq2 := cellFr hF.out hgM.out KC2.out
      have hzz := hF.out.size
      rcases hJ.out with ⟨rfl, hJ0⟩ | ⟨rfl, hJ0⟩ | ⟨rfl, hJ0⟩
      · have HJ0 := Lib.hid hJ0; clear hJ hJ0
        go_wp2_with fail
        refine (IA.out L wq _ (by have := HM1.out; omega) (HP1.out.stay (kpFr hF.out)) HJ0.out).mono ?_
        rintro e w2 ⟨rfl, hF2, hJ2⟩
        rw [HLA.out] at hJ2
        go_wp2
        go_roundw
        case rel => exact ⟨1, by omega, by go_num, hF.out.trans hF2.out, .inr (.inl ⟨rfl, hJ2.out⟩)⟩
        case measure => simp [intOf]
      · have HJ0 := Lib.hid hJ0; clear hJ hJ0
        go_wp2_with fail
        refine (IB.out LA wq _ (by have := HM1.out; omega) (HP2.out.stay (kpFr hF.out)) HJ0.out).mono ?_
        rintro e w2 ⟨rfl, hF2, hJ2⟩
        rw [HLB.out] at hJ2
        go_wp2
        go_roundw
        case rel => exact ⟨2, by omega, by go_num, hF.out.trans hF2.out, .inr (.inr ⟨rfl, hJ2.out⟩)⟩
        case measure => simp [intOf]
      · have k0 := HC0.out wq (HF1.out.trans hF.out)
        have HJ0 := Lib.hid hJ0; clear hJ hJ0
        have HPA := Lib.hid (fun (w' : World) (hb : Below wq.heap.size wq w') => (HP1.out.stay (kpFr hF.out)).stay (kpB hb))
        have HPB := Lib.hid (fun (w' : World) (hb : Below wq.heap.size wq w') => (HP2.out.stay (kpFr hF.out)).stay (kpB hb))
        have KD : Hid (wq.cell? ⟨g, 0, none⟩ = some (.slice ad1 n cap1) ∧ wq.cell? ⟨g, 1, none⟩ = some (.slice ad2 m cap2)) := Lib.hid ⟨kq1, kq2⟩
        have HMQ : Hid (M < wq.heap.size) := Lib.hid (by have := HM1.out; omega)
        go_wp2_with fail
        have hS : Hid (∀ w', Below wq.heap.size wq w' → w'.cell? ⟨g, 0, none⟩ = some (.slice ad1 n cap1) ∧ w'.cell? ⟨g, 1, none⟩ = some (.slice ad2 m cap2)) := Lib.hid (fun w' hb => ⟨kpB (S := fun _ => True) hb _ _ trivial KD.out.1, kpB (S := fun _ => True) hb _ _ trivial KD.out.2⟩)
        have hb0 : Below wq.heap.size wq wq.drew := (Below.refl _ _).drew
        go_region_held3 (fun w' => w'.cell? ⟨g, 0, none⟩ = some (.slice ad1 n cap1) ∧ w'.cell? ⟨g, 1, none⟩ = some (.slice ad2 m cap2))
          (exact hS.out _ (by assumption))
          (first
            | (go_at_call 90; (with_reducible refine atArgs #[.slice ad1 n cap1, .int .i64 f, .bool false] ?_); refine (E1.out _ _ (HPA.out _ (by assumption)) false).mono ?_; rintro e wA ⟨va, rfl, hbA, hoA⟩; rw [HEX.out] at hoA; obtain ⟨aX, cX, rfl, _⟩ := hoA.out.shape; have hcA := belUp (w := wq) (by assumption) hbA)
            | (go_at_call 90; (with_reducible refine atArgs #[.slice ad2 m cap2, .int .i64 (f + (n : Int)), .bool true] ?_); refine (E2.out _ _ (HPB.out _ (by assumption)) true).mono ?_; rintro e wB ⟨vb, rfl, hbB, hoB⟩; rw [HEY.out] at hoB; obtain ⟨aY, cY, rfl, _⟩ := hoB.out.shape; have hcB := belUp (w := wq) (by assumption) hbB))
        all_goals (first
          | (have hb1 := hcA.size
             have hb5 := hcB
             have hX : Hid (Ints (· ≠ M) wB (.slice aX xs.length cX) xs) := Lib.hid ((hoA.out.rd.mono (fun b hb => by have h0 : wq.heap.size ≤ b := hb; have := HMQ.out; omega)).stay (kpB hbB))
             have hY : Hid (Ints (· ≠ M) wB (.slice aY ys.length cY) ys) := Lib.hid (hoB.out.rd.mono (fun b hb => by have h0 : wA.heap.size ≤ b := hb; have h1 := hb1; have := HMQ.out; omega))
             have hJ5 : Hid (I L2 wB) := Lib.hid (HI.out _ _ _ HJ0.out hb5)
             have hF5 : Hid (Fr (· = M) w wB) := Lib.hid ((HF1.out.trans hF.out).trans (Fr.bel hb5))
             clear hoA hoB hb1 hcA hcB hbA hbB
             generalize wB = w5 at *)
          | (have hb1 := hcB.size
             have hb5 := hcA
             have hY : Hid (Ints (· ≠ M) wA (.slice aY ys.length cY) ys) := Lib.hid ((hoB.out.rd.mono (fun b hb => by have h0 : wq.heap.size ≤ b := hb; have := HMQ.out; omega)).stay (kpB hbA))
             have hX : Hid (Ints (· ≠ M) wA (.slice aX xs.length cX) xs) := Lib.hid (hoA.out.rd.mono (fun b hb => by have h0 : wB.heap.size ≤ b := hb; have h1 := hb1; have := HMQ.out; omega))
             have hJ5 : Hid (I L2 wA) := Lib.hid (HI.out _ _ _ HJ0.out hb5)
             have hF5 : Hid (Fr (· = M) w wA) := Lib.hid ((HF1.out.trans hF.out).trans (Fr.bel hb5))
             clear hoB hoA hb1 hcA hcB hbA hbB
             generalize wA = w5 at *))
        all_goals (
          have HX := hX; have HY := hY; have HMW : Hid (M < w5.heap.size) := Lib.hid (by have := hb5.size; have := HMQ.out; omega); clear hX hY hb5
          go_wp2
          go_loopw [77] (fun i wq => ∃ k : Nat, k ≤ xs.length ∧ i = .int .i64 k ∧ Hid (Fr (· = M) w5 wq) ∧ Hid (I (L2 ++ prodL (xs.take k) ys) wq)) (fun i _ => xs.length - (intOf i).toNat)
          case atStart => exact ⟨0, by omega, rfl, Fr.refl _, Lib.hid (by simpa [prodL] using hJ5.out)⟩
          case round =>
            obtain ⟨k, hk, rfl, hF, hJ⟩ := hrel
            generalize wr = wq at *
            by_cases hlt : k < xs.length
            · obtain ⟨bx, ox, rfl, x0⟩ := (HX.out.stay (kpFr hF.out)).at hlt
              have hps := Lib.hid (prodL_step xs ys hlt)
              have hmm := Lib.hid (fun (j : Nat) (hj : j < ys.length) => prodL_mem hlt hj)
              have hst := Lib.hid (fun (j : Nat) (hj : j < ys.length) => map_step xs[k] ys hj)
              obtain ⟨xk, hxk⟩ : ∃ x, x = xs[k] := ⟨_, rfl⟩
              rw [← hxk] at x0 hps hmm hst
              have Hxk := Lib.hid hxk; clear hxk
              go_wp2
              go_loopw [83] (fun i wz => ∃ j : Nat, j ≤ ys.length ∧ i = .int .i64 j ∧ Hid (Fr (· = M) w5 wz) ∧ Hid (I (L2 ++ prodL (xs.take k) ys ++ (ys.take j).map (fun b => (xk, b))) wz)) (fun i _ => ys.length - (intOf i).toNat)
              case atStart => exact ⟨0, by omega, rfl, hF, Lib.hid (by simpa using hJ.out)⟩
              case round =>
                obtain ⟨j, hj, rfl, hFz, hJz⟩ := hrel
                generalize wr = wz at *
                clear x0
                by_cases hjt : j < ys.length
                · obtain ⟨by', oy, rfl, y0⟩ := (HY.out.stay (kpFr hFz.out)).at hjt
                  have hmj := Lib.hid (hmm.out j hjt)
                  have hsj := Lib.hid (hst.out j hjt)
                  obtain ⟨yj, hyj⟩ : ∃ x, x = ys[j] := ⟨_, rfl⟩
                  rw [← hyj] at y0 hsj
                  have hmj' : Hid ((xk, yj) ∈ prodL xs ys) := Lib.hid (by rw [Hxk.out, hyj]; exact prodL_mem hlt hjt)
                  have Hyj := Lib.hid hyj; clear hyj hmj
                  have hzz := hFz.out.size
                  go_wp2_with fail
                  rw [HC.out, Oper.upon_enter]
                  refine (HA.out _ _ _ _ (HAX.out _ hmj'.out) (by have := HMW.out; omega) hJz.out).mono ?_
                  rintro e wy ⟨rfl, hFy, hJy⟩
                  go_wp2
                  go_roundw
                  case rel => exact ⟨j + 1, by omega, by go_num, hFz.out.trans hFy.out, Lib.hid (by rw [hsj.out, ← List.append_assoc]; exact hJy.out)⟩
                  case measure => simp [intOf]; omega
                · obtain rfl : j = ys.length := by omega
                  rw [List.take_length] at hJz
                  go_wp2
                  go_roundw
                  case rel => exact ⟨k + 1, by omega, by go_num, hFz, Lib.hid (by rw [hps.out, ← List.append_assoc]; exact hJz.out)⟩
                  case measure => simp [intOf]; omega
            · obtain rfl : k = xs.length := by omega
              rw [List.take_length] at hJ
              go_wp2
              refine bodyPost_end (v := .tuple #[]) (by simp [results, Try.results115, go_sem]) rfl ⟨rfl, hF5.out.trans hF.out, Lib.hid (by rw [HL2.out]; exact hJ.out)⟩)
end Go.Proofs.Ytnjddneelkdmoaa

/- Exploring numbers: the program's. -/
import Derived.StillTailTactics
import Derived.Deep.RegionLaw
import Derived.Test.YtbcjhiponbfbnaaGB
set_option linter.unusedSimpArgs false
set_option linter.unusedVariables false
set_option linter.unusedSectionVars false
namespace Go.Proofs.Ytbcjhiponbfbnaa
open Go.RowKit
set_option maxRecDepth 100000
/-- What the exploring gives. -/
def XP {α : Type} [DecidableEq α] (kv : α → Value) (cl : α → List Value) (t : TypeId) (sz : Nat) (nx : α → Nat → α) (en : α → Bool) (s0 : α) (most : Nat) (w : World) (e : Ending) (w' : World) : Prop :=
  ∃ vN vE vM ok, e = .returned (.tuple #[.agg #[vN, vE], vM, .bool ok]) ∧ Below w.heap.size w w' ∧
    Hid ((ok = true ∧ ∃ k, (rnd nx s0 k).length = k ∧ k ≤ most ∧ DfaW (fun b => w.heap.size ≤ b ∧ b < w'.heap.size) w' vN vE (autD nx en (rnd nx s0 k)) ∧ w'.ownsRow w.heap.size t sz vM k ((rnd nx s0 k).flatMap cl)) ∨
      (ok = false ∧ vN = .slice none 0 0 ∧ vE = .slice none 0 0 ∧ vM = .slice none 0 0 ∧ ∃ k, most < (rnd nx s0 k).length))
theorem flat1 {α : Type} (f : α → Value) (M : List α) : M.flatMap (fun s => [f s]) = M.map f := by
  induction M with
  | nil => rfl
  | cons a t ih => simp [List.flatMap_cons, ih]
abbrev XI := XS (fun s : Nat => .int .i64 s) (fun s : Nat => [.int .i64 s]) 3 1
set_option maxHeartbeats 4000000 in
theorem exploredInt_c {P : Nat → Prop} (nx : Nat → Nat → Nat) (en : Nat → Bool) (s0 most : Nat) (fN fE : FuncId) (cN cE : Array Value) (W : World)
    (hP0 : P s0) (hP : ∀ s, P s → ∀ c, c < 3 → P (nx s c)) (hPb : ∀ s, P s → s ≤ 1000000000) (hmost : 1 ≤ most ∧ most ≤ 1000000) (hbN : HasBody fN) (hbE : HasBody fE)
    (hN : ∀ (s c : Nat) (w : World), P s → c < 3 → Below W.heap.size W w → Calls Try.prog fN (#[.int .i64 s, .int .i64 c] ++ cN) w (RIn w (· = (nx s c : Int))))
    (hE : ∀ (s : Nat) (w : World), P s → Below W.heap.size W w → Calls Try.prog fE (#[.int .i64 s] ++ cE) w (RB w (en s = true))) :
    Calls Try.prog 110 #[.int .i64 s0, .int .i64 most, .func (.func fN) #[] cN, .func (.func fE) #[] cE] W
      (XP (fun s : Nat => .int .i64 s) (fun s : Nat => [.int .i64 s]) 3 1 nx en s0 most W) := by
  have HP := Lib.hid hP; clear hP
  have HB := Lib.hid hPb; clear hPb
  have HbN := Lib.hid hbN; clear hbN
  have HbE := Lib.hid hbE; clear hbE
  have HN := Lib.hid hN; clear hN
  have HE := Lib.hid hE; clear hE
  have HP0 := Lib.hid hP0; clear hP0
  obtain ⟨hm1, hm2⟩ := hmost
  have hmm := @run_makeMap Try.prog
  obtain ⟨W0, hW0⟩ : ∃ W0, W0 = (W.alloc (.cells #[.slice none 0 0, .slice none 0 0] 52)).alloc (.map #[] 0) := ⟨_, rfl⟩
  have HM0 : Hid (MRow (fun s : Nat => .int .i64 s) W0 (W.heap.size + 1) []) := by have := MRow.made (kv := fun s : Nat => Value.int .i64 s) (W.alloc (.cells #[.slice none 0 0, .slice none 0 0] 52)); rw [World.size_alloc] at this; rw [hW0]; exact this
  obtain ⟨w1, hr1, HM1, hg1⟩ : ∃ w1, (Instr.mapUpdate 150 (.map (some (W.heap.size + 1))) (.int .i64 s0) (.int .i64 0)).run Try.prog ((W.alloc (.cells #[.slice none 0 0, .slice none 0 0] 52)).alloc (.map #[] 0)) = .ok () w1 ∧
      Hid (MRow (fun s : Nat => .int .i64 s) w1 (W.heap.size + 1) [s0]) ∧ W0.grownBy w1 (some (W.heap.size + 1)) := by
    rw [← hW0]
    exact ⟨_, run_put (xs := []) (x := s0) kaInt HM0.out (by simp) (HB.out _ HP0.out) (by simp) (by simp), put_row HM0.out, put_grown HM0.out _⟩
  clear HM0
  have b8 := blkGrow hg1 (b := W.heap.size) (ob := .cells #[.slice none 0 0, .slice none 0 0] 52 (0, 0)) (by rw [hW0]; exact blkOld (blkNew _ _ rfl)) (by simp)
  have hb1 : Below W.heap.size W w1 := Below.grown (w := W0) (by rw [hW0]; exact ((Below.refl _ _).alloc (Nat.le_refl _) _).alloc (by simp) _) hg1 (by rw [hW0]; simp; omega) (by simp)
  have hz1 : W.heap.size + 2 ≤ w1.heap.size := by have := hg1.size; rw [hW0] at this; simp at this; omega
  clear hg1 hW0
  obtain ⟨w3, hw3⟩ : ∃ w3, w3 = (w1.alloc (.cells #[.int .i64 s0] 3)).alloc (.cells #[.slice none 0 0, .slice none 0 0] 52) := ⟨_, rfl⟩
  have HX : Hid (XI W.heap.size W W.heap.size (W.heap.size + 1) (w1.heap.size + 1) [s0] [s0] [] [] (.slice (some ⟨w1.heap.size, 0, none⟩) 1 1) (.slice none 0 0) (.slice none 0 0) w3) := by
    have hb2 : Below w1.heap.size w1 w3 := by rw [hw3]; exact ((Below.refl _ _).alloc (Nat.le_refl _) _).alloc (by simp) _
    refine ⟨by decide, hb1.trans (hb2.mono hb1.size), Nat.le_refl _, by omega, by omega, blkBel hb2 b8, by rw [hw3]; exact blkNew _ _ (by simp), by omega, HM1.out.stay hb2, ?_, World.ownsRow_nil _ _ _ _, World.ownsRow_nil _ _ _ _, nofun, List.nodup_nil⟩
    rw [hw3]
    exact (ownLit [.int .i64 s0] (by omega) (by omega) rfl).alloc _
  have Hw3 := Lib.hid hw3
  clear HM1 b8 hb1 hw3
  go_enter Try.func110, Try.ntmps110
  go_wp2
  rw [← Hw3.out]
  obtain ⟨B1, hB1⟩ : ∃ B1, B1 = w1.heap.size := ⟨_, rfl⟩
  rw [← hB1] at hz1 HX ⊢
  clear Hw3 hr1 hB1
  go_loopw [12, 14] (fun m i wr => ∃ (k : Nat) (rs : List (Nat × List Int)) (vN vE : Value), k ≤ (rnd nx s0 k).length ∧ (rnd nx s0 k).length ≤ most ∧ i = .int .i64 k ∧ Hid (rs.map (·.2) = rowsX nx s0 k) ∧
    Hid (XI W.heap.size W W.heap.size (W.heap.size + 1) (B1 + 1) (rnd nx s0 k) (rnd nx s0 k) rs (endsX nx en s0 k) m vN vE wr)) (fun _ i _ => most - (intOf i).toNat)
  case atStart => exact ⟨0, [], _, _, by simp [rnd], by simp [rnd]; omega, rfl, rfl, HX⟩
  case round =>
    clear HX
    obtain ⟨k, rs, vN, vE, hk, hkm, rfl, Hrs, HX⟩ := hrel
    have Hnd := Lib.hid (rnd_nodup nx s0 k)
    have HPM := Lib.hid (rnd_all nx HP0.out (fun s hs => ⟨HP.out s hs 0 (by omega), HP.out s hs 1 (by omega), HP.out s hs 2 (by omega)⟩) k)
    obtain ⟨am, capm, rfl, _⟩ := (ownFl HX.out.me).shape
    by_cases hlt : k < (rnd nx s0 k).length
    · have Hsucc := Lib.hid (rnd_succ_some nx hlt)
      have Hrow := Lib.hid (rowX_at nx s0 hlt)
      have Hend := Lib.hid (endX_at nx en s0 hlt)
      obtain ⟨s, hs⟩ : ∃ s, s = (rnd nx s0 k)[k] := ⟨_, rfl⟩
      have Hs := Lib.hid (show (rnd nx s0 k)[k]? = some s by rw [hs]; exact List.getElem?_eq_getElem hlt)
      have HPs : Hid (P s) := by rw [hs]; exact HPM.out _ (List.getElem_mem _)
      rw [← hs] at Hsucc Hrow Hend
      clear hs
      have Hrl : Hid (rs.length = k) := by have := congrArg List.length Hrs.out; rw [rowsX_len] at this; unfold Hid; simpa using this
      obtain ⟨M, hM⟩ : ∃ M, M = rnd nx s0 k := ⟨_, rfl⟩
      have HM := Lib.hid hM
      rw [← hM] at hlt hkm HX Hnd HPM Hsucc Hrow Hs ⊢
      clear hM hk
      go_wp2_with (at_make; refine makeRow ezInt (by decide) rfl (.const (.int .i64 3)) (.const (.int .i64 3)) rfl 3 _ rfl rfl (by omega) ?_; intro w3 hr3 hb3 hz3)
      obtain ⟨g, hg⟩ : ∃ g, g = wr.heap.size := ⟨_, rfl⟩
      have hgb : W.heap.size ≤ g := by rw [hg]; exact HX.out.size
      have hgr : Hid (∀ p ∈ rs, p.1 < g) := fun p hp => by rw [hg]; exact (HX.out.rw p hp).2.1.lt
      have hgM : Hid (some g ≠ Value.ownBlock (.slice am M.length capm)) := fun he => by
        have := (own_ge HX.out.me g he.symm).2
        omega
      have HX3 := Lib.hid (HX.out.stay hb3)
      rw [← hg] at hr3 ⊢
      clear hz3 hb3 HX hg
      go_loopw [12, 32] (fun m i wr => ∃ c, c ≤ 3 ∧ (visN nx M s c).length ≤ most ∧ i = .int .i64 c ∧ Hid (some g ≠ m.ownBlock) ∧ Hid (RowI wr g (part 3 c (rowF nx M s) 0)) ∧
        Hid (XI W.heap.size W W.heap.size (W.heap.size + 1) (B1 + 1) (visN nx M s c) (visN nx M s c) rs (endsX nx en s0 k) m vN vE wr)) (fun _ i _ => 3 - (intOf i).toNat)
      case atStart => exact ⟨0, by omega, hkm, rfl, hgM, by rw [part_zero]; exact hr3, HX3⟩
      case round =>
        clear HX3 hr3 hgM
        obtain ⟨c, hc, hl, rfl, hgM, hr, HX⟩ := hrel
        have Hnd2 := Lib.hid (visN_nodup nx s Hnd.out c)
        have HPM2 := Lib.hid (visN_all nx HPM.out (fun c hc => HP.out s HPs.out c hc) hc)
        have Hpre : Hid (M <+: visN nx M s c) := visN_pre nx M s (Nat.zero_le c)
        have hlen : M.length ≤ (visN nx M s c).length := Hpre.out.length_le
        obtain ⟨am2, capm2, rfl, hml⟩ := (ownFl HX.out.me).shape
        by_cases hc3 : c < 3
        · have Hsuc : Hid (visN nx M s (c + 1) = vis (visN nx M s c) (nx s c)) := rfl
          have Hrc := Lib.hid (rowF_eq nx M s hc3)
          have HPt := Lib.hid (HP.out s HPs.out c hc3)
          have Hcall := Lib.hid (fun w h => HN.out s c w HPs.out hc3 h)
          have Hpre3 := Lib.hid (visN_pre nx M s (show c + 1 ≤ 3 by omega))
          obtain ⟨M2, hM2⟩ : ∃ M2, M2 = visN nx M s c := ⟨_, rfl⟩
          have HM2 := Lib.hid hM2
          rw [← hM2] at hl HX Hnd2 HPM2 Hpre hlen hml hgM Hsuc ⊢
          clear hM2
          obtain ⟨t, ht⟩ : ∃ t, t = nx s c := ⟨_, rfl⟩
          rw [← ht] at HPt Hcall Hrc Hsuc
          clear ht
          have hkM2 : k < M2.length := by omega
          have hst : M2[k]? = some s := by
            obtain ⟨r, hr⟩ := Hpre.out
            rw [← hr, List.getElem?_append_left hlt]; exact Hs.out
          have hme := (ownFl HX.out.me).fl
          rw [flat1] at hme
          obtain ⟨bm, om, rfl, hcell⟩ := Fl.at hme (i := k) (by simp; omega)
          rw [List.getElem?_eq_getElem hkM2] at hst
          injection hst with hst
          rw [List.getElem_map, hst] at hcell
          clear hst hme
          have hkI : (k : Int) < (M2.length : Int) := by omega
          have hcI : (c : Int) < 3 := by omega
          go_wp2_with fail
          rw [HbN.out, Oper.upon_enter]
          refine (Hcall.out _ HX.out.bel).mono ?_
          rintro e w' ⟨n, rfl, hbw, hn⟩
          obtain rfl := hn.out
          have HX4 := Lib.hid (HX.out.stay hbw)
          have hr4 := Lib.hid (hr.out.stay hbw)
          clear hn hcell HX hr hbw
          by_cases hmem : t ∈ M2
          · have hL : (Instr.lookup 150 (.map (some (W.heap.size + 1))) (.int .i64 ((t : Nat) : Int)) true).run Try.prog w' = .ok (.tuple #[.int .i64 ((M2.idxOf t : Nat) : Int), .bool true]) w' := by
              rcases run_look kaInt HX4.out.mp (fun y hy => HB.out _ (HPM2.out y hy)) (HB.out _ HPt.out) Hnd2.out true with ⟨h, _⟩ | ⟨_, h⟩
              · exact absurd hmem h
              · exact h
            have hL2 : (Instr.lookup 150 (.map (some (W.heap.size + 1))) (.int .i64 ((t : Nat) : Int)) false).run Try.prog w' = .ok (.int .i64 ((M2.idxOf t : Nat) : Int)) w' := by
              rcases run_look kaInt HX4.out.mp (fun y hy => HB.out _ (HPM2.out y hy)) (HB.out _ HPt.out) Hnd2.out false with ⟨h, _⟩ | ⟨_, h⟩
              · exact absurd hmem h
              · exact h
            have Hv : Hid (vis M2 t = M2) := vis_old hmem
            rw [Hsuc.out, Hv.out] at Hrc
            have Hrc2 := Lib.hid Hrc.out
            clear Hrc hmem
            generalize M2.idxOf t = y at *
            have hcc := hr4.out.cell (i := c) (by rw [part_len]; exact hc3)
            obtain ⟨u, hu⟩ : ∃ u, w'.cell? ⟨g, c, none⟩ = some u := ⟨_, hcc⟩
            clear hcc
            have hfz := hr4.out.fz c
            have hr5 := hr4.out.set c ((y : Nat) : Int)
            rw [← Hrc2.out, part_set (rowF nx M s) 0 hc3, Hrc2.out] at hr5
            have Hr5 := Lib.hid hr5
            have HX5 := Lib.hid (HX4.out.cur hr4.out hgb hgM.out (fun p hp he => by have := hgr.out p hp; omega) c (.int .i64 ((y : Nat) : Int)))
            clear hr5 hr4 HX4
            go_wp2
            go_roundw
            case rel => exact ⟨c + 1, by omega, by rw [Hsuc.out, Hv.out]; exact hl, by go_num, hgM, Hr5, by rw [Hsuc.out, Hv.out]; exact HX5⟩
            case measure => simp [intOf]; omega
          · have hL : (Instr.lookup 150 (.map (some (W.heap.size + 1))) (.int .i64 ((t : Nat) : Int)) true).run Try.prog w' = .ok (.tuple #[.int .i64 0, .bool false]) w' := by
              rcases run_look kaInt HX4.out.mp (fun y hy => HB.out _ (HPM2.out y hy)) (HB.out _ HPt.out) Hnd2.out true with ⟨_, h⟩ | ⟨h, _⟩
              · exact h
              · exact absurd h hmem
            have Hv : Hid (vis M2 t = M2 ++ [t]) := vis_new hmem
            by_cases hfull : M2.length = most
            · have hb : ((M2.length : Int) == (most : Int)) = true := by simp [hfull]
              obtain ⟨c0, c1, f0, f1⟩ := blk2 HX4.out.b8
              have Hover : Hid (most < (rnd nx s0 (k + 1)).length) := by
                rw [Hsucc.out, ← visN_three]
                have := Hpre3.out.length_le
                rw [Hsuc.out, Hv.out] at this
                simp at this
                unfold Hid
                omega
              have hbel := HX4.out.bel
              clear hmem hfull
              go_wp2
              have e0 := cell_setOther (o := 1) (u := .slice none 0 0) (cell_setSame (u := .slice none 0 0) c0) (by omega)
              have e1 := cell_setSame (u := .slice none 0 0) (cell_setOther (o := 0) (u := .slice none 0 0) c1 (by omega))
              refine bodyPost_ret (v := .tuple #[.agg #[.slice none 0 0, .slice none 0 0], .slice none 0 0, .bool false]) (by simp [results, Try.results110, go_sem, e0, e1]) rfl
                ⟨_, _, _, false, rfl, (hbel.setCell (Nat.le_refl _) _).setCell (Nat.le_refl _) _, .inr ⟨rfl, rfl, rfl, rfl, _, Hover.out⟩⟩
            · have hb : ((M2.length : Int) == (most : Int)) = false := by simp; omega
              have hlt2 : M2.length < most := by omega
              have hP2 := run_put (x := t) kaInt HX4.out.mp (fun y hy => HB.out _ (HPM2.out y hy)) (HB.out _ HPt.out) Hnd2.out hmem
              have hR2 := put_row (x := t) HX4.out.mp
              have hG2 := put_grown HX4.out.mp (.map (ents (fun s : Nat => Value.int .i64 s) (M2 ++ [t])) (M2.length + 1))
              generalize ChangeMaps.setBlock w' (W.heap.size + 1) (.map (ents (fun s : Nat => Value.int .i64 s) (M2 ++ [t])) (M2.length + 1)) = w2 at *
              have HX5 := Lib.hid (HX4.out.put hG2 hR2)
              have hr5 := Lib.hid (hr4.out.grow hG2 (fun he => by
                cases he
                have h1 := hr4.out
                have h2 := HX4.out.mp
                unfold RowI Row at h1
                unfold MRow at h2
                rw [h1] at h2
                injection h2 with h2
                injection h2))
              clear hR2 hG2 HX4 hr4 hfull
              go_wp2_with (
                refine appAt elInt (by decide) rfl (.tmp 59) (.tmp 61) rfl W.heap.size _ _ _ [.int .i64 ((t : Nat) : Int)] w2 rfl rfl rfl HX5.out.me rfl (by simp [Value.oneCell']) (by omega) HX5.out.size ?_
                intro v3 w3 ho3 hg3 hat3
                have ho4 : w3.ownsRow W.heap.size 3 1 v3 (M2 ++ [t]).length ((M2 ++ [t]).flatMap fun s : Nat => [.int .i64 s]) := by
                  rw [List.length_append, List.flatMap_append]
                  exact ho3.out
                have HX6 := Lib.hid (HX5.out.met hg3 ho4 hat3.out (by omega))
                have hgw := hr5.out.lt
                have hr6 := Lib.hid (hr5.out.grow hg3 hgM.out)
                have hgM6 : Hid (some g ≠ v3.ownBlock) := by
                  rcases hat3.out with h | h
                  · rw [h]; exact hgM.out
                  · rw [h]; intro he; cases he; omega
                have Hnd6 : Hid ((M2 ++ [t]).Nodup) := by rw [← Hv.out]; exact vis_nodup Hnd2.out
                have HPM6 : Hid (∀ x ∈ M2 ++ [t], P x) := fun x hx => by
                  rcases List.mem_append.1 hx with h | h
                  · exact HPM2.out x h
                  · simp at h; subst h; exact HPt.out
                have hL2 : (Instr.lookup 150 (.map (some (W.heap.size + 1))) (.int .i64 ((t : Nat) : Int)) false).run Try.prog w3 = .ok (.int .i64 ((M2.length : Nat) : Int)) w3 := by
                  rcases run_look kaInt HX6.out.mp (fun y hy => HB.out _ (HPM6.out y hy)) (HB.out _ HPt.out) Hnd6.out false with ⟨h, _⟩ | ⟨_, h⟩
                  · exact absurd (by simp) h
                  · rw [idx_new hmem] at h; exact h
                rw [Hsuc.out, Hv.out, idx_new hmem] at Hrc
                have Hrc2 := Lib.hid Hrc
                clear ho3 ho4 hg3 hat3 Hrc hmem HX5 hr5 hL hP2
                have hcc := hr6.out.cell (i := c) (by rw [part_len]; exact hc3)
                obtain ⟨u, hu⟩ : ∃ u, w3.cell? ⟨g, c, none⟩ = some u := ⟨_, hcc⟩
                clear hcc
                have hfz := hr6.out.fz c
                have hr7 := hr6.out.set c ((M2.length : Nat) : Int)
                rw [← Hrc2.out, part_set (rowF nx M s) 0 hc3, Hrc2.out] at hr7
                have Hr7 := Lib.hid hr7
                have HX7 := Lib.hid (HX6.out.cur hr6.out hgb hgM6.out (fun p hp he => by have := hgr.out p hp; omega) c (.int .i64 ((M2.length : Nat) : Int)))
                clear hr7 hr6 HX6)
              go_roundw
              case rel => exact ⟨c + 1, by omega, by rw [Hsuc.out, Hv.out]; simp; omega, by go_num, hgM6, Hr7, by rw [Hsuc.out, Hv.out]; exact HX7⟩
              case measure => simp [intOf]; omega
        · obtain rfl : c = 3 := by omega
          rw [visN_three, ← Hsucc.out] at Hpre HX Hnd2 hl hlen hml hgM ⊢
          have Hrs2 : Hid ((rs ++ [(g, part 3 3 (rowF nx M s) 0)]).map (·.2) = rowsX nx s0 (k + 1)) := by
            rw [List.map_append, Hrs.out, rowsX_succ, Hrow.out, part_all]; rfl
          clear HPM2
          have hk1 : k + 1 ≤ (rnd nx s0 (k + 1)).length := by omega
          obtain ⟨M3, hM3⟩ : ∃ M3, M3 = rnd nx s0 (k + 1) := ⟨_, rfl⟩
          have HM3 := Lib.hid hM3
          rw [← hM3] at Hpre HX hl hlen hml hgM hk1 ⊢
          clear hM3 Hnd2
          have hst : M3[k]? = some s := by
            obtain ⟨r, hr⟩ := Hpre.out
            rw [← hr, List.getElem?_append_left hlt]; exact Hs.out
          have hkM3 : k < M3.length := by omega
          rw [List.getElem?_eq_getElem hkM3] at hst
          injection hst with hst
          have hme := (ownFl HX.out.me).fl
          rw [flat1] at hme
          obtain ⟨bm, om, rfl, hcell⟩ := Fl.at hme (i := k) (by simp; omega)
          rw [List.getElem_map, hst] at hcell
          clear hcell hst hme
          obtain ⟨c0, c1, f0, f1⟩ := blk2 HX.out.b13
          have hkI : (k : Int) < (M3.length : Int) := by omega
          go_wp2_with (
            refine appAt elInts (by decide) rfl (.tmp 71) (.tmp 73) rfl W.heap.size _ _ _ [.slice (some ⟨g, 0, none⟩) 3 3] wr rfl rfl rfl HX.out.nx rfl (by simp [Value.oneCell']) (by have := Hrl.out; omega) HX.out.size ?_
            intro v4 w4 ho4 hg4 hat4
            obtain ⟨a4, cap4, rfl, _⟩ := (ownFl ho4.out).shape
            have HXn := Lib.hid (HX.out.next hr.out hgb hgM.out (fun p hp he => by have := hgr.out p hp; omega) hg4 ho4.out)
            have b13 := blkGrow hg4 HX.out.b13 (own_cells HX.out.nx HX.out.b13 (by decide))
            obtain ⟨c0', c1', f0', f1'⟩ := blk2 b13
            clear b13 c0 c1 f0 f1 hat4 ho4 hr)
          generalize w4.setCell ⟨B1 + 1, 0, none⟩ (.slice a4 (rs.length + 1) cap4) = w5 at *
          clear hg4 HX c0' c1' f0' f1'
          have hme := (ownFl HXn.out.me).fl
          rw [flat1] at hme
          obtain ⟨bm', om', he0, hcell⟩ := Fl.at hme (i := k) (by simp; omega)
          cases he0
          have hst : M3[k]? = some s := by
            obtain ⟨r, hr⟩ := Hpre.out
            rw [← hr, List.getElem?_append_left hlt]; exact Hs.out
          rw [List.getElem?_eq_getElem hkM3] at hst
          injection hst with hst
          rw [List.getElem_map, hst] at hcell
          clear hst hme
          have b13 := HXn.out.b13
          obtain ⟨aE, capE, rfl, _⟩ := (ownFl HXn.out.en).shape
          obtain ⟨c0, c1, f0, f1⟩ := blk2 b13
          have HCE := Lib.hid (HE.out s w5.drew HPs.out HXn.out.drew.bel)
          have c1D : w5.drew.cell? ⟨B1 + 1, 1, none⟩ = some (.slice aE (endsX nx en s0 k).length capE) := c1
          have hcD : w5.drew.cell? ⟨bm, om + k, none⟩ = some (.int .i64 ((s : Nat) : Int)) := hcell
          have HXD := Lib.hid HXn.out.drew
          have hsz5 : W.heap.size ≤ w5.heap.size := HXn.out.size
          have c1A : (w5.drew.alloc (.cells #[.bool (pb (en s = true))] 4)).cell? ⟨B1 + 1, 1, none⟩ = some (.slice aE (endsX nx en s0 k).length capE) := kpAlloc (S := fun _ => True) _ _ trivial c1D
          have c1B : (w5.alloc (.cells #[.bool (pb (en s = true))] 4)).drew.cell? ⟨B1 + 1, 1, none⟩ = some (.slice aE (endsX nx en s0 k).length capE) := c1A
          go_region_law
            (first | (go_simp; rw [HbE.out, Oper.upon_enter]; refine (RB.q HCE.out).mono ?_; rintro e w' ⟨rfl, rfl⟩)
                   | (refine stepApp elBool (by decide) rfl (.tmp 77) (.tmp 84) rfl W.heap.size _ _ _ [.bool (pb (en s = true))] _ w5.heap.size rfl rfl (HXD.out.en.alloc _) (by exact blkNew _ _ rfl) rfl (by simp [Value.oneCell']) (by rw [endsX_len]; omega) (by simp; omega) ?_
                      intro gE capE' w6 ho6 hg6
                      have hg7 : w5.drew.grownBy w6 _ := grownTrans (grownBel ((Below.refl _ _).alloc (Nat.le_refl _) _)) hg6
                      have HX7 := Lib.hid (HXD.out.mark hg7 ho6.out)
                      have b13' := blkGrow hg7 HXD.out.b13 (own_cells HXD.out.en HXD.out.b13 (by decide))
                      obtain ⟨c0', c1', f0', f1'⟩ := blk2 b13'
                      have hc6 : w6.cell? ⟨bm, om + k, none⟩ = some (.int .i64 ((s : Nat) : Int)) := kpG hg7 ⟨bm, om + k, none⟩ _ (by
                        rcases own_two HXD.out.me HXD.out.en (by decide) with h | h
                        · simp [Value.ownBlock] at h
                        · exact h) hcD
                      have hc7 : (w6.setCell ⟨B1 + 1, 1, none⟩ (.slice (some ⟨gE, 0, none⟩) ((endsX nx en s0 k).length + 1) capE')).cell? ⟨bm, om + k, none⟩ = some (.int .i64 ((s : Nat) : Int)) := kpSet ⟨bm, om + k, none⟩ _ (by
                        have := own_cells HXD.out.me HXD.out.b13 (by decide)
                        simp [Value.ownBlock] at this
                        exact fun h => this h.symm) hc6
                      clear b13' hg6 hg7))
          all_goals (
            have Hes : Hid (endsX nx en s0 k ++ [pb (en s = true)] = endsX nx en s0 (k + 1)) := by
              rw [endsX_succ, Hend.out]
              unfold Hid pb
              cases en s <;> simp
            rw [Hes.out] at HX7
            clear hcell c1D hcD c1A c1B HXD HXn HCE
            go_wp2
            go_roundw
            case rel => exact ⟨k + 1, _, _, _, by rw [← HM3.out]; exact hk1, by rw [← HM3.out]; exact hl, by go_num, Hrs2, by rw [← HM3.out]; exact HX7⟩
            case measure => simp [intOf]; omega)
    · have hkk : (rnd nx s0 k).length = k := by omega
      have h0 := rnd_pos nx s0 k
      have Hall := Lib.hid (explored_all nx en s0 hkk)
      have Hl3 : Hid (∀ p ∈ rs, p.2.length = 3) := fun p hp => by
        have : p.2 ∈ rowsX nx s0 k := by rw [← Hrs.out]; exact List.mem_map.2 ⟨p, hp, rfl⟩
        obtain ⟨i, hi, hr⟩ := List.mem_map.1 this
        have hi := List.mem_range.1 hi
        have hh : i < (rnd nx s0 i).length := by
          rcases Nat.lt_or_ge i (rnd nx s0 i).length with h | h
          · exact h
          · have := rnd_done nx h (show i ≤ k by omega)
            have := congrArg List.length this
            omega
        rw [rowX_at nx s0 hh] at hr
        rw [← hr]
        simp
      have Hrl : rs.length = k := by have := congrArg List.length Hrs.out; rw [rowsX_len] at this; simpa using this
      have Hd := Lib.hid (HX.out.dfa (by omega) (by rw [endsX_len]; omega) Hl3.out)
      rw [Hrs.out, ← Hall.out] at Hd
      have Hme := Lib.hid HX.out.me
      rw [hkk] at Hme ⊢
      have hbel := HX.out.bel
      obtain ⟨aN, capN, rfl, _⟩ := (ownFl HX.out.nx).shape
      obtain ⟨aE, capE, rfl, _⟩ := (ownFl HX.out.en).shape
      obtain ⟨c0, c1, f0, f1⟩ := blk2 HX.out.b13
      obtain ⟨d0, d1, g0, g1⟩ := blk2 HX.out.b8
      have hne8 : W.heap.size ≠ B1 + 1 := HX.out.ne
      have hnle : ¬ ((k : Int) < (k : Int)) := by omega
      clear Hall Hl3 Hrl hlt hk h0 Hnd HPM
      go_wp2
      have e0 := cell_setOther (o := 1) (u := .slice aE (endsX nx en s0 k).length capE) (cell_setSame (u := .slice aN rs.length capN) d0) (by omega)
      have e1 := cell_setSame (u := .slice aE (endsX nx en s0 k).length capE) (cell_setOther (o := 0) (u := .slice aN rs.length capN) d1 (by omega))
      have hbe := (hbel.setCell (p := ⟨W.heap.size, 0, none⟩) (Nat.le_refl _) (.slice aN rs.length capN)).setCell (p := ⟨W.heap.size, 1, none⟩) (Nat.le_refl _) (.slice aE (endsX nx en s0 k).length capE)
      have ks1 : Ks (fun b => (W.heap.size ≤ b ∧ b < wr.heap.size) ∧ b ≠ W.heap.size) wr ((wr.setCell ⟨W.heap.size, 0, none⟩ (.slice aN rs.length capN)).setCell ⟨W.heap.size, 1, none⟩ (.slice aE (endsX nx en s0 k).length capE)) := fun b hb _ => by
        rw [Below.heap_setCell _ _ _ _ hb.2, Below.heap_setCell _ _ _ _ hb.2]
      have hd := (Hd.out.stay ks1).mono (T := fun b => W.heap.size ≤ b ∧ b < ((wr.setCell ⟨W.heap.size, 0, none⟩ (.slice aN rs.length capN)).setCell ⟨W.heap.size, 1, none⟩ (.slice aE (endsX nx en s0 k).length capE)).heap.size) (fun b hb => by simpa [World.setCell] using hb.1)
      have hm8 : some W.heap.size ≠ Value.ownBlock (.slice am k capm) := own_cells Hme.out HX.out.b8 (by decide)
      have hm := (Hme.out.kept (grownSet wr W.heap.size 0 (.slice aN rs.length capN)) (.inr hm8.symm)).kept (grownSet _ W.heap.size 1 (.slice aE (endsX nx en s0 k).length capE)) (.inr hm8.symm)
      refine bodyPost_ret (v := .tuple #[.agg #[.slice aN rs.length capN, .slice aE (endsX nx en s0 k).length capE], .slice am k capm, .bool true]) (by simp [results, Try.results110, go_sem, e0, e1]) rfl
        ⟨_, _, _, true, rfl, hbe, .inl ⟨rfl, k, hkk, by omega, hd, hm⟩⟩
end Go.Proofs.Ytbcjhiponbfbnaa

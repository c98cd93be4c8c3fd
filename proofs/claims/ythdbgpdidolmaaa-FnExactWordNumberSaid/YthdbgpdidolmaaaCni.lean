/- The program's counts: for each number of letters the list of counts. Valid automata. -/
import Derived.Test.YthdbgpdidolmaaaCnt
import Derived.Deep.MidRow
namespace Go.Proofs.Ythdbgpdidolmaaa
open Go.RowKit
set_option maxRecDepth 100000
variable {S : Nat → Prop}

theorem setCells_heap (b : Nat) : ∀ (vs : List Value) (o : Nat) (w : World) (c : Nat), c ≠ b → (w.setCells b o vs).heap[c]? = w.heap[c]?
  | [], _, _, _, _ => rfl
  | v :: r, o, w, c, h => by
    show ((w.setCell ⟨b, o, none⟩ v).setCells b (o + 1) r).heap[c]? = _
    rw [setCells_heap b r (o + 1) _ c h, Below.heap_setCell _ _ _ _ h]
theorem setCells_below {B b : Nat} {w0 : World} (hB : B ≤ b) : ∀ (vs : List Value) (o : Nat) (w : World), Below B w0 w → Below B w0 (w.setCells b o vs)
  | [], _, _, h => h
  | v :: r, o, w, h => setCells_below hB r (o + 1) _ (h.setCell hB v)
theorem results_cell_mid {P : Program} {fn : Func} {p : Tmp} {ty : TypeId} (h : fn.results = #[.cell p ty]) (tmps : Array Value) (w : World) (b : Nat) (cs : List Value) (d : TypeDesc)
    (hp : tmps.getD p undef = .pointer (some ⟨b, 0, none⟩)) (hc : w.rangeAt b 0 cs) (hu : P.underlying ty = some d) (hd : d.isRow = true) (hi : (P.info? ty).map (·.size) = some cs.length) :
    (results fn tmps).run P w = .ok (.agg cs.toArray) w := by
  have hp' : tmps[p]?.getD undef = .pointer (some ⟨b, 0, none⟩) := by simpa using hp
  simp [results, h, hp', asAddr, run_loadVar_mid w b 0 ty cs d hc hu hd hi]
/-- A row of 31 slices, of which the first k are the lists of counts at blocks g. -/
def cslots (n : Nat) (g : Nat → Nat) (k : Nat) : List Value := part 31 k (fun i => .slice (some ⟨g i, 0, none⟩) n n) (.slice none 0 0)
abbrev RowV (w : World) (b : Nat) (xs : List Value) : Prop := Row (fun v => v) 91 w b xs
theorem cslots_len (n : Nat) (g : Nat → Nat) (k : Nat) : (cslots n g k).length = 31 := by simp [cslots, part]
theorem cslots_get {n : Nat} {g : Nat → Nat} {k i : Nat} (h : i < 31) (hk : i < k) : (cslots n g k)[i]'(by rw [cslots_len]; exact h) = .slice (some ⟨g i, 0, none⟩) n n := by
  unfold cslots; rw [part_get h, if_pos hk]
theorem cslots_set {n : Nat} {g : Nat → Nat} {k G : Nat} (h : k < 31) : (cslots n g k).set k (.slice (some ⟨G, 0, none⟩) n n) = cslots n (fun i => if i = k then G else g i) (k + 1) := by
  unfold cslots
  have e := part_set (n := 31) (k := k) (fun i => Value.slice (some ⟨if i = k then G else g i, 0, none⟩) n n) (.slice none 0 0) h
  simp only [if_true] at e
  rw [← e]
  congr 1
  unfold part
  apply List.map_congr_left
  intro i _
  by_cases h1 : i < k
  · rw [if_pos h1, if_pos h1]
    show _ = Value.slice (some ⟨if i = k then G else g i, 0, none⟩) n n
    rw [if_neg (by omega)]
  · rw [if_neg h1, if_neg h1]
theorem part_id {D : DfaD} (j : Nat) {k : Nat} (hkl : k < D.1.length) (l : Nat) : (part D.1.length k (fun s => ((cnt D l s : Nat) : Int)) 0).set k ((cns D j k 0 : Nat) : Int) = part D.1.length k (fun s => ((cnt D l s : Nat) : Int)) 0 := by
  apply List.ext_getElem
  · simp
  · intro i h1 h2
    rw [List.getElem_set]
    split
    · rename_i e; subst e; rw [part_get hkl, if_neg (Nat.lt_irrefl _)]; rfl
    · rfl
/-- What stays while row G is written. -/
def CI (D : DfaD) (W W2 : World) (B2 G : Nat) (g : Nat → Nat) (k : Nat) (wr : World) : Prop :=
  Below W.heap.size W wr ∧ W2.heap.size ≤ wr.heap.size ∧ RowV wr B2 (List.replicate 31 (Value.slice none 0 0)) ∧ RowV wr (B2 + 1) (cslots D.1.length g (k + 1)) ∧ ∀ i, i < k → W2.heap.size ≤ g i ∧ g i ≠ G ∧ RowI wr (g i) (cntL D i)
theorem CI.drew {D : DfaD} {W W2 : World} {B2 G : Nat} {g : Nat → Nat} {k : Nat} {wr : World} (h : CI D W W2 B2 G g k wr) : CI D W W2 B2 G g k wr.drew := ⟨h.1.drew, h.2.1, h.2.2.1, h.2.2.2.1, h.2.2.2.2⟩
theorem CI.set {D : DfaD} {W W2 : World} {B2 G : Nat} {g : Nat → Nat} {k : Nat} {wr : World} (h : CI D W W2 B2 G g k wr) (h1 : W.heap.size ≤ B2) (h2 : B2 + 1 < W2.heap.size) (h3 : W2.heap.size ≤ G) (o : Nat) (u : Value) : CI D W W2 B2 G g k (wr.setCell ⟨G, o, none⟩ u) :=
  ⟨h.1.setCell (by show W.heap.size ≤ G; omega) _, by simp [World.setCell]; exact h.2.1, h.2.2.1.far (by omega) _, h.2.2.2.1.far (by omega) _, fun i hi => ⟨(h.2.2.2.2 i hi).1, (h.2.2.2.2 i hi).2.1, (h.2.2.2.2 i hi).2.2.far (h.2.2.2.2 i hi).2.1 _⟩⟩
set_option maxHeartbeats 4000000 in
theorem counts_c (vn ve : Value) (D : DfaD) (w : World) (h : DfaR S w vn ve D) (hD : okD D) :
    Calls Try.prog 73 #[.agg #[vn, ve]] w (RVn w fun v w' => ∃ g : Nat → Nat, v = .agg (cslots D.1.length g 31).toArray ∧ ∀ i, i < 31 → w.heap.size < g i ∧ RowI w' (g i) (cntL D i)) := by
  obtain ⟨a, c, b, d, rfl, rfl, hn, hm⟩ := (h).shapes
  obtain ⟨W, hW⟩ : ∃ W, W = w.alloc (.cells #[.slice a D.1.length c, .slice b D.2.length d] 36) := ⟨_, rfl⟩
  have Hb0 : Hid (Below w.heap.size w W) := by rw [hW]; exact (Below.refl _ _).alloc (Nat.le_refl _) _
  have c0 : W.cell? ⟨w.heap.size, 0, none⟩ = some (.slice a D.1.length c) := by rw [hW, World.cell?_alloc_mark]; rfl
  have c1 : W.cell? ⟨w.heap.size, 1, none⟩ = some (.slice b D.2.length d) := by rw [hW, World.cell?_alloc_mark]; rfl
  have K0 : Hid (W.heap[w.heap.size]? = some (.cells #[.slice a D.1.length c, .slice b D.2.length d] 36 (0, 0))) := by rw [hW]; exact blkNew _ _ rfl
  have Hz : Hid (W.heap.size = w.heap.size + 1) := by rw [hW]; simp [Hid]
  have H := Lib.hid ((h).stay (kpB Hb0.out)); clear h
  have HW := Lib.hid hW; clear hW
  have HD := Lib.hid hD
  have Hdl := Lib.hid hD.2.1
  have hn40 : D.1.length ≤ 40 := hD.1.2
  clear hD c0 c1
  obtain ⟨W2, hW2⟩ : ∃ W2, W2 = (W.alloc (.cells (List.replicate 31 (Value.slice none 0 0)).toArray 91)).alloc (.cells (List.replicate 31 (Value.slice none 0 0)).toArray 91) := ⟨_, rfl⟩
  have hb2 : Below W.heap.size W W2 := by rw [hW2]; exact ((Below.refl _ _).alloc (Nat.le_refl _) _).alloc (by simp) _
  obtain ⟨B2, hB2⟩ : ∃ B2, B2 = w.heap.size + 1 := ⟨_, rfl⟩
  have hR2 : Hid (RowV W2 B2 (List.replicate 31 (Value.slice none 0 0))) := by
    unfold RowV Row Hid
    rw [hW2, hB2, ← Hz.out]
    simp only [List.map_id']
    exact blkOld (blkNew W _ rfl)
  have hR3 : Hid (RowV W2 (B2 + 1) (List.replicate 31 (Value.slice none 0 0))) := by
    unfold RowV Row Hid
    rw [hW2, hB2, ← Hz.out]
    simp only [List.map_id']
    exact blkNew _ _ (by simp)
  have HW2 := Lib.hid hW2; clear hW2
  have hWB : W.heap.size ≤ B2 := by rw [Hz.out, hB2]; exact Nat.le_refl _
  have hwB : w.heap.size < B2 := by rw [hB2]; omega
  have hs2 := hR3.out.lt
  have hs3 := hb2.size
  go_enter Try.func73, Try.ntmps73
  go_wp2
  rw [← HW.out]
  change Code.wp _ _ _ _ ((W.alloc (.cells (List.replicate 31 (Value.slice none 0 0)).toArray 91)).alloc (.cells (List.replicate 31 (Value.slice none 0 0)).toArray 91))
  rw [← HW2.out, ← hB2]
  have HB2 := Lib.hid hB2; clear hB2
  go_loopw [9] (fun i wr => ∃ (k : Nat) (g : Nat → Nat), k ≤ 31 ∧ i = .int .i64 k ∧ Below W.heap.size W wr ∧ W2.heap.size ≤ wr.heap.size ∧ Hid (RowV wr B2 (List.replicate 31 (Value.slice none 0 0))) ∧ Hid (RowV wr (B2 + 1) (cslots D.1.length g k)) ∧ Hid (∀ i, i < k → (W2.heap.size ≤ g i ∧ RowI wr (g i) (cntL D i)))) (fun i _ => 31 - (intOf i).toNat)
  case atStart => exact ⟨0, fun _ => 0, by omega, rfl, hb2, Nat.le_refl _, hR2, by unfold cslots; rw [part_zero]; exact hR3, fun i hi => absurd hi (Nat.not_lt_zero _)⟩
  case round =>
    clear hR2 hR3 hb2
    obtain ⟨k, g, hk, rfl, hb, hws, hR2, hR3, hG⟩ := hrel
    have k0 := blkBel hb K0.out
    obtain ⟨c0, c1, _, _⟩ := blk2 k0
    by_cases hlt : k < 31
    · have hlc : k < (cslots D.1.length g k).length := by rw [cslots_len]; exact hlt
      have hgk := hG.out
      have hwr := Lib.hid (Nat.le_trans (show W.heap.size ≤ W2.heap.size by omega) hws)
      go_wp2_with (at_make; refine makeRow ezInt (by decide) rfl (.tmp 15) (.tmp 15) rfl D.1.length _ rfl rfl (by omega) ?_; intro w3 hr3 hb3 hz3; have hq3 := (hR3.out.stay hb3).cell hlc; have hf3 := (hR3.out.stay hb3).fz k; obtain ⟨c0', c1', _, _⟩ := blk2 (blkBel hb3 k0))
      have hB3 : B2 + 1 < W2.heap.size := hs2
      obtain ⟨G, hGd⟩ : ∃ G, G = wr.heap.size := ⟨_, rfl⟩
      rw [← hGd] at hr3 ⊢
      have hGW : W2.heap.size ≤ G := by rw [hGd]; exact hws
      obtain ⟨W4, hW4⟩ : ∃ W4, W4 = w3.setCell ⟨B2 + 1, k, none⟩ (.slice (some ⟨G, 0, none⟩) D.1.length D.1.length) := ⟨_, rfl⟩
      rw [← hW4]
      have hci : CI D W W2 B2 G (fun i => if i = k then G else g i) k W4 := by
        have hbb := hb.trans (hb3.mono hb.size)
        refine ⟨?_, ?_, ?_, ?_, ?_⟩
        · rw [hW4]; exact hbb.setCell (by show W.heap.size ≤ B2 + 1; omega) _
        · rw [hW4]; have := hb3.size; simp [World.setCell]; omega
        · rw [hW4]; exact (hR2.out.stay hb3).far (by omega) _
        · rw [hW4, ← cslots_set hlt]; exact (hR3.out.stay hb3).set k _
        · intro i hi
          obtain ⟨q1, q2⟩ := hgk i hi
          simp only [if_neg (show i ≠ k by omega)]
          have := q2.lt
          exact ⟨q1, by omega, by rw [hW4]; exact (q2.stay hb3).far (by omega) _⟩
      have hg4 : Hid (RowI W4 G (part D.1.length 0 (fun s => ((cnt D k s : Nat) : Int)) 0)) := by
        rw [part_zero, hW4]; exact hr3.out.far (by omega) _
      have Hci := Lib.hid hci
      have hgG : Hid ((fun i => if i = k then G else g i) k = G) := if_pos rfl
      obtain ⟨g', hg'⟩ : ∃ g' : Nat → Nat, g' = fun i => if i = k then G else g i := ⟨_, rfl⟩
      rw [← hg'] at Hci hgG
      clear hg' hci hW4 hGd hr3 hb3 hz3 hq3 hf3 c0' c1' hb hws hR2 hR3 hG hgk c0 c1 k0 hwr hlc
      rcases Nat.eq_zero_or_pos k with rfl | hpos
      · go_loopw [21] (fun i wr => ∃ s : Nat, s ≤ D.1.length ∧ i = .int .i64 s ∧ Hid (CI D W W2 B2 G g' 0 wr) ∧ Hid (RowI wr G (part D.1.length s (fun s => ((cnt D 0 s : Nat) : Int)) 0))) (fun i _ => D.1.length - (intOf i).toNat)
        case atStart => exact ⟨0, by omega, rfl, Hci, hg4⟩
        case round =>
          clear Hci hg4
          obtain ⟨s, hs, rfl, Hci, hq⟩ := hrel
          have k0 := blkBel Hci.out.1 K0.out
          obtain ⟨c0, c1, _, _⟩ := blk2 k0
          by_cases hsl : s < D.1.length
          · obtain ⟨be, oe, rfl, he⟩ := (H.out.stay (kpB Hci.out.1)).mark HD.out hsl
            obtain ⟨bn, on, br, or_, cr, rfl, hr1, _⟩ := (H.out.stay (kpB Hci.out.1)).row HD.out hsl
            have hlt2 : s < D.2.length := by rw [Hdl.out]; exact hsl
            have hc := hq.out.cell (i := s) (by rw [part_len]; exact hsl)
            rw [part_get hsl, if_neg (Nat.lt_irrefl s)] at hc
            have hfz := hq.out.fz s
            have ho := Hci.out.2.2.2.1.cell (i := 0) (by rw [cslots_len]; omega)
            rw [cslots_get (by omega) (by omega), hgG.out] at ho
            have hF : ((cnt D 0 s : Nat) : Int) = if de D s then 1 else 0 := by unfold cnt; split <;> rfl
            cases hde : de D s
            · rw [hde] at he hF
              simp only [if_false, Bool.false_eq_true] at hF
              have hq2 := Lib.hid hq.out
              rw [← part_keep (fun s => ((cnt D 0 s : Nat) : Int)) 0 hF] at hq2
              clear hF hde hq
              go_wp2
              go_roundw
              case rel => exact ⟨s + 1, by omega, by go_num, Hci, hq2⟩
              case measure => simp [intOf]; omega
            · rw [hde] at he hF
              simp only [if_true] at hF
              have hq2 := Lib.hid (hq.out.set s 1)
              have e1 := part_set (fun s => ((cnt D 0 s : Nat) : Int)) 0 hsl
              simp only [hF] at e1
              rw [e1] at hq2
              have Hci2 := Lib.hid (Hci.out.set hWB hB3 hGW s (.int .i64 1))
              clear hF hde hq e1 Hci
              go_wp2
              go_roundw
              case rel => exact ⟨s + 1, by omega, by go_num, Hci2, hq2⟩
              case measure => simp [intOf]; omega
          · obtain rfl : s = D.1.length := by omega
            have hq2 : Hid (RowI wr G (cntL D 0)) := by have := hq.out; rw [part_all] at this; exact this
            have hci := Hci.out
            have HD1 := Lib.hid hci.1
            have HD2 := hci.2.1
            have HD3 := Lib.hid hci.2.2.1
            have HD4 := Lib.hid hci.2.2.2.1
            clear hci Hci hq
            go_wp2
            go_roundw
            case rel => exact ⟨1, g', by omega, rfl, HD1.out, HD2, HD3, HD4, fun i hi => by
              obtain rfl : i = 0 := by omega
              rw [hgG.out]; exact ⟨hGW, hq2.out⟩⟩
            case measure => simp [intOf]
      · obtain ⟨k', hk'⟩ : ∃ k', k' + 1 = k := ⟨k - 1, by omega⟩
        have hk30 : k' ≤ 29 := by omega
        have hkk : k' < k := by omega
        have Hk' := Lib.hid hk'
        have hkz : ((k : Int) == 0) = false := by simp; omega
        have hkm : IntKind.i64.wrap ((k : Int) - 1) = (k' : Int) := by rw [IntWalk.i64_in _ (by omega)]; omega
        have Hkm := Lib.hid hkm
        clear hk' hkm
        go_loopw [21] (fun i wr => ∃ s : Nat, s ≤ D.1.length ∧ i = .int .i64 s ∧ Hid (CI D W W2 B2 G g' k wr) ∧ Hid (RowI wr G (part D.1.length s (fun s => ((cnt D k s : Nat) : Int)) 0))) (fun i _ => D.1.length - (intOf i).toNat)
        case atStart => exact ⟨0, by omega, rfl, Hci, hg4⟩
        case round =>
          clear Hci hg4
          obtain ⟨s, hs, rfl, Hci, hq⟩ := hrel
          by_cases hsl : s < D.1.length
          · obtain ⟨c0, c1, _, _⟩ := blk2 (blkBel Hci.out.1 K0.out)
            obtain ⟨bn, on, br, or_, cr, e1, hrW, _, hcW⟩ := H.out.row HD.out hsl
            subst e1
            have hr1 := kpB (S := fun _ => True) Hci.out.1 _ _ trivial hrW
            have HcW := Lib.hid hcW; clear hcW hrW
            go_wp2_with fail
            go_loopw [39] (fun i wr => ∃ t : Nat, t ≤ 3 ∧ i = .int .i64 t ∧ Hid (CI D W W2 B2 G g' k wr) ∧ Hid (RowI wr G ((part D.1.length s (fun s => ((cnt D k s : Nat) : Int)) 0).set s ((cns D k' s t : Nat) : Int)))) (fun i _ => 3 - (intOf i).toNat)
            case atStart => exact ⟨0, by omega, rfl, Hci, by rw [part_id k' hsl]; exact hq⟩
            case round =>
              clear Hci hq c0 c1 hr1
              obtain ⟨t, ht, rfl, Hci, hq⟩ := hrel
              by_cases htl : t < 3
              · have hs2 := kpB (S := fun _ => True) Hci.out.1 _ _ trivial (HcW.out t htl)
                have hs3 := dn_lt HD.out hsl htl
                have hci := Hci.out.2.2.2
                have ho1 := hci.1.cell (i := k) (by rw [cslots_len]; exact hlt)
                rw [cslots_get hlt (by omega), hgG.out] at ho1
                have ho2 := hci.1.cell (i := k') (by rw [cslots_len]; omega)
                rw [cslots_get (by omega) (by omega)] at ho2
                have hrk := hci.2 k' hkk
                have hcg := hrk.2.2.cell (i := dn D s t) (by rw [cntL_len]; exact hs3)
                rw [cntL_get D k' hs3] at hcg
                have hcq := hq.out.cell (i := s) (by rw [List.length_set, part_len]; exact hsl)
                rw [List.getElem_set_self] at hcq
                have hfz := hq.out.fz s
                have hb1 := cnt_bd D (show k' ≤ 30 by omega) (dn D s t)
                have hb2 := cns_bd D (show k' ≤ 30 by omega) s t (by omega)
                have hns : Hid (cns D k' s (t + 1) = cns D k' s t + cnt D k' (dn D s t)) := rfl
                obtain ⟨x, hx⟩ : ∃ x, x = cns D k' s t := ⟨_, rfl⟩
                obtain ⟨y, hy⟩ : ∃ y, y = cnt D k' (dn D s t) := ⟨_, rfl⟩
                obtain ⟨z, hz⟩ : ∃ z, z = dn D s t := ⟨_, rfl⟩
                obtain ⟨gk, hgk⟩ : ∃ gk, gk = g' k' := ⟨_, rfl⟩
                rw [← hx] at hb2 hns hcq
                rw [← hy] at hb1 hns hcg
                rw [← hz] at hcg hs2 hs3
                rw [← hgk] at ho2 hcg
                clear hx hy hz hgk hrk hci
                have htI : (t : Int) < 3 := by omega
                have hsI : (s : Int) < (D.1.length : Int) := by omega
                have hzI : (z : Int) < (D.1.length : Int) := by omega
                have hkI : (k : Int) < 31 := by omega
                have hkI' : (k' : Int) < 31 := by omega
                have hwx : IntKind.i64.wrap ((x : Int) + (y : Int)) = (x : Int) + (y : Int) := IntWalk.i64_in _ (by omega)
                have hkm := Hkm.out
                go_wp2_with fail
                go_still_tail 15, (by kernel_rfl)
                change wpList _ _ _ _ _ wr.drew
                clear hkm hwx
                have hq2 : RowI wr.drew G _ := hq.out
                have hc2 : Hid (CI D W W2 B2 G g' k wr.drew) := Hci.out.drew
                have hcq2 : wr.drew.cell? ⟨G, s, none⟩ = some (.int .i64 (x : Int)) := hcq
                have hfz2 : wr.drew.frozen? ⟨G, s, none⟩ = false := hfz
                clear hq Hci hcq hfz hcg hs2 ho1 ho2
                generalize wr.drew = w9 at *
                have hq3 := hq2.set s ((x : Int) + (y : Int))
                rw [List.set_set] at hq3
                have Hq3 := Lib.hid hq3; clear hq3 hq2
                have Hci2 := Lib.hid (hc2.out.set hWB hB3 hGW s (.int .i64 ((x : Int) + (y : Int))))
                clear hc2
                go_wp2
                go_roundw
                case rel => exact ⟨t + 1, by omega, by go_num, Hci2, by rw [hns.out, Int.natCast_add]; exact Hq3⟩
                case measure => simp [intOf]; omega
              · obtain rfl : t = 3 := by omega
                have hq2 := Lib.hid hq.out
                rw [cns_three, Hk'.out, part_set (fun s => ((cnt D k s : Nat) : Int)) 0 hsl] at hq2
                clear hq
                go_wp2
                go_roundw
                case rel => exact ⟨s + 1, by omega, by go_num, Hci, hq2⟩
                case measure => simp [intOf]; omega
          · obtain rfl : s = D.1.length := by omega
            have hq2 : Hid (RowI wr G (cntL D k)) := by have := hq.out; rw [part_all] at this; exact this
            have hci := Hci.out
            have HD1 := Lib.hid hci.1
            have HD2 := hci.2.1
            have HD3 := Lib.hid hci.2.2.1
            have HD4 := Lib.hid hci.2.2.2.1
            have HD5 := Lib.hid hci.2.2.2.2
            clear hci Hci hq
            go_wp2
            go_roundw
            case rel => exact ⟨k + 1, g', by omega, by go_num, HD1.out, HD2, HD3, HD4, fun i hi => by
              by_cases e : i = k
              · subst e
                rw [hgG.out]; exact ⟨hGW, hq2.out⟩
              · exact ⟨(HD5.out i (by omega)).1, (HD5.out i (by omega)).2.2⟩⟩
            case measure => simp [intOf]; omega
    · obtain rfl : k = 31 := by omega
      have hbf := Hb0.out.trans (hb.mono Hb0.out.size)
      have hcells := cslots_len D.1.length g 31
      have hg3 : wr.heap[B2 + 1]? = some (.cells (cslots D.1.length g 31).toArray 91 (0, 0)) := by have := hR3.out; unfold RowV Row at this; simpa using this
      have hinf : (Try.prog.info? 91).map (·.size) = some 31 := by kernel_rfl
      have hone : (cslots D.1.length g 31).toArray.all (·.oneCell') = true := by
        refine all_oneCell_toArray fun v hv => ?_
        unfold cslots part at hv
        obtain ⟨i, _, rfl⟩ := List.mem_map.1 hv
        split <;> rfl
      have hthere : wr.there B2 0 31 := fun j hj => by
        rw [Nat.zero_add]
        exact ⟨by rw [hR2.out.cell (by simpa using hj)]; rfl, hR2.out.fz j⟩
      clear c0 c1 k0
      go_wp2_with (first | (refine wpList_load_row rfl 91 (.tmp 3) rfl (B2 + 1) rfl 91 _ _ _ hg3 Try.underlying91 rfl (by rw [hinf]; simp [hcells]) ?_) | (refine wpList_store_mid rfl 91 (.tmp 2) (.tmp 61) rfl B2 0 _ rfl rfl (by simpa [hcells] using hthere) (by rw [hinf]; simp [hcells]) hone ?_))
      refine bodyPost_ret (v := .agg (cslots D.1.length g 31).toArray) (results_cell_mid Try.results73 _ _ B2 _ _ rfl (World.rangeAt_setCells_same _ _ _ _ (by rw [hcells]; exact hthere)) Try.underlying91 rfl (by rw [hinf, hcells])) rfl ?_
      refine RVn.mk (setCells_below (by omega) _ _ _ hbf) ⟨g, rfl, fun i hi => ?_⟩
      obtain ⟨q1, q2⟩ := hG.out i hi
      refine ⟨by omega, ?_⟩
      show _ = _
      rw [setCells_heap B2 _ 0 wr (g i) (by omega)]
      exact q2
end Go.Proofs.Ythdbgpdidolmaaa

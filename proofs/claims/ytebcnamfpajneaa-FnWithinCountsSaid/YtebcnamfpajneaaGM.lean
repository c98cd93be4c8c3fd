/- How many words of a length lead from a state to an end: the reference's list of counts. Valid automata, at most 30 letters.
The program's counts: for each number of letters the list of counts. Valid automata.
Matches in texts: the longest part, the first match, all matches; the program's and the reference's answers. Valid automata, valid texts.
Counting words: CountWords, RankWord, WordNumber; the program's and the reference's answers. No condition. -/
import Derived.StillTailTactics
import Derived.Deep.MidRow
import Derived.Test.YtebcnamfpajneaaGB
set_option linter.unusedSimpArgs false
set_option linter.unusedVariables false
set_option linter.unusedSectionVars false
namespace Go.Proofs.Ytebcnamfpajneaa
open Go.RowKit
set_option maxRecDepth 100000
variable {S : Nat → Prop}

/-- How many words of so many letters lead from a state to an end. -/
def cnt (D : DfaD) : Nat → Nat → Nat
  | 0, s => if de D s then 1 else 0
  | l + 1, s => cnt D l (dn D s 0) + cnt D l (dn D s 1) + cnt D l (dn D s 2)
theorem cnt_le (D : DfaD) : ∀ l s, cnt D l s ≤ 3 ^ l
  | 0, s => by unfold cnt; split <;> decide
  | l + 1, s => by
    have h0 := cnt_le D l (dn D s 0)
    have h1 := cnt_le D l (dn D s 1)
    have h2 := cnt_le D l (dn D s 2)
    show cnt D l (dn D s 0) + cnt D l (dn D s 1) + cnt D l (dn D s 2) ≤ 3 ^ (l + 1)
    rw [Nat.pow_succ]; omega
theorem p3_30 {l : Nat} (h : l ≤ 30) : 3 ^ l ≤ 205891132094649 := by
  have : 3 ^ l ≤ 3 ^ 30 := Nat.pow_le_pow_right (by omega) h
  have e : 3 ^ 30 = 205891132094649 := by decide
  omega
theorem cnt_bd (D : DfaD) {l : Nat} (h : l ≤ 30) (s : Nat) : cnt D l s ≤ 205891132094649 := Nat.le_trans (cnt_le D l s) (p3_30 h)
/-- The sum over the first c letters. -/
def cns (D : DfaD) (l s : Nat) : Nat → Nat
  | 0 => 0
  | c + 1 => cns D l s c + cnt D l (dn D s c)
theorem cns_three (D : DfaD) (l s : Nat) : cns D l s 3 = cnt D (l + 1) s := by simp [cns, cnt]
theorem cns_bd (D : DfaD) {l : Nat} (h : l ≤ 30) (s : Nat) : ∀ c, c ≤ 3 → cns D l s c ≤ 205891132094649 * c
  | 0, _ => by simp [cns]
  | c + 1, hc => by
    have := cns_bd D h s c (by omega)
    have := cnt_bd D h (dn D s c)
    show cns D l s c + cnt D l (dn D s c) ≤ _
    omega
/-- The list of counts. -/
def cntL (D : DfaD) (l : Nat) : List Int := (List.range D.1.length).map fun s => ((cnt D l s : Nat) : Int)
theorem cntL_len (D : DfaD) (l : Nat) : (cntL D l).length = D.1.length := by simp [cntL]
theorem cntL_get (D : DfaD) (l : Nat) {s : Nat} (h : s < D.1.length) : (cntL D l)[s]'(by rw [cntL_len]; exact h) = (cnt D l s : Int) := by simp [cntL]
end Go.Proofs.Ytebcnamfpajneaa
namespace Go.Proofs.Ytebcnamfpajneaa
open Go.RowKit
set_option maxRecDepth 100000
variable {S : Nat → Prop}

theorem setCells_heap (b : Nat) : ∀ (vs : List Value) (o : Nat) (w : World) (c : Nat), c ≠ b → (w.setCells b o vs).heap[c]? = w.heap[c]?
  | [], _, _, _, _ => rfl
  | v :: r, o, w, c, h => by
    show ((w.setCell ⟨b, o, none⟩ v).setCells b (o + 1) r).heap[c]? = _
    rw [setCells_heap b r (o + 1) _ c h, Below.heap_setCell _ _ _ _ h]
theorem setCells_below {B b : Nat} {w0 : World} (hB : B ≤ b) : ∀ (vs : List Value) (o : Nat) (w : World), Below B w0 w → Below B w0 (w.setCells b o vs)
  | [], _, _, h => h
  | v :: r, o, w, h => setCells_below hB r (o + 1) _ (h.setCell hB v)
theorem results_cell_mid {P : Program} {fn : Func} {p : Tmp} {ty : TypeId} (h : fn.results = #[.cell p ty]) (tmps : Array Value) (w : World) (b : Nat) (cs : List Value) (d : TypeDesc)
    (hp : tmps.getD p undef = .pointer (some ⟨b, 0, none⟩)) (hc : w.rangeAt b 0 cs) (hu : P.underlying ty = some d) (hd : d.isRow = true) (hi : (P.info? ty).map (·.size) = some cs.length) :
    (results fn tmps).run P w = .ok (.agg cs.toArray) w := by
  have hp' : tmps[p]?.getD undef = .pointer (some ⟨b, 0, none⟩) := by simpa using hp
  simp [results, h, hp', asAddr, run_loadVar_mid w b 0 ty cs d hc hu hd hi]
/-- A row of 31 slices, of which the first k are the lists of counts at blocks g. -/
def cslots (n : Nat) (g : Nat → Nat) (k : Nat) : List Value := part 31 k (fun i => .slice (some ⟨g i, 0, none⟩) n n) (.slice none 0 0)
abbrev RowV (w : World) (b : Nat) (xs : List Value) : Prop := Row (fun v => v) 64 w b xs
theorem cslots_len (n : Nat) (g : Nat → Nat) (k : Nat) : (cslots n g k).length = 31 := by simp [cslots, part]
theorem cslots_get {n : Nat} {g : Nat → Nat} {k i : Nat} (h : i < 31) (hk : i < k) : (cslots n g k)[i]'(by rw [cslots_len]; exact h) = .slice (some ⟨g i, 0, none⟩) n n := by
  unfold cslots; rw [part_get h, if_pos hk]
theorem cslots_set {n : Nat} {g : Nat → Nat} {k G : Nat} (h : k < 31) : (cslots n g k).set k (.slice (some ⟨G, 0, none⟩) n n) = cslots n (fun i => if i = k then G else g i) (k + 1) := by
  unfold cslots
  have e := part_set (n := 31) (k := k) (fun i => Value.slice (some ⟨if i = k then G else g i, 0, none⟩) n n) (.slice none 0 0) h
  simp only [if_true] at e
  rw [← e]
  congr 1
  unfold part
  apply List.map_congr_left
  intro i _
  by_cases h1 : i < k
  · rw [if_pos h1, if_pos h1]
    show _ = Value.slice (some ⟨if i = k then G else g i, 0, none⟩) n n
    rw [if_neg (by omega)]
  · rw [if_neg h1, if_neg h1]
theorem part_id {D : DfaD} (j : Nat) {k : Nat} (hkl : k < D.1.length) (l : Nat) : (part D.1.length k (fun s => ((cnt D l s : Nat) : Int)) 0).set k ((cns D j k 0 : Nat) : Int) = part D.1.length k (fun s => ((cnt D l s : Nat) : Int)) 0 := by
  apply List.ext_getElem
  · simp
  · intro i h1 h2
    rw [List.getElem_set]
    split
    · rename_i e; subst e; rw [part_get hkl, if_neg (Nat.lt_irrefl _)]; rfl
    · rfl
/-- What stays while row G is written. -/
def CI (D : DfaD) (W W2 : World) (B2 G : Nat) (g : Nat → Nat) (k : Nat) (wr : World) : Prop :=
  Below W.heap.size W wr ∧ W2.heap.size ≤ wr.heap.size ∧ RowV wr B2 (List.replicate 31 (Value.slice none 0 0)) ∧ RowV wr (B2 + 1) (cslots D.1.length g (k + 1)) ∧ ∀ i, i < k → W2.heap.size ≤ g i ∧ g i ≠ G ∧ RowI wr (g i) (cntL D i)
theorem CI.drew {D : DfaD} {W W2 : World} {B2 G : Nat} {g : Nat → Nat} {k : Nat} {wr : World} (h : CI D W W2 B2 G g k wr) : CI D W W2 B2 G g k wr.drew := ⟨h.1.drew, h.2.1, h.2.2.1, h.2.2.2.1, h.2.2.2.2⟩
theorem CI.set {D : DfaD} {W W2 : World} {B2 G : Nat} {g : Nat → Nat} {k : Nat} {wr : World} (h : CI D W W2 B2 G g k wr) (h1 : W.heap.size ≤ B2) (h2 : B2 + 1 < W2.heap.size) (h3 : W2.heap.size ≤ G) (o : Nat) (u : Value) : CI D W W2 B2 G g k (wr.setCell ⟨G, o, none⟩ u) :=
  ⟨h.1.setCell (by show W.heap.size ≤ G; omega) _, by simp [World.setCell]; exact h.2.1, h.2.2.1.far (by omega) _, h.2.2.2.1.far (by omega) _, fun i hi => ⟨(h.2.2.2.2 i hi).1, (h.2.2.2.2 i hi).2.1, (h.2.2.2.2 i hi).2.2.far (h.2.2.2.2 i hi).2.1 _⟩⟩
set_option maxHeartbeats 4000000 in
theorem counts_c (vn ve : Value) (D : DfaD) (w : World) (h : DfaR S w vn ve D) (hD : okD D) :
    Calls Try.prog 78 #[.agg #[vn, ve]] w (RVn w fun v w' => ∃ g : Nat → Nat, v = .agg (cslots D.1.length g 31).toArray ∧ ∀ i, i < 31 → w.heap.size < g i ∧ RowI w' (g i) (cntL D i)) := by
  obtain ⟨a, c, b, d, rfl, rfl, hn, hm⟩ := (h).shapes
  obtain ⟨W, hW⟩ : ∃ W, W = w.alloc (.cells #[.slice a D.1.length c, .slice b D.2.length d] 26) := ⟨_, rfl⟩
  have Hb0 : Hid (Below w.heap.size w W) := by rw [hW]; exact (Below.refl _ _).alloc (Nat.le_refl _) _
  have c0 : W.cell? ⟨w.heap.size, 0, none⟩ = some (.slice a D.1.length c) := by rw [hW, World.cell?_alloc_mark]; rfl
  have c1 : W.cell? ⟨w.heap.size, 1, none⟩ = some (.slice b D.2.length d) := by rw [hW, World.cell?_alloc_mark]; rfl
  have K0 : Hid (W.heap[w.heap.size]? = some (.cells #[.slice a D.1.length c, .slice b D.2.length d] 26 (0, 0))) := by rw [hW]; exact blkNew _ _ rfl
  have Hz : Hid (W.heap.size = w.heap.size + 1) := by rw [hW]; simp [Hid]
  have H := Lib.hid ((h).stay (kpB Hb0.out)); clear h
  have HW := Lib.hid hW; clear hW
  have HD := Lib.hid hD
  have Hdl := Lib.hid hD.2.1
  have hn40 : D.1.length ≤ 40 := hD.1.2
  clear hD c0 c1
  obtain ⟨W2, hW2⟩ : ∃ W2, W2 = (W.alloc (.cells (List.replicate 31 (Value.slice none 0 0)).toArray 64)).alloc (.cells (List.replicate 31 (Value.slice none 0 0)).toArray 64) := ⟨_, rfl⟩
  have hb2 : Below W.heap.size W W2 := by rw [hW2]; exact ((Below.refl _ _).alloc (Nat.le_refl _) _).alloc (by simp) _
  obtain ⟨B2, hB2⟩ : ∃ B2, B2 = w.heap.size + 1 := ⟨_, rfl⟩
  have hR2 : Hid (RowV W2 B2 (List.replicate 31 (Value.slice none 0 0))) := by
    unfold RowV Row Hid
    rw [hW2, hB2, ← Hz.out]
    simp only [List.map_id']
    exact blkOld (blkNew W _ rfl)
  have hR3 : Hid (RowV W2 (B2 + 1) (List.replicate 31 (Value.slice none 0 0))) := by
    unfold RowV Row Hid
    rw [hW2, hB2, ← Hz.out]
    simp only [List.map_id']
    exact blkNew _ _ (by simp)
  have HW2 := Lib.hid hW2; clear hW2
  have hWB : W.heap.size ≤ B2 := by rw [Hz.out, hB2]; exact Nat.le_refl _
  have hwB : w.heap.size < B2 := by rw [hB2]; omega
  have hs2 := hR3.out.lt
  have hs3 := hb2.size
  go_enter Try.func78, Try.ntmps78
  go_wp2
  rw [← HW.out]
  change Code.wp _ _ _ _ ((W.alloc (.cells (List.replicate 31 (Value.slice none 0 0)).toArray 64)).alloc (.cells (List.replicate 31 (Value.slice none 0 0)).toArray 64))
  rw [← HW2.out, ← hB2]
  have HB2 := Lib.hid hB2; clear hB2
  go_loopw [9] (fun i wr => ∃ (k : Nat) (g : Nat → Nat), k ≤ 31 ∧ i = .int .i64 k ∧ Below W.heap.size W wr ∧ W2.heap.size ≤ wr.heap.size ∧ Hid (RowV wr B2 (List.replicate 31 (Value.slice none 0 0))) ∧ Hid (RowV wr (B2 + 1) (cslots D.1.length g k)) ∧ Hid (∀ i, i < k → (W2.heap.size ≤ g i ∧ RowI wr (g i) (cntL D i)))) (fun i _ => 31 - (intOf i).toNat)
  case atStart => exact ⟨0, fun _ => 0, by omega, rfl, hb2, Nat.le_refl _, hR2, by unfold cslots; rw [part_zero]; exact hR3, fun i hi => absurd hi (Nat.not_lt_zero _)⟩
  case round =>
    clear hR2 hR3 hb2
    obtain ⟨k, g, hk, rfl, hb, hws, hR2, hR3, hG⟩ := hrel
    have k0 := blkBel hb K0.out
    obtain ⟨c0, c1, _, _⟩ := blk2 k0
    by_cases hlt : k < 31
    · have hlc : k < (cslots D.1.length g k).length := by rw [cslots_len]; exact hlt
      have hgk := hG.out
      have hwr := Lib.hid (Nat.le_trans (show W.heap.size ≤ W2.heap.size by omega) hws)
      go_wp2_with (at_make; refine makeRow ezInt (by decide) rfl (.tmp 15) (.tmp 15) rfl D.1.length _ rfl rfl (by omega) ?_; intro w3 hr3 hb3 hz3; have hq3 := (hR3.out.stay hb3).cell hlc; have hf3 := (hR3.out.stay hb3).fz k; obtain ⟨c0', c1', _, _⟩ := blk2 (blkBel hb3 k0))
      have hB3 : B2 + 1 < W2.heap.size := hs2
      obtain ⟨G, hGd⟩ : ∃ G, G = wr.heap.size := ⟨_, rfl⟩
      rw [← hGd] at hr3 ⊢
      have hGW : W2.heap.size ≤ G := by rw [hGd]; exact hws
      obtain ⟨W4, hW4⟩ : ∃ W4, W4 = w3.setCell ⟨B2 + 1, k, none⟩ (.slice (some ⟨G, 0, none⟩) D.1.length D.1.length) := ⟨_, rfl⟩
      rw [← hW4]
      have hci : CI D W W2 B2 G (fun i => if i = k then G else g i) k W4 := by
        have hbb := hb.trans (hb3.mono hb.size)
        refine ⟨?_, ?_, ?_, ?_, ?_⟩
        · rw [hW4]; exact hbb.setCell (by show W.heap.size ≤ B2 + 1; omega) _
        · rw [hW4]; have := hb3.size; simp [World.setCell]; omega
        · rw [hW4]; exact (hR2.out.stay hb3).far (by omega) _
        · rw [hW4, ← cslots_set hlt]; exact (hR3.out.stay hb3).set k _
        · intro i hi
          obtain ⟨q1, q2⟩ := hgk i hi
          simp only [if_neg (show i ≠ k by omega)]
          have := q2.lt
          exact ⟨q1, by omega, by rw [hW4]; exact (q2.stay hb3).far (by omega) _⟩
      have hg4 : Hid (RowI W4 G (part D.1.length 0 (fun s => ((cnt D k s : Nat) : Int)) 0)) := by
        rw [part_zero, hW4]; exact hr3.out.far (by omega) _
      have Hci := Lib.hid hci
      have hgG : Hid ((fun i => if i = k then G else g i) k = G) := if_pos rfl
      obtain ⟨g', hg'⟩ : ∃ g' : Nat → Nat, g' = fun i => if i = k then G else g i := ⟨_, rfl⟩
      rw [← hg'] at Hci hgG
      clear hg' hci hW4 hGd hr3 hb3 hz3 hq3 hf3 c0' c1' hb hws hR2 hR3 hG hgk c0 c1 k0 hwr hlc
      rcases Nat.eq_zero_or_pos k with rfl | hpos
      · go_loopw [21] (fun i wr => ∃ s : Nat, s ≤ D.1.length ∧ i = .int .i64 s ∧ Hid (CI D W W2 B2 G g' 0 wr) ∧ Hid (RowI wr G (part D.1.length s (fun s => ((cnt D 0 s : Nat) : Int)) 0))) (fun i _ => D.1.length - (intOf i).toNat)
        case atStart => exact ⟨0, by omega, rfl, Hci, hg4⟩
        case round =>
          clear Hci hg4
          obtain ⟨s, hs, rfl, Hci, hq⟩ := hrel
          have k0 := blkBel Hci.out.1 K0.out
          obtain ⟨c0, c1, _, _⟩ := blk2 k0
          by_cases hsl : s < D.1.length
          · obtain ⟨be, oe, rfl, he⟩ := (H.out.stay (kpB Hci.out.1)).mark HD.out hsl
            obtain ⟨bn, on, br, or_, cr, rfl, hr1, _⟩ := (H.out.stay (kpB Hci.out.1)).row HD.out hsl
            have hlt2 : s < D.2.length := by rw [Hdl.out]; exact hsl
            have hc := hq.out.cell (i := s) (by rw [part_len]; exact hsl)
            rw [part_get hsl, if_neg (Nat.lt_irrefl s)] at hc
            have hfz := hq.out.fz s
            have ho := Hci.out.2.2.2.1.cell (i := 0) (by rw [cslots_len]; omega)
            rw [cslots_get (by omega) (by omega), hgG.out] at ho
            have hF : ((cnt D 0 s : Nat) : Int) = if de D s then 1 else 0 := by unfold cnt; split <;> rfl
            cases hde : de D s
            · rw [hde] at he hF
              simp only [if_false, Bool.false_eq_true] at hF
              have hq2 := Lib.hid hq.out
              rw [← part_keep (fun s => ((cnt D 0 s : Nat) : Int)) 0 hF] at hq2
              clear hF hde hq
              go_wp2
              go_roundw
              case rel => exact ⟨s + 1, by omega, by go_num, Hci, hq2⟩
              case measure => simp [intOf]; omega
            · rw [hde] at he hF
              simp only [if_true] at hF
              have hq2 := Lib.hid (hq.out.set s 1)
              have e1 := part_set (fun s => ((cnt D 0 s : Nat) : Int)) 0 hsl
              simp only [hF] at e1
              rw [e1] at hq2
              have Hci2 := Lib.hid (Hci.out.set hWB hB3 hGW s (.int .i64 1))
              clear hF hde hq e1 Hci
              go_wp2
              go_roundw
              case rel => exact ⟨s + 1, by omega, by go_num, Hci2, hq2⟩
              case measure => simp [intOf]; omega
          · obtain rfl : s = D.1.length := by omega
            have hq2 : Hid (RowI wr G (cntL D 0)) := by have := hq.out; rw [part_all] at this; exact this
            have hci := Hci.out
            have HD1 := Lib.hid hci.1
            have HD2 := hci.2.1
            have HD3 := Lib.hid hci.2.2.1
            have HD4 := Lib.hid hci.2.2.2.1
            clear hci Hci hq
            go_wp2
            go_roundw
            case rel => exact ⟨1, g', by omega, rfl, HD1.out, HD2, HD3, HD4, fun i hi => by
              obtain rfl : i = 0 := by omega
              rw [hgG.out]; exact ⟨hGW, hq2.out⟩⟩
            case measure => simp [intOf]
      · obtain ⟨k', hk'⟩ : ∃ k', k' + 1 = k := ⟨k - 1, by omega⟩
        have hk30 : k' ≤ 29 := by omega
        have hkk : k' < k := by omega
        have Hk' := Lib.hid hk'
        have hkz : ((k : Int) == 0) = false := by simp; omega
        have hkm : IntKind.i64.wrap ((k : Int) - 1) = (k' : Int) := by rw [IntWalk.i64_in _ (by omega)]; omega
        have Hkm := Lib.hid hkm
        clear hk' hkm
        go_loopw [21] (fun i wr => ∃ s : Nat, s ≤ D.1.length ∧ i = .int .i64 s ∧ Hid (CI D W W2 B2 G g' k wr) ∧ Hid (RowI wr G (part D.1.length s (fun s => ((cnt D k s : Nat) : Int)) 0))) (fun i _ => D.1.length - (intOf i).toNat)
        case atStart => exact ⟨0, by omega, rfl, Hci, hg4⟩
        case round =>
          clear Hci hg4
          obtain ⟨s, hs, rfl, Hci, hq⟩ := hrel
          by_cases hsl : s < D.1.length
          · obtain ⟨c0, c1, _, _⟩ := blk2 (blkBel Hci.out.1 K0.out)
            obtain ⟨bn, on, br, or_, cr, e1, hrW, _, hcW⟩ := H.out.row HD.out hsl
            subst e1
            have hr1 := kpB (S := fun _ => True) Hci.out.1 _ _ trivial hrW
            have HcW := Lib.hid hcW; clear hcW hrW
            go_wp2_with fail
            go_loopw [39] (fun i wr => ∃ t : Nat, t ≤ 3 ∧ i = .int .i64 t ∧ Hid (CI D W W2 B2 G g' k wr) ∧ Hid (RowI wr G ((part D.1.length s (fun s => ((cnt D k s : Nat) : Int)) 0).set s ((cns D k' s t : Nat) : Int)))) (fun i _ => 3 - (intOf i).toNat)
            case atStart => exact ⟨0, by omega, rfl, Hci, by rw [part_id k' hsl]; exact hq⟩
            case round =>
              clear Hci hq c0 c1 hr1
              obtain ⟨t, ht, rfl, Hci, hq⟩ := hrel
              by_cases htl : t < 3
              · have hs2 := kpB (S := fun _ => True) Hci.out.1 _ _ trivial (HcW.out t htl)
                have hs3 := dn_lt HD.out hsl htl
                have hci := Hci.out.2.2.2
                have ho1 := hci.1.cell (i := k) (by rw [cslots_len]; exact hlt)
                rw [cslots_get hlt (by omega), hgG.out] at ho1
                have ho2 := hci.1.cell (i := k') (by rw [cslots_len]; omega)
                rw [cslots_get (by omega) (by omega)] at ho2
                have hrk := hci.2 k' hkk
                have hcg := hrk.2.2.cell (i := dn D s t) (by rw [cntL_len]; exact hs3)
                rw [cntL_get D k' hs3] at hcg
                have hcq := hq.out.cell (i := s) (by rw [List.length_set, part_len]; exact hsl)
                rw [List.getElem_set_self] at hcq
                have hfz := hq.out.fz s
                have hb1 := cnt_bd D (show k' ≤ 30 by omega) (dn D s t)
                have hb2 := cns_bd D (show k' ≤ 30 by omega) s t (by omega)
                have hns : Hid (cns D k' s (t + 1) = cns D k' s t + cnt D k' (dn D s t)) := rfl
                obtain ⟨x, hx⟩ : ∃ x, x = cns D k' s t := ⟨_, rfl⟩
                obtain ⟨y, hy⟩ : ∃ y, y = cnt D k' (dn D s t) := ⟨_, rfl⟩
                obtain ⟨z, hz⟩ : ∃ z, z = dn D s t := ⟨_, rfl⟩
                obtain ⟨gk, hgk⟩ : ∃ gk, gk = g' k' := ⟨_, rfl⟩
                rw [← hx] at hb2 hns hcq
                rw [← hy] at hb1 hns hcg
                rw [← hz] at hcg hs2 hs3
                rw [← hgk] at ho2 hcg
                clear hx hy hz hgk hrk hci
                have htI : (t : Int) < 3 := by omega
                have hsI : (s : Int) < (D.1.length : Int) := by omega
                have hzI : (z : Int) < (D.1.length : Int) := by omega
                have hkI : (k : Int) < 31 := by omega
                have hkI' : (k' : Int) < 31 := by omega
                have hwx : IntKind.i64.wrap ((x : Int) + (y : Int)) = (x : Int) + (y : Int) := IntWalk.i64_in _ (by omega)
                have hkm := Hkm.out
                go_wp2_with fail
                go_still_tail 15, (by kernel_rfl)
                change wpList _ _ _ _ _ wr.drew
                clear hkm hwx
                have hq2 : RowI wr.drew G _ := hq.out
                have hc2 : Hid (CI D W W2 B2 G g' k wr.drew) := Hci.out.drew
                have hcq2 : wr.drew.cell? ⟨G, s, none⟩ = some (.int .i64 (x : Int)) := hcq
                have hfz2 : wr.drew.frozen? ⟨G, s, none⟩ = false := hfz
                clear hq Hci hcq hfz hcg hs2 ho1 ho2
                generalize wr.drew = w9 at *
                have hq3 := hq2.set s ((x : Int) + (y : Int))
                rw [List.set_set] at hq3
                have Hq3 := Lib.hid hq3; clear hq3 hq2
                have Hci2 := Lib.hid (hc2.out.set hWB hB3 hGW s (.int .i64 ((x : Int) + (y : Int))))
                clear hc2
                go_wp2
                go_roundw
                case rel => exact ⟨t + 1, by omega, by go_num, Hci2, by rw [hns.out, Int.natCast_add]; exact Hq3⟩
                case measure => simp [intOf]; omega
              · obtain rfl : t = 3 := by omega
                have hq2 := Lib.hid hq.out
                rw [cns_three, Hk'.out, part_set (fun s => ((cnt D k s : Nat) : Int)) 0 hsl] at hq2
                clear hq
                go_wp2
                go_roundw
                case rel => exact ⟨s + 1, by omega, by go_num, Hci, hq2⟩
                case measure => simp [intOf]; omega
          · obtain rfl : s = D.1.length := by omega
            have hq2 : Hid (RowI wr G (cntL D k)) := by have := hq.out; rw [part_all] at this; exact this
            have hci := Hci.out
            have HD1 := Lib.hid hci.1
            have HD2 := hci.2.1
            have HD3 := Lib.hid hci.2.2.1
            have HD4 := Lib.hid hci.2.2.2.1
            have HD5 := Lib.hid hci.2.2.2.2
            clear hci Hci hq
            go_wp2
            go_roundw
            case rel => exact ⟨k + 1, g', by omega, by go_num, HD1.out, HD2, HD3, HD4, fun i hi => by
              by_cases e : i = k
              · subst e
                rw [hgG.out]; exact ⟨hGW, hq2.out⟩
              · exact ⟨(HD5.out i (by omega)).1, (HD5.out i (by omega)).2.2⟩⟩
            case measure => simp [intOf]; omega
    · obtain rfl : k = 31 := by omega
      have hbf := Hb0.out.trans (hb.mono Hb0.out.size)
      have hcells := cslots_len D.1.length g 31
      have hg3 : wr.heap[B2 + 1]? = some (.cells (cslots D.1.length g 31).toArray 64 (0, 0)) := by have := hR3.out; unfold RowV Row at this; simpa using this
      have hinf : (Try.prog.info? 64).map (·.size) = some 31 := by kernel_rfl
      have hone : (cslots D.1.length g 31).toArray.all (·.oneCell') = true := by
        refine all_oneCell_toArray fun v hv => ?_
        unfold cslots part at hv
        obtain ⟨i, _, rfl⟩ := List.mem_map.1 hv
        split <;> rfl
      have hthere : wr.there B2 0 31 := fun j hj => by
        rw [Nat.zero_add]
        exact ⟨by rw [hR2.out.cell (by simpa using hj)]; rfl, hR2.out.fz j⟩
      clear c0 c1 k0
      go_wp2_with (first | (refine wpList_load_row rfl 64 (.tmp 3) rfl (B2 + 1) rfl 64 _ _ _ hg3 Try.underlying64 rfl (by rw [hinf]; simp [hcells]) ?_) | (refine wpList_store_mid rfl 64 (.tmp 2) (.tmp 61) rfl B2 0 _ rfl rfl (by simpa [hcells] using hthere) (by rw [hinf]; simp [hcells]) hone ?_))
      refine bodyPost_ret (v := .agg (cslots D.1.length g 31).toArray) (results_cell_mid Try.results78 _ _ B2 _ _ rfl (World.rangeAt_setCells_same _ _ _ _ (by rw [hcells]; exact hthere)) Try.underlying64 rfl (by rw [hinf, hcells])) rfl ?_
      refine RVn.mk (setCells_below (by omega) _ _ _ hbf) ⟨g, rfl, fun i hi => ?_⟩
      obtain ⟨q1, q2⟩ := hG.out i hi
      refine ⟨by omega, ?_⟩
      show _ = _
      rw [setCells_heap B2 _ 0 wr (g i) (by omega)]
      exact q2
end Go.Proofs.Ytebcnamfpajneaa
namespace Go.Proofs.Ytebcnamfpajneaa
open Go.RowKit
set_option maxRecDepth 100000
variable {S : Nat → Prop}

/-- The number of the letter at a place. -/
def ltr (s : ByteArray) (k : Nat) : Nat := if h : k < s.size then s[k].toNat - 97 else 0
theorem ltr_lt {s : ByteArray} (hs : letS s) {k : Nat} (h : k < s.size) : ltr s k < 3 ∧ (s[k].toNat : Int) - 97 = (ltr s k : Int) := by
  have := hs k h
  unfold letB at this
  unfold ltr
  rw [dif_pos h]
  omega
/-- The state behind j letters from a place on. -/
def stt (D : DfaD) (s : ByteArray) (f : Nat) : Nat → Nat
  | 0 => 0
  | j + 1 => dn D (stt D s f j) (ltr s (f + j))
theorem stt_lt {D : DfaD} (hD : okD D) {s : ByteArray} (hs : letS s) (f : Nat) : ∀ j, f + j ≤ s.size → stt D s f j < D.1.length
  | 0, _ => hD.1.1
  | j + 1, h => dn_lt hD (stt_lt hD hs f j (by omega)) (ltr_lt hs (by omega)).1
/-- The end of the longest part behind at most j letters. -/
def bst (D : DfaD) (s : ByteArray) (f : Nat) : Nat → Int
  | 0 => if de D 0 then (f : Int) else -1
  | j + 1 => if de D (stt D s f (j + 1)) then ((f + (j + 1) : Nat) : Int) else bst D s f j
theorem bst_bd (D : DfaD) (s : ByteArray) (f : Nat) : ∀ j, bst D s f j = -1 ∨ ((f : Int) ≤ bst D s f j ∧ bst D s f j ≤ f + j)
  | 0 => by unfold bst; split <;> omega
  | j + 1 => by
    have := bst_bd D s f j
    unfold bst; split <;> omega
/-- The end of the longest part that begins at a place. -/
def lon (D : DfaD) (s : ByteArray) (f : Nat) : Int := bst D s f (s.size - f)
theorem lon_bd (D : DfaD) (s : ByteArray) {f : Nat} (h : f ≤ s.size) : lon D s f = -1 ∨ ((f : Int) ≤ lon D s f ∧ lon D s f ≤ s.size) := by
  have := bst_bd D s f (s.size - f)
  unfold lon; omega
/-- The same, before place f + j is looked at. -/
def bsp (D : DfaD) (s : ByteArray) (f : Nat) : Nat → Int
  | 0 => -1
  | j + 1 => bst D s f j
theorem bsp_bd (D : DfaD) (s : ByteArray) (f : Nat) (j : Nat) : bsp D s f j = -1 ∨ ((f : Int) ≤ bsp D s f j ∧ bsp D s f j ≤ f + j) := by
  cases j with
  | zero => exact .inl rfl
  | succ j => have := bst_bd D s f j
              show bst D s f j = -1 ∨ ((f : Int) ≤ bst D s f j ∧ bst D s f j ≤ f + (j + 1 : Nat))
              omega
theorem bst_of (D : DfaD) (s : ByteArray) (f j : Nat) : bst D s f j = if de D (stt D s f j) then ((f + j : Nat) : Int) else bsp D s f j := by
  cases j with
  | zero => simp [bst, stt, bsp]; rfl
  | succ j => simp [bst, bsp]
theorem letter_x (s : ByteArray) (k : Nat) (w : World) (hs : s.size ≤ maxLen) (hk : k < s.size) (hl : letS s) :
    Calls Try.prog 98 #[.string s, .int .i64 k] w (fun e w' => e = .returned (.int .i64 (ltr s k)) ∧ w' = w) :=
  (letter_c s k w hs hk (hl k hk)).mono fun e w' ⟨n, he, hw, hn⟩ => ⟨by rw [he, hn.out.1, (ltr_lt hl hk).2], hw.symm⟩

/-- The first match from a place on, in so many steps. -/
def fndT (D : DfaD) (s : ByteArray) : Nat → Nat → Option (Int × Int)
  | 0, _ => none
  | n + 1, f => if 0 ≤ lon D s f then some ((f : Int), lon D s f) else fndT D s n (f + 1)
/-- The first match from a place on. -/
def find (D : DfaD) (s : ByteArray) (f : Nat) : Option (Int × Int) := fndT D s (s.size + 1 - f) f
theorem find_end (D : DfaD) (s : ByteArray) : find D s (s.size + 1) = none := by unfold find; rw [Nat.sub_self]; rfl
theorem find_step (D : DfaD) (s : ByteArray) {f : Nat} (h : f ≤ s.size) : find D s f = if 0 ≤ lon D s f then some ((f : Int), lon D s f) else find D s (f + 1) := by
  unfold find
  have : s.size + 1 - f = (s.size + 1 - (f + 1)) + 1 := by omega
  rw [this]; rfl
/-- The call answers a pair of numbers, or none; new memory at most. -/
def R2o (w : World) (o : Option (Int × Int)) (e : Ending) (w' : World) : Prop := e = .returned (.tuple #[.agg #[.int .i64 (o.getD (0, 0)).1, .int .i64 (o.getD (0, 0)).2], .bool o.isSome]) ∧ Below w.heap.size w w'
open Classical in
/-- The first match from a place on, if all is valid. -/
noncomputable def ffs (D : DfaD) (s : ByteArray) (f : Int) : Option (Int × Int) := if okD D ∧ (letS s ∧ s.size ≤ 30) ∧ 0 ≤ f ∧ f ≤ s.size then find D s f.toNat else none
theorem ffs_yes {D : DfaD} {s : ByteArray} {f : Int} (h1 : okD D) (h2 : letS s ∧ s.size ≤ 30) (h3 : 0 ≤ f ∧ f ≤ s.size) : ffs D s f = find D s f.toNat := by unfold ffs; rw [if_pos ⟨h1, h2, h3⟩]
theorem ffs_no1 {D : DfaD} {s : ByteArray} {f : Int} (h : ¬ okD D) : ffs D s f = none := by unfold ffs; rw [if_neg fun hh => h hh.1]
theorem ffs_no2 {D : DfaD} {s : ByteArray} {f : Int} (h : ¬ (letS s ∧ s.size ≤ 30)) : ffs D s f = none := by unfold ffs; rw [if_neg fun hh => h hh.2.1]
theorem ffs_no3 {D : DfaD} {s : ByteArray} {f : Int} (h : ¬ (0 ≤ f ∧ f ≤ s.size)) : ffs D s f = none := by unfold ffs; rw [if_neg fun hh => h hh.2.2]
end Go.Proofs.Ytebcnamfpajneaa
namespace Go.Proofs.Ytebcnamfpajneaa
open Go.RowKit
set_option maxRecDepth 100000
variable {S : Nat → Prop}

theorem index31 (n : Nat) (g : Nat → Nat) (l : Nat) (hl : l < 31) (w : World) : (Instr.index 64 (.agg (cslots n g 31).toArray) (.int .i64 l)).run Try.prog w = .ok (.slice (some ⟨g l, 0, none⟩) n n) w := by
  have hlen := cslots_len n g 31
  have hc : (cslots n g 31).toArray[l]? = some (.slice (some ⟨g l, 0, none⟩) n n) := by
    rw [List.getElem?_toArray, List.getElem?_eq_getElem (by omega), cslots_get hl hl]
  rw [List.getElem?_toArray] at hc
  simp [Instr.index, run_underlying Try.underlying64, asIntOf, go_sem, Go.part]
  rw [if_pos hl, hc]
  rfl
/-- The call answers v; new memory at most. -/
def RX (w : World) (v : Value) (e : Ending) (w' : World) : Prop := e = .returned v ∧ Below w.heap.size w w'
open Classical in
/-- The answer of CountWords. -/
noncomputable def cwv (D : DfaD) (l : Int) : Int := if okD D ∧ 0 ≤ l ∧ l ≤ 30 then ((cnt D l.toNat 0 : Nat) : Int) else -1
theorem cwv_yes {D : DfaD} {l : Int} (h1 : okD D) (h2 : 0 ≤ l ∧ l ≤ 30) : cwv D l = ((cnt D l.toNat 0 : Nat) : Int) := by unfold cwv; rw [if_pos ⟨h1, h2⟩]
theorem cwv_no1 {D : DfaD} {l : Int} (h : ¬ okD D) : cwv D l = -1 := by unfold cwv; rw [if_neg fun hh => h hh.1]
theorem cwv_no2 {D : DfaD} {l : Int} (h : ¬ (0 ≤ l ∧ l ≤ 30)) : cwv D l = -1 := by unfold cwv; rw [if_neg fun hh => h hh.2]
set_option maxHeartbeats 1000000 in
theorem CountWords_c (vn ve : Value) (D : DfaD) (l : Int) (w : World) (h : DfaR S w vn ve D) :
    Calls Try.prog 42 #[.agg #[vn, ve], .int .i64 l] w (RX w (.int .i64 (cwv D l))) := by
  obtain ⟨a, c, b, d, rfl, rfl, hn, hm⟩ := (h).shapes
  obtain ⟨W, hW⟩ : ∃ W, W = w.alloc (.cells #[.slice a D.1.length c, .slice b D.2.length d] 26) := ⟨_, rfl⟩
  have Hb0 : Hid (Below w.heap.size w W) := by rw [hW]; exact (Below.refl _ _).alloc (Nat.le_refl _) _
  have c0 : W.cell? ⟨w.heap.size, 0, none⟩ = some (.slice a D.1.length c) := by rw [hW, World.cell?_alloc_mark]; rfl
  have c1 : W.cell? ⟨w.heap.size, 1, none⟩ = some (.slice b D.2.length d) := by rw [hW, World.cell?_alloc_mark]; rfl
  have K0 : Hid (W.heap[w.heap.size]? = some (.cells #[.slice a D.1.length c, .slice b D.2.length d] 26 (0, 0))) := by rw [hW]; exact blkNew _ _ rfl
  have Hz : Hid (W.heap.size = w.heap.size + 1) := by rw [hW]; simp [Hid]
  have H := Lib.hid ((h).stay (kpB Hb0.out)); clear h
  have HW := Lib.hid hW; clear hW
  have hbs := Hb0.out.size
  go_enter Try.func42, Try.ntmps42
  go_wp2_with fail
  rw [← HW.out]
  refine (DfaValid_c _ _ D W H.out).mono ?_
  rintro e w1 ⟨b1, rfl, hb1, hv1⟩
  have hB := Hb0.out.trans (hb1.mono hbs)
  obtain ⟨d0, d1, _, _⟩ := blk2 (blkBel hb1 K0.out)
  cases b1
  · have hp := Lib.hid (hbF hv1); clear hv1
    go_wp2
    go_ret
    exact ⟨by rw [cwv_no1 hp.out]; rfl, hB⟩
  have hp1 := Lib.hid (hbT hv1); clear hv1
  go_wp2_with fail
  refine (within_c _ _ _ _).mono ?_
  rintro e w2 ⟨b2, rfl, rfl, hv2⟩
  cases b2
  · have hp := Lib.hid (hbF hv2); clear hv2
    go_wp2
    go_ret
    exact ⟨by rw [cwv_no2 hp.out]; rfl, hB⟩
  have hp2 := hbT hv2
  have Hv := Lib.hid (cwv_yes hp1.out hp2)
  obtain ⟨k, rfl⟩ : ∃ k : Nat, l = (k : Int) := ⟨l.toNat, by omega⟩
  have hk : k ≤ 30 := by omega
  rw [Int.toNat_natCast] at Hv
  clear hp2 hv2
  have h0 : 0 < D.1.length := hp1.out.1.1
  have hn40 : D.1.length ≤ 40 := hp1.out.1.2
  go_wp2_with fail
  refine (counts_c _ _ D _ (H.out.stay (kpB hb1)) hp1.out).mono ?_
  rintro e w3 ⟨v, rfl, hb3, hv⟩
  obtain ⟨g, rfl, hg⟩ := hv.out
  have hB3 := hB.trans (hb3.mono hB.size)
  have hix := fun W : World => index31 D.1.length g k (by omega) W
  have hc := (hg k (by omega)).2.cell (i := 0) (by rw [cntL_len]; exact h0)
  rw [cntL_get D k h0] at hc
  clear hg hv hb3 hb1 hB d0 d1
  generalize g k = G at *
  go_wp2
  go_ret
  exact ⟨by rw [Hv.out]; rfl, hB3⟩
/-- How many words are shorter. -/
def rkA (D : DfaD) : Nat → Nat
  | 0 => 0
  | k + 1 => rkA D k + cnt D k 0
theorem rkA_bd (D : DfaD) : ∀ k, k ≤ 30 → rkA D k ≤ 205891132094649 * k
  | 0, _ => by simp [rkA]
  | k + 1, h => by
    have := rkA_bd D k (by omega)
    have := cnt_bd D (show k ≤ 30 by omega) 0
    show rkA D k + cnt D k 0 ≤ _
    omega
/-- The rank behind i letters. -/
def rkB (D : DfaD) (s : ByteArray) : Nat → Nat
  | 0 => rkA D s.size
  | i + 1 => rkB D s i + cns D (s.size - 1 - i) (stt D s 0 i) (ltr s i)
theorem rkB_bd (D : DfaD) {s : ByteArray} (hl : letS s) (h8 : s.size ≤ 8) : ∀ i, i ≤ s.size → rkB D s i ≤ 205891132094649 * (8 + 3 * i)
  | 0, _ => by
    have := rkA_bd D s.size (by omega)
    show rkA D s.size ≤ _
    omega
  | i + 1, h => by
    have := rkB_bd D hl h8 i (by omega)
    have h3 := (ltr_lt hl (show i < s.size by omega)).1
    have := cns_bd D (show s.size - 1 - i ≤ 30 by omega) (stt D s 0 i) (ltr s i) (by omega)
    show rkB D s i + cns D (s.size - 1 - i) (stt D s 0 i) (ltr s i) ≤ _
    omega
open Classical in
/-- The answer of RankWord. -/
noncomputable def rkv (D : DfaD) (s : ByteArray) : Int := if okD D ∧ (letS s ∧ s.size ≤ 8) then ((rkB D s s.size : Nat) : Int) else -1
theorem rkv_yes {D : DfaD} {s : ByteArray} (h1 : okD D) (h2 : letS s ∧ s.size ≤ 8) : rkv D s = ((rkB D s s.size : Nat) : Int) := by unfold rkv; rw [if_pos ⟨h1, h2⟩]
theorem rkv_no1 {D : DfaD} {s : ByteArray} (h : ¬ okD D) : rkv D s = -1 := by unfold rkv; rw [if_neg fun hh => h hh.1]
theorem rkv_no2 {D : DfaD} {s : ByteArray} (h : ¬ (letS s ∧ s.size ≤ 8)) : rkv D s = -1 := by unfold rkv; rw [if_neg fun hh => h hh.2]
/-- The world behind a variable that holds the counts. -/
def slotsW (w : World) (n : Nat) (g : Nat → Nat) : World := (w.alloc (.cells #[Value.slice none 0 0, Value.slice none 0 0, Value.slice none 0 0, Value.slice none 0 0, Value.slice none 0 0, Value.slice none 0 0, Value.slice none 0 0, Value.slice none 0 0, Value.slice none 0 0, Value.slice none 0 0, Value.slice none 0 0, Value.slice none 0 0, Value.slice none 0 0, Value.slice none 0 0, Value.slice none 0 0, Value.slice none 0 0, Value.slice none 0 0, Value.slice none 0 0, Value.slice none 0 0, Value.slice none 0 0, Value.slice none 0 0, Value.slice none 0 0, Value.slice none 0 0, Value.slice none 0 0, Value.slice none 0 0, Value.slice none 0 0, Value.slice none 0 0, Value.slice none 0 0, Value.slice none 0 0, Value.slice none 0 0, Value.slice none 0 0] 64)).setCells w.heap.size 0 (cslots n g 31)
theorem slots_lit : (#[Value.slice none 0 0, Value.slice none 0 0, Value.slice none 0 0, Value.slice none 0 0, Value.slice none 0 0, Value.slice none 0 0, Value.slice none 0 0, Value.slice none 0 0, Value.slice none 0 0, Value.slice none 0 0, Value.slice none 0 0, Value.slice none 0 0, Value.slice none 0 0, Value.slice none 0 0, Value.slice none 0 0, Value.slice none 0 0, Value.slice none 0 0, Value.slice none 0 0, Value.slice none 0 0, Value.slice none 0 0, Value.slice none 0 0, Value.slice none 0 0, Value.slice none 0 0, Value.slice none 0 0, Value.slice none 0 0, Value.slice none 0 0, Value.slice none 0 0, Value.slice none 0 0, Value.slice none 0 0, Value.slice none 0 0, Value.slice none 0 0] : Array Value) = (List.replicate 31 (Value.slice none 0 0)).toArray := rfl
theorem slots_row (w : World) : RowV (w.alloc (.cells #[Value.slice none 0 0, Value.slice none 0 0, Value.slice none 0 0, Value.slice none 0 0, Value.slice none 0 0, Value.slice none 0 0, Value.slice none 0 0, Value.slice none 0 0, Value.slice none 0 0, Value.slice none 0 0, Value.slice none 0 0, Value.slice none 0 0, Value.slice none 0 0, Value.slice none 0 0, Value.slice none 0 0, Value.slice none 0 0, Value.slice none 0 0, Value.slice none 0 0, Value.slice none 0 0, Value.slice none 0 0, Value.slice none 0 0, Value.slice none 0 0, Value.slice none 0 0, Value.slice none 0 0, Value.slice none 0 0, Value.slice none 0 0, Value.slice none 0 0, Value.slice none 0 0, Value.slice none 0 0, Value.slice none 0 0, Value.slice none 0 0] 64)) w.heap.size (List.replicate 31 (Value.slice none 0 0)) := by
  unfold RowV Row
  simp only [List.map_id']
  rw [slots_lit]
  exact blkNew _ _ rfl
theorem slots_there (w : World) (n : Nat) (g : Nat → Nat) : (w.alloc (.cells #[Value.slice none 0 0, Value.slice none 0 0, Value.slice none 0 0, Value.slice none 0 0, Value.slice none 0 0, Value.slice none 0 0, Value.slice none 0 0, Value.slice none 0 0, Value.slice none 0 0, Value.slice none 0 0, Value.slice none 0 0, Value.slice none 0 0, Value.slice none 0 0, Value.slice none 0 0, Value.slice none 0 0, Value.slice none 0 0, Value.slice none 0 0, Value.slice none 0 0, Value.slice none 0 0, Value.slice none 0 0, Value.slice none 0 0, Value.slice none 0 0, Value.slice none 0 0, Value.slice none 0 0, Value.slice none 0 0, Value.slice none 0 0, Value.slice none 0 0, Value.slice none 0 0, Value.slice none 0 0, Value.slice none 0 0, Value.slice none 0 0] 64)).there w.heap.size 0 (cslots n g 31).toArray.size := fun j hj => by
  have hj' : j < 31 := by simpa [cslots_len] using hj
  rw [Nat.zero_add]
  exact ⟨by rw [(slots_row w).cell (by simpa using hj')]; rfl, (slots_row w).fz j⟩
theorem slots_one (n : Nat) (g : Nat → Nat) : (cslots n g 31).toArray.all (·.oneCell') = true := by
  refine all_oneCell_toArray fun v hv => ?_
  unfold cslots part at hv
  obtain ⟨i, _, rfl⟩ := List.mem_map.1 hv
  split <;> rfl
theorem slots_info (n : Nat) (g : Nat → Nat) : (Try.prog.info? 64).map (·.size) = some (cslots n g 31).toArray.size := by
  have : (Try.prog.info? 64).map (·.size) = some 31 := by kernel_rfl
  rw [this]; simp [cslots_len]
theorem slots_below (w : World) (n : Nat) (g : Nat → Nat) : Below w.heap.size w (slotsW w n g) := setCells_below (Nat.le_refl _) _ _ _ ((Below.refl _ _).alloc (Nat.le_refl _) _)
theorem slots_cell (w : World) (n : Nat) (g : Nat → Nat) {i : Nat} (hi : i < 31) : (slotsW w n g).cell? ⟨w.heap.size, i, none⟩ = some (.slice (some ⟨g i, 0, none⟩) n n) := by
  have h := World.rangeAt_setCells_same (w.alloc (.cells #[Value.slice none 0 0, Value.slice none 0 0, Value.slice none 0 0, Value.slice none 0 0, Value.slice none 0 0, Value.slice none 0 0, Value.slice none 0 0, Value.slice none 0 0, Value.slice none 0 0, Value.slice none 0 0, Value.slice none 0 0, Value.slice none 0 0, Value.slice none 0 0, Value.slice none 0 0, Value.slice none 0 0, Value.slice none 0 0, Value.slice none 0 0, Value.slice none 0 0, Value.slice none 0 0, Value.slice none 0 0, Value.slice none 0 0, Value.slice none 0 0, Value.slice none 0 0, Value.slice none 0 0, Value.slice none 0 0, Value.slice none 0 0, Value.slice none 0 0, Value.slice none 0 0, Value.slice none 0 0, Value.slice none 0 0, Value.slice none 0 0] 64)) w.heap.size 0 (cslots n g 31) (by have := slots_there w n g; rwa [List.size_toArray] at this)
  have := h i (.slice (some ⟨g i, 0, none⟩) n n) (by rw [List.getElem?_eq_getElem (by rw [cslots_len]; exact hi), cslots_get hi hi])
  rw [Nat.zero_add] at this
  exact this
theorem slots_size (w : World) (n : Nat) (g : Nat → Nat) : w.heap.size < (slotsW w n g).heap.size := by
  have := slots_cell w n g (i := 0) (by omega)
  exact World.block_lt_of_cell? _ _ this
end Go.Proofs.Ytebcnamfpajneaa

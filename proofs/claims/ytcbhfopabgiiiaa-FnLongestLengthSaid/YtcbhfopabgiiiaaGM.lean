/- How many words of a length lead from a state to an end: the reference's list of counts. Valid automata, at most 30 letters.
The program's counts: for each number of letters the list of counts. Valid automata.
Matches in texts: the longest part, the first match, all matches; the program's and the reference's answers. Valid automata, valid texts.
Counting words: CountWords, RankWord, WordNumber; the program's and the reference's answers. No condition. -/
import Derived.StillTailTactics
import Derived.Deep.MidRow
import Derived.Test.YtcbhfopabgiiiaaGB
set_option linter.unusedSimpArgs false
set_option linter.unusedVariables false
set_option linter.unusedSectionVars false
namespace Go.Proofs.Ytcbhfopabgiiiaa
open Go.RowKit
set_option maxRecDepth 100000
variable {S : Nat → Prop}

/-- How many words of so many letters lead from a state to an end. -/
def cnt (D : DfaD) : Nat → Nat → Nat
  | 0, s => if de D s then 1 else 0
  | l + 1, s => cnt D l (dn D s 0) + cnt D l (dn D s 1) + cnt D l (dn D s 2)
theorem cnt_le (D : DfaD) : ∀ l s, cnt D l s ≤ 3 ^ l
  | 0, s => by unfold cnt; split <;> decide
  | l + 1, s => by
    have h0 := cnt_le D l (dn D s 0)
    have h1 := cnt_le D l (dn D s 1)
    have h2 := cnt_le D l (dn D s 2)
    show cnt D l (dn D s 0) + cnt D l (dn D s 1) + cnt D l (dn D s 2) ≤ 3 ^ (l + 1)
    rw [Nat.pow_succ]; omega
theorem p3_30 {l : Nat} (h : l ≤ 30) : 3 ^ l ≤ 205891132094649 := by
  have : 3 ^ l ≤ 3 ^ 30 := Nat.pow_le_pow_right (by omega) h
  have e : 3 ^ 30 = 205891132094649 := by decide
  omega
theorem cnt_bd (D : DfaD) {l : Nat} (h : l ≤ 30) (s : Nat) : cnt D l s ≤ 205891132094649 := Nat.le_trans (cnt_le D l s) (p3_30 h)
/-- The sum over the first c letters. -/
def cns (D : DfaD) (l s : Nat) : Nat → Nat
  | 0 => 0
  | c + 1 => cns D l s c + cnt D l (dn D s c)
theorem cns_three (D : DfaD) (l s : Nat) : cns D l s 3 = cnt D (l + 1) s := by simp [cns, cnt]
theorem cns_bd (D : DfaD) {l : Nat} (h : l ≤ 30) (s : Nat) : ∀ c, c ≤ 3 → cns D l s c ≤ 205891132094649 * c
  | 0, _ => by simp [cns]
  | c + 1, hc => by
    have := cns_bd D h s c (by omega)
    have := cnt_bd D h (dn D s c)
    show cns D l s c + cnt D l (dn D s c) ≤ _
    omega
/-- The list of counts. -/
def cntL (D : DfaD) (l : Nat) : List Int := (List.range D.1.length).map fun s => ((cnt D l s : Nat) : Int)
theorem cntL_len (D : DfaD) (l : Nat) : (cntL D l).length = D.1.length := by simp [cntL]
theorem cntL_get (D : DfaD) (l : Nat) {s : Nat} (h : s < D.1.length) : (cntL D l)[s]'(by rw [cntL_len]; exact h) = (cnt D l s : Int) := by simp [cntL]
set_option maxHeartbeats 2000000 in
theorem l17Counts_c (vn ve : Value) (D : DfaD) (l : Nat) (w : World) (h : DfaR S w vn ve D) (hD : okD D) (hl : l ≤ 30) :
    Calls Try.prog 84 #[.agg #[vn, ve], .int .i64 l] w (RVn w fun v w' => ∃ g, v = .slice (some ⟨g, 0, none⟩) D.1.length D.1.length ∧ w.heap.size < g ∧ RowI w' g (cntL D l)) := by
  obtain ⟨a, c, b, d, rfl, rfl, hn, hm⟩ := (h).shapes
  obtain ⟨W, hW⟩ : ∃ W, W = w.alloc (.cells #[.slice a D.1.length c, .slice b D.2.length d] 26) := ⟨_, rfl⟩
  have Hb0 : Hid (Below w.heap.size w W) := by rw [hW]; exact (Below.refl _ _).alloc (Nat.le_refl _) _
  have c0 : W.cell? ⟨w.heap.size, 0, none⟩ = some (.slice a D.1.length c) := by rw [hW, World.cell?_alloc_mark]; rfl
  have c1 : W.cell? ⟨w.heap.size, 1, none⟩ = some (.slice b D.2.length d) := by rw [hW, World.cell?_alloc_mark]; rfl
  have K0 : Hid (W.heap[w.heap.size]? = some (.cells #[.slice a D.1.length c, .slice b D.2.length d] 26 (0, 0))) := by rw [hW]; exact blkNew _ _ rfl
  have Hz : Hid (W.heap.size = w.heap.size + 1) := by rw [hW]; simp [Hid]
  have H := Lib.hid ((h).stay (kpB Hb0.out)); clear h
  have HW := Lib.hid hW; clear hW
  have HD := Lib.hid hD
  have Hdl := Lib.hid hD.2.1
  have hn40 : D.1.length ≤ 40 := hD.1.2
  clear hD
  rw [HW.out] at c0 c1
  go_enter Try.func84, Try.ntmps84
  go_wp2_with (at_make; refine makeRow ezInt (by decide) rfl (.tmp 13) (.tmp 13) rfl D.1.length _ rfl rfl (by omega) ?_; rw [← HW.out]; intro w1 hr1 hb1 hz1)
  clear c0 c1
  obtain ⟨B1, hB1⟩ : ∃ B1, B1 = W.heap.size := ⟨_, rfl⟩
  rw [← hB1] at hr1
  rw [← hB1]
  have hWB : W.heap.size ≤ B1 := by rw [hB1]; exact Nat.le_refl _
  clear hB1 hz1
  go_loopw [6] (fun i wr => ∃ k : Nat, k ≤ D.1.length ∧ i = .int .i64 k ∧ Below W.heap.size W wr ∧ Hid (RowI wr B1 (part D.1.length k (fun s => ((cnt D 0 s : Nat) : Int)) 0))) (fun i _ => D.1.length - (intOf i).toNat)
  case atStart => exact ⟨0, by omega, rfl, hb1, by rw [part_zero]; exact hr1⟩
  case round =>
    obtain ⟨k, hk, rfl, hb, hr⟩ := hrel
    have k0 := blkBel hb K0.out
    obtain ⟨c0, c1, _, _⟩ := blk2 k0
    by_cases hlt : k < D.1.length
    · obtain ⟨be, oe, rfl, he⟩ := (H.out.stay (kpB hb)).mark HD.out hlt
      have hlt2 : k < D.2.length := by rw [Hdl.out]; exact hlt
      have hc := hr.out.cell (i := k) (by rw [part_len]; exact hlt)
      rw [part_get hlt, if_neg (Nat.lt_irrefl k)] at hc
      have hfz := hr.out.fz k
      have hF : ((cnt D 0 k : Nat) : Int) = if de D k then 1 else 0 := by unfold cnt; split <;> rfl
      cases hde : de D k
      · rw [hde] at he hF
        simp only [if_false, Bool.false_eq_true] at hF
        have hr2 := Lib.hid hr.out
        rw [← part_keep (fun s => ((cnt D 0 s : Nat) : Int)) 0 hF] at hr2
        clear hF hde hr
        go_wp2
        go_roundw
        case rel => exact ⟨k + 1, by omega, by go_num, hb, hr2⟩
        case measure => simp [intOf]; omega
      · rw [hde] at he hF
        simp only [if_true] at hF
        have hr2 := Lib.hid (hr.out.set k 1)
        have e1 := part_set (fun s => ((cnt D 0 s : Nat) : Int)) 0 hlt
        simp only [hF] at e1
        rw [e1] at hr2
        have hB2 : Below W.heap.size W (wr.setCell ⟨B1, k, none⟩ (.int .i64 1)) := hb.setCell hWB _
        clear hF hde hr hb e1
        go_wp2
        go_roundw
        case rel => exact ⟨k + 1, by omega, by go_num, hB2, hr2⟩
        case measure => simp [intOf]; omega
    · obtain rfl : k = D.1.length := by omega
      have hr2 : Hid (RowI wr B1 (cntL D 0)) := by have := hr.out; rw [part_all] at this; exact this
      clear hr c0 c1 k0
      go_wp2
      go_loopw [5, 7] (fun v i wr => ∃ (j g : Nat), j ≤ l ∧ i = .int .i64 j ∧ v = .slice (some ⟨g, 0, none⟩) D.1.length D.1.length ∧ W.heap.size ≤ g ∧ Below W.heap.size W wr ∧ Hid (RowI wr g (cntL D j))) (fun _ i _ => l - (intOf i).toNat)
      case atStart => exact ⟨0, B1, by omega, rfl, rfl, hWB, hb, hr2⟩
      case round =>
        clear hb hr2
        obtain ⟨j, g, hj, rfl, rfl, hg, hb, hr⟩ := hrel
        by_cases hjl : j < l
        · have hgl := hr.out.lt
          go_wp2_with (at_make; refine makeRow ezInt (by decide) rfl (.tmp 35) (.tmp 35) rfl D.1.length _ rfl rfl (by omega) ?_; intro w3 hr3 hb3 hz3)
          have hb4 := hb.trans (hb3.mono hb.size)
          have hr4 := Lib.hid (hr.out.stay hb3)
          obtain ⟨g2, hg2⟩ : ∃ g2, g2 = wr.heap.size := ⟨_, rfl⟩
          rw [← hg2] at hr3 hgl
          rw [← hg2]
          have hgg : g ≠ g2 := by omega
          have hWg2 : W.heap.size ≤ g2 := by rw [hg2]; exact hb.size
          clear hg2 hz3 hb3 hb hr
          go_loopw [9] (fun i wr => ∃ k : Nat, k ≤ D.1.length ∧ i = .int .i64 k ∧ Below W.heap.size W wr ∧ Hid (RowI wr g (cntL D j)) ∧ Hid (RowI wr g2 (part D.1.length k (fun s => ((cnt D (j + 1) s : Nat) : Int)) 0))) (fun i _ => D.1.length - (intOf i).toNat)
          case atStart => exact ⟨0, by omega, rfl, hb4, hr4, by rw [part_zero]; exact hr3⟩
          case round =>
            clear hr3 hr4 hb4
            obtain ⟨k, hk, rfl, hb, hr, hq⟩ := hrel
            by_cases hkl : k < D.1.length
            · go_wp2_with fail
              go_loopw [10] (fun i wr => ∃ c : Nat, c ≤ 3 ∧ i = .int .i64 c ∧ Below W.heap.size W wr ∧ Hid (RowI wr g (cntL D j)) ∧ Hid (RowI wr g2 ((part D.1.length k (fun s => ((cnt D (j + 1) s : Nat) : Int)) 0).set k ((cns D j k c : Nat) : Int)))) (fun i _ => 3 - (intOf i).toNat)
              case atStart => exact ⟨0, by omega, rfl, hb, hr, by
                have e : (part D.1.length k (fun s => ((cnt D (j + 1) s : Nat) : Int)) 0).set k ((cns D j k 0 : Nat) : Int) = part D.1.length k (fun s => ((cnt D (j + 1) s : Nat) : Int)) 0 := by
                  apply List.ext_getElem
                  · simp
                  · intro i h1 h2
                    rw [List.getElem_set]
                    split
                    · rename_i e; subst e; rw [part_get hkl, if_neg (Nat.lt_irrefl _)]; rfl
                    · rfl
                rw [e]; exact hq⟩
              case round =>
                clear hb hr hq
                obtain ⟨t, ht, rfl, hb, hr, hq⟩ := hrel
                by_cases htl : t < 3
                · have k0 := blkBel hb K0.out
                  obtain ⟨c0, c1, _, _⟩ := blk2 k0
                  obtain ⟨bn, on, br, or_, cr, e1, hs1, hs2, hs3⟩ := (H.out.stay (kpB hb)).step HD.out hkl htl
                  cases e1
                  have hcg := hr.out.cell (i := dn D k t) (by rw [cntL_len]; exact hs3)
                  rw [cntL_get D j hs3] at hcg
                  have hcq := hq.out.cell (i := k) (by rw [List.length_set, part_len]; exact hkl)
                  rw [List.getElem_set_self] at hcq
                  have hfz := hq.out.fz k
                  have hb1 := cnt_bd D (show j ≤ 30 by omega) (dn D k t)
                  have hb2 := cns_bd D (show j ≤ 30 by omega) k t (by omega)
                  have hns : Hid (cns D j k (t + 1) = cns D j k t + cnt D j (dn D k t)) := rfl
                  obtain ⟨x, hx⟩ : ∃ x, x = cns D j k t := ⟨_, rfl⟩
                  obtain ⟨y, hy⟩ : ∃ y, y = cnt D j (dn D k t) := ⟨_, rfl⟩
                  obtain ⟨z, hz⟩ : ∃ z, z = dn D k t := ⟨_, rfl⟩
                  rw [← hx] at hb2 hns hcq
                  rw [← hy] at hb1 hns hcg
                  rw [← hz] at hcg hs2 hs3
                  clear hx hy hz
                  have htI : (t : Int) < 3 := by omega
                  have hkI : (k : Int) < (D.1.length : Int) := by omega
                  have hzI : (z : Int) < (D.1.length : Int) := by omega
                  have hwx : IntKind.i64.wrap ((x : Int) + (y : Int)) = (x : Int) + (y : Int) := IntWalk.i64_in _ (by omega)
                  go_wp2_with fail
                  go_still_tail 19, (by kernel_rfl)
                  change wpList _ _ _ _ _ wr.drew
                  have hq2 : RowI wr.drew g2 _ := hq.out
                  have hr2 : Hid (RowI wr.drew g (cntL D j)) := hr.out
                  have hb2' : Below W.heap.size W wr.drew := hb.drew
                  have hcq2 : wr.drew.cell? ⟨g2, k, none⟩ = some (.int .i64 (x : Int)) := hcq
                  have hfz2 : wr.drew.frozen? ⟨g2, k, none⟩ = false := hfz
                  clear hq hr hb hcq hfz hcg hs1 hs2 c0 c1 k0
                  generalize wr.drew = w2 at *
                  have hq3 := hq2.set k ((x : Int) + (y : Int))
                  rw [List.set_set] at hq3
                  have Hq3 := Lib.hid hq3; clear hq3 hq2
                  have Hr3 := Lib.hid (hr2.out.far (c := g2) (o := k) hgg (.int .i64 ((x : Int) + (y : Int))))
                  have hB3 : Below W.heap.size W (w2.setCell ⟨g2, k, none⟩ (.int .i64 ((x : Int) + (y : Int)))) := hb2'.setCell hWg2 _
                  clear hr2 hb2'
                  go_wp2
                  go_roundw
                  case rel => exact ⟨t + 1, by omega, by go_num, hB3, Hr3, by rw [hns.out, Int.natCast_add]; exact Hq3⟩
                  case measure => simp [intOf]; omega
                · obtain rfl : t = 3 := by omega
                  have hq2 := Lib.hid hq.out
                  rw [cns_three, part_set (fun s => ((cnt D (j + 1) s : Nat) : Int)) 0 hkl] at hq2
                  clear hq
                  go_wp2
                  go_roundw
                  case rel => exact ⟨k + 1, by omega, by go_num, hb, hr, hq2⟩
                  case measure => simp [intOf]; omega
            · obtain rfl : k = D.1.length := by omega
              have hq2 : Hid (RowI wr g2 (cntL D (j + 1))) := by have := hq.out; rw [part_all] at this; exact this
              clear hq
              go_wp2
              go_roundw
              case rel => exact ⟨j + 1, g2, by omega, by go_num, rfl, hWg2, hb, hq2⟩
              case measure => simp [intOf]; omega
        · obtain rfl : j = l := by omega
          have hB := Hb0.out.trans (hb.mono Hb0.out.size)
          have hgw : w.heap.size < g := by have := Hz.out; omega
          clear hb
          go_wp2
          go_ret
          exact RVn.mk hB ⟨g, rfl, hgw, hr.out⟩
end Go.Proofs.Ytcbhfopabgiiiaa
namespace Go.Proofs.Ytcbhfopabgiiiaa
open Go.RowKit
set_option maxRecDepth 100000
variable {S : Nat → Prop}

theorem setCells_heap (b : Nat) : ∀ (vs : List Value) (o : Nat) (w : World) (c : Nat), c ≠ b → (w.setCells b o vs).heap[c]? = w.heap[c]?
  | [], _, _, _, _ => rfl
  | v :: r, o, w, c, h => by
    show ((w.setCell ⟨b, o, none⟩ v).setCells b (o + 1) r).heap[c]? = _
    rw [setCells_heap b r (o + 1) _ c h, Below.heap_setCell _ _ _ _ h]
theorem setCells_below {B b : Nat} {w0 : World} (hB : B ≤ b) : ∀ (vs : List Value) (o : Nat) (w : World), Below B w0 w → Below B w0 (w.setCells b o vs)
  | [], _, _, h => h
  | v :: r, o, w, h => setCells_below hB r (o + 1) _ (h.setCell hB v)
theorem results_cell_mid {P : Program} {fn : Func} {p : Tmp} {ty : TypeId} (h : fn.results = #[.cell p ty]) (tmps : Array Value) (w : World) (b : Nat) (cs : List Value) (d : TypeDesc)
    (hp : tmps.getD p undef = .pointer (some ⟨b, 0, none⟩)) (hc : w.rangeAt b 0 cs) (hu : P.underlying ty = some d) (hd : d.isRow = true) (hi : (P.info? ty).map (·.size) = some cs.length) :
    (results fn tmps).run P w = .ok (.agg cs.toArray) w := by
  have hp' : tmps[p]?.getD undef = .pointer (some ⟨b, 0, none⟩) := by simpa using hp
  simp [results, h, hp', asAddr, run_loadVar_mid w b 0 ty cs d hc hu hd hi]
/-- A row of 31 slices, of which the first k are the lists of counts at blocks g. -/
def cslots (n : Nat) (g : Nat → Nat) (k : Nat) : List Value := part 31 k (fun i => .slice (some ⟨g i, 0, none⟩) n n) (.slice none 0 0)
abbrev RowV (w : World) (b : Nat) (xs : List Value) : Prop := Row (fun v => v) 90 w b xs
theorem cslots_len (n : Nat) (g : Nat → Nat) (k : Nat) : (cslots n g k).length = 31 := by simp [cslots, part]
theorem cslots_get {n : Nat} {g : Nat → Nat} {k i : Nat} (h : i < 31) (hk : i < k) : (cslots n g k)[i]'(by rw [cslots_len]; exact h) = .slice (some ⟨g i, 0, none⟩) n n := by
  unfold cslots; rw [part_get h, if_pos hk]
theorem cslots_set {n : Nat} {g : Nat → Nat} {k G : Nat} (h : k < 31) : (cslots n g k).set k (.slice (some ⟨G, 0, none⟩) n n) = cslots n (fun i => if i = k then G else g i) (k + 1) := by
  unfold cslots
  have e := part_set (n := 31) (k := k) (fun i => Value.slice (some ⟨if i = k then G else g i, 0, none⟩) n n) (.slice none 0 0) h
  simp only [if_true] at e
  rw [← e]
  congr 1
  unfold part
  apply List.map_congr_left
  intro i _
  by_cases h1 : i < k
  · rw [if_pos h1, if_pos h1]
    show _ = Value.slice (some ⟨if i = k then G else g i, 0, none⟩) n n
    rw [if_neg (by omega)]
  · rw [if_neg h1, if_neg h1]
theorem part_id {D : DfaD} (j : Nat) {k : Nat} (hkl : k < D.1.length) (l : Nat) : (part D.1.length k (fun s => ((cnt D l s : Nat) : Int)) 0).set k ((cns D j k 0 : Nat) : Int) = part D.1.length k (fun s => ((cnt D l s : Nat) : Int)) 0 := by
  apply List.ext_getElem
  · simp
  · intro i h1 h2
    rw [List.getElem_set]
    split
    · rename_i e; subst e; rw [part_get hkl, if_neg (Nat.lt_irrefl _)]; rfl
    · rfl
/-- What stays while row G is written. -/
def CI (D : DfaD) (W W2 : World) (B2 G : Nat) (g : Nat → Nat) (k : Nat) (wr : World) : Prop :=
  Below W.heap.size W wr ∧ W2.heap.size ≤ wr.heap.size ∧ RowV wr B2 (List.replicate 31 (Value.slice none 0 0)) ∧ RowV wr (B2 + 1) (cslots D.1.length g (k + 1)) ∧ ∀ i, i < k → W2.heap.size ≤ g i ∧ g i ≠ G ∧ RowI wr (g i) (cntL D i)
theorem CI.drew {D : DfaD} {W W2 : World} {B2 G : Nat} {g : Nat → Nat} {k : Nat} {wr : World} (h : CI D W W2 B2 G g k wr) : CI D W W2 B2 G g k wr.drew := ⟨h.1.drew, h.2.1, h.2.2.1, h.2.2.2.1, h.2.2.2.2⟩
theorem CI.set {D : DfaD} {W W2 : World} {B2 G : Nat} {g : Nat → Nat} {k : Nat} {wr : World} (h : CI D W W2 B2 G g k wr) (h1 : W.heap.size ≤ B2) (h2 : B2 + 1 < W2.heap.size) (h3 : W2.heap.size ≤ G) (o : Nat) (u : Value) : CI D W W2 B2 G g k (wr.setCell ⟨G, o, none⟩ u) :=
  ⟨h.1.setCell (by show W.heap.size ≤ G; omega) _, by simp [World.setCell]; exact h.2.1, h.2.2.1.far (by omega) _, h.2.2.2.1.far (by omega) _, fun i hi => ⟨(h.2.2.2.2 i hi).1, (h.2.2.2.2 i hi).2.1, (h.2.2.2.2 i hi).2.2.far (h.2.2.2.2 i hi).2.1 _⟩⟩
set_option maxHeartbeats 4000000 in
theorem counts_c (vn ve : Value) (D : DfaD) (w : World) (h : DfaR S w vn ve D) (hD : okD D) :
    Calls Try.prog 80 #[.agg #[vn, ve]] w (RVn w fun v w' => ∃ g : Nat → Nat, v = .agg (cslots D.1.length g 31).toArray ∧ ∀ i, i < 31 → w.heap.size < g i ∧ RowI w' (g i) (cntL D i)) := by
  obtain ⟨a, c, b, d, rfl, rfl, hn, hm⟩ := (h).shapes
  obtain ⟨W, hW⟩ : ∃ W, W = w.alloc (.cells #[.slice a D.1.length c, .slice b D.2.length d] 26) := ⟨_, rfl⟩
  have Hb0 : Hid (Below w.heap.size w W) := by rw [hW]; exact (Below.refl _ _).alloc (Nat.le_refl _) _
  have c0 : W.cell? ⟨w.heap.size, 0, none⟩ = some (.slice a D.1.length c) := by rw [hW, World.cell?_alloc_mark]; rfl
  have c1 : W.cell? ⟨w.heap.size, 1, none⟩ = some (.slice b D.2.length d) := by rw [hW, World.cell?_alloc_mark]; rfl
  have K0 : Hid (W.heap[w.heap.size]? = some (.cells #[.slice a D.1.length c, .slice b D.2.length d] 26 (0, 0))) := by rw [hW]; exact blkNew _ _ rfl
  have Hz : Hid (W.heap.size = w.heap.size + 1) := by rw [hW]; simp [Hid]
  have H := Lib.hid ((h).stay (kpB Hb0.out)); clear h
  have HW := Lib.hid hW; clear hW
  have HD := Lib.hid hD
  have Hdl := Lib.hid hD.2.1
  have hn40 : D.1.length ≤ 40 := hD.1.2
  clear hD c0 c1
  obtain ⟨W2, hW2⟩ : ∃ W2, W2 = (W.alloc (.cells (List.replicate 31 (Value.slice none 0 0)).toArray 90)).alloc (.cells (List.replicate 31 (Value.slice none 0 0)).toArray 90) := ⟨_, rfl⟩
  have hb2 : Below W.heap.size W W2 := by rw [hW2]; exact ((Below.refl _ _).alloc (Nat.le_refl _) _).alloc (by simp) _
  obtain ⟨B2, hB2⟩ : ∃ B2, B2 = w.heap.size + 1 := ⟨_, rfl⟩
  have hR2 : Hid (RowV W2 B2 (List.replicate 31 (Value.slice none 0 0))) := by
    unfold RowV Row Hid
    rw [hW2, hB2, ← Hz.out]
    simp only [List.map_id']
    exact blkOld (blkNew W _ rfl)
  have hR3 : Hid (RowV W2 (B2 + 1) (List.replicate 31 (Value.slice none 0 0))) := by
    unfold RowV Row Hid
    rw [hW2, hB2, ← Hz.out]
    simp only [List.map_id']
    exact blkNew _ _ (by simp)
  have HW2 := Lib.hid hW2; clear hW2
  have hWB : W.heap.size ≤ B2 := by rw [Hz.out, hB2]; exact Nat.le_refl _
  have hwB : w.heap.size < B2 := by rw [hB2]; omega
  have hs2 := hR3.out.lt
  have hs3 := hb2.size
  go_enter Try.func80, Try.ntmps80
  go_wp2
  rw [← HW.out]
  change Code.wp _ _ _ _ ((W.alloc (.cells (List.replicate 31 (Value.slice none 0 0)).toArray 90)).alloc (.cells (List.replicate 31 (Value.slice none 0 0)).toArray 90))
  rw [← HW2.out, ← hB2]
  have HB2 := Lib.hid hB2; clear hB2
  go_loopw [9] (fun i wr => ∃ (k : Nat) (g : Nat → Nat), k ≤ 31 ∧ i = .int .i64 k ∧ Below W.heap.size W wr ∧ W2.heap.size ≤ wr.heap.size ∧ Hid (RowV wr B2 (List.replicate 31 (Value.slice none 0 0))) ∧ Hid (RowV wr (B2 + 1) (cslots D.1.length g k)) ∧ Hid (∀ i, i < k → (W2.heap.size ≤ g i ∧ RowI wr (g i) (cntL D i)))) (fun i _ => 31 - (intOf i).toNat)
  case atStart => exact ⟨0, fun _ => 0, by omega, rfl, hb2, Nat.le_refl _, hR2, by unfold cslots; rw [part_zero]; exact hR3, fun i hi => absurd hi (Nat.not_lt_zero _)⟩
  case round =>
    clear hR2 hR3 hb2
    obtain ⟨k, g, hk, rfl, hb, hws, hR2, hR3, hG⟩ := hrel
    have k0 := blkBel hb K0.out
    obtain ⟨c0, c1, _, _⟩ := blk2 k0
    by_cases hlt : k < 31
    · have hlc : k < (cslots D.1.length g k).length := by rw [cslots_len]; exact hlt
      have hgk := hG.out
      have hwr := Lib.hid (Nat.le_trans (show W.heap.size ≤ W2.heap.size by omega) hws)
      go_wp2_with (at_make; refine makeRow ezInt (by decide) rfl (.tmp 15) (.tmp 15) rfl D.1.length _ rfl rfl (by omega) ?_; intro w3 hr3 hb3 hz3; have hq3 := (hR3.out.stay hb3).cell hlc; have hf3 := (hR3.out.stay hb3).fz k; obtain ⟨c0', c1', _, _⟩ := blk2 (blkBel hb3 k0))
      have hB3 : B2 + 1 < W2.heap.size := hs2
      obtain ⟨G, hGd⟩ : ∃ G, G = wr.heap.size := ⟨_, rfl⟩
      rw [← hGd] at hr3 ⊢
      have hGW : W2.heap.size ≤ G := by rw [hGd]; exact hws
      obtain ⟨W4, hW4⟩ : ∃ W4, W4 = w3.setCell ⟨B2 + 1, k, none⟩ (.slice (some ⟨G, 0, none⟩) D.1.length D.1.length) := ⟨_, rfl⟩
      rw [← hW4]
      have hci : CI D W W2 B2 G (fun i => if i = k then G else g i) k W4 := by
        have hbb := hb.trans (hb3.mono hb.size)
        refine ⟨?_, ?_, ?_, ?_, ?_⟩
        · rw [hW4]; exact hbb.setCell (by show W.heap.size ≤ B2 + 1; omega) _
        · rw [hW4]; have := hb3.size; simp [World.setCell]; omega
        · rw [hW4]; exact (hR2.out.stay hb3).far (by omega) _
        · rw [hW4, ← cslots_set hlt]; exact (hR3.out.stay hb3).set k _
        · intro i hi
          obtain ⟨q1, q2⟩ := hgk i hi
          simp only [if_neg (show i ≠ k by omega)]
          have := q2.lt
          exact ⟨q1, by omega, by rw [hW4]; exact (q2.stay hb3).far (by omega) _⟩
      have hg4 : Hid (RowI W4 G (part D.1.length 0 (fun s => ((cnt D k s : Nat) : Int)) 0)) := by
        rw [part_zero, hW4]; exact hr3.out.far (by omega) _
      have Hci := Lib.hid hci
      have hgG : Hid ((fun i => if i = k then G else g i) k = G) := if_pos rfl
      obtain ⟨g', hg'⟩ : ∃ g' : Nat → Nat, g' = fun i => if i = k then G else g i := ⟨_, rfl⟩
      rw [← hg'] at Hci hgG
      clear hg' hci hW4 hGd hr3 hb3 hz3 hq3 hf3 c0' c1' hb hws hR2 hR3 hG hgk c0 c1 k0 hwr hlc
      rcases Nat.eq_zero_or_pos k with rfl | hpos
      · go_loopw [21] (fun i wr => ∃ s : Nat, s ≤ D.1.length ∧ i = .int .i64 s ∧ Hid (CI D W W2 B2 G g' 0 wr) ∧ Hid (RowI wr G (part D.1.length s (fun s => ((cnt D 0 s : Nat) : Int)) 0))) (fun i _ => D.1.length - (intOf i).toNat)
        case atStart => exact ⟨0, by omega, rfl, Hci, hg4⟩
        case round =>
          clear Hci hg4
          obtain ⟨s, hs, rfl, Hci, hq⟩ := hrel
          have k0 := blkBel Hci.out.1 K0.out
          obtain ⟨c0, c1, _, _⟩ := blk2 k0
          by_cases hsl : s < D.1.length
          · obtain ⟨be, oe, rfl, he⟩ := (H.out.stay (kpB Hci.out.1)).mark HD.out hsl
            obtain ⟨bn, on, br, or_, cr, rfl, hr1, _⟩ := (H.out.stay (kpB Hci.out.1)).row HD.out hsl
            have hlt2 : s < D.2.length := by rw [Hdl.out]; exact hsl
            have hc := hq.out.cell (i := s) (by rw [part_len]; exact hsl)
            rw [part_get hsl, if_neg (Nat.lt_irrefl s)] at hc
            have hfz := hq.out.fz s
            have ho := Hci.out.2.2.2.1.cell (i := 0) (by rw [cslots_len]; omega)
            rw [cslots_get (by omega) (by omega), hgG.out] at ho
            have hF : ((cnt D 0 s : Nat) : Int) = if de D s then 1 else 0 := by unfold cnt; split <;> rfl
            cases hde : de D s
            · rw [hde] at he hF
              simp only [if_false, Bool.false_eq_true] at hF
              have hq2 := Lib.hid hq.out
              rw [← part_keep (fun s => ((cnt D 0 s : Nat) : Int)) 0 hF] at hq2
              clear hF hde hq
              go_wp2
              go_roundw
              case rel => exact ⟨s + 1, by omega, by go_num, Hci, hq2⟩
              case measure => simp [intOf]; omega
            · rw [hde] at he hF
              simp only [if_true] at hF
              have hq2 := Lib.hid (hq.out.set s 1)
              have e1 := part_set (fun s => ((cnt D 0 s : Nat) : Int)) 0 hsl
              simp only [hF] at e1
              rw [e1] at hq2
              have Hci2 := Lib.hid (Hci.out.set hWB hB3 hGW s (.int .i64 1))
              clear hF hde hq e1 Hci
              go_wp2
              go_roundw
              case rel => exact ⟨s + 1, by omega, by go_num, Hci2, hq2⟩
              case measure => simp [intOf]; omega
          · obtain rfl : s = D.1.length := by omega
            have hq2 : Hid (RowI wr G (cntL D 0)) := by have := hq.out; rw [part_all] at this; exact this
            have hci := Hci.out
            have HD1 := Lib.hid hci.1
            have HD2 := hci.2.1
            have HD3 := Lib.hid hci.2.2.1
            have HD4 := Lib.hid hci.2.2.2.1
            clear hci Hci hq
            go_wp2
            go_roundw
            case rel => exact ⟨1, g', by omega, rfl, HD1.out, HD2, HD3, HD4, fun i hi => by
              obtain rfl : i = 0 := by omega
              rw [hgG.out]; exact ⟨hGW, hq2.out⟩⟩
            case measure => simp [intOf]
      · obtain ⟨k', hk'⟩ : ∃ k', k' + 1 = k := ⟨k - 1, by omega⟩
        have hk30 : k' ≤ 29 := by omega
        have hkk : k' < k := by omega
        have Hk' := Lib.hid hk'
        have hkz : ((k : Int) == 0) = false := by simp; omega
        have hkm : IntKind.i64.wrap ((k : Int) - 1) = (k' : Int) := by rw [IntWalk.i64_in _ (by omega)]; omega
        have Hkm := Lib.hid hkm
        clear hk' hkm
        go_loopw [21] (fun i wr => ∃ s : Nat, s ≤ D.1.length ∧ i = .int .i64 s ∧ Hid (CI D W W2 B2 G g' k wr) ∧ Hid (RowI wr G (part D.1.length s (fun s => ((cnt D k s : Nat) : Int)) 0))) (fun i _ => D.1.length - (intOf i).toNat)
        case atStart => exact ⟨0, by omega, rfl, Hci, hg4⟩
        case round =>
          clear Hci hg4
          obtain ⟨s, hs, rfl, Hci, hq⟩ := hrel
          by_cases hsl : s < D.1.length
          · obtain ⟨c0, c1, _, _⟩ := blk2 (blkBel Hci.out.1 K0.out)
            obtain ⟨bn, on, br, or_, cr, e1, hrW, _, hcW⟩ := H.out.row HD.out hsl
            subst e1
            have hr1 := kpB (S := fun _ => True) Hci.out.1 _ _ trivial hrW
            have HcW := Lib.hid hcW; clear hcW hrW
            go_wp2_with fail
            go_loopw [39] (fun i wr => ∃ t : Nat, t ≤ 3 ∧ i = .int .i64 t ∧ Hid (CI D W W2 B2 G g' k wr) ∧ Hid (RowI wr G ((part D.1.length s (fun s => ((cnt D k s : Nat) : Int)) 0).set s ((cns D k' s t : Nat) : Int)))) (fun i _ => 3 - (intOf i).toNat)
            case atStart => exact ⟨0, by omega, rfl, Hci, by rw [part_id k' hsl]; exact hq⟩
            case round =>
              clear Hci hq c0 c1 hr1
              obtain ⟨t, ht, rfl, Hci, hq⟩ := hrel
              by_cases htl : t < 3
              · have hs2 := kpB (S := fun _ => True) Hci.out.1 _ _ trivial (HcW.out t htl)
                have hs3 := dn_lt HD.out hsl htl
                have hci := Hci.out.2.2.2
                have ho1 := hci.1.cell (i := k) (by rw [cslots_len]; exact hlt)
                rw [cslots_get hlt (by omega), hgG.out] at ho1
                have ho2 := hci.1.cell (i := k') (by rw [cslots_len]; omega)
                rw [cslots_get (by omega) (by omega)] at ho2
                have hrk := hci.2 k' hkk
                have hcg := hrk.2.2.cell (i := dn D s t) (by rw [cntL_len]; exact hs3)
                rw [cntL_get D k' hs3] at hcg
                have hcq := hq.out.cell (i := s) (by rw [List.length_set, part_len]; exact hsl)
                rw [List.getElem_set_self] at hcq
                have hfz := hq.out.fz s
                have hb1 := cnt_bd D (show k' ≤ 30 by omega) (dn D s t)
                have hb2 := cns_bd D (show k' ≤ 30 by omega) s t (by omega)
                have hns : Hid (cns D k' s (t + 1) = cns D k' s t + cnt D k' (dn D s t)) := rfl
                obtain ⟨x, hx⟩ : ∃ x, x = cns D k' s t := ⟨_, rfl⟩
                obtain ⟨y, hy⟩ : ∃ y, y = cnt D k' (dn D s t) := ⟨_, rfl⟩
                obtain ⟨z, hz⟩ : ∃ z, z = dn D s t := ⟨_, rfl⟩
                obtain ⟨gk, hgk⟩ : ∃ gk, gk = g' k' := ⟨_, rfl⟩
                rw [← hx] at hb2 hns hcq
                rw [← hy] at hb1 hns hcg
                rw [← hz] at hcg hs2 hs3
                rw [← hgk] at ho2 hcg
                clear hx hy hz hgk hrk hci
                have htI : (t : Int) < 3 := by omega
                have hsI : (s : Int) < (D.1.length : Int) := by omega
                have hzI : (z : Int) < (D.1.length : Int) := by omega
                have hkI : (k : Int) < 31 := by omega
                have hkI' : (k' : Int) < 31 := by omega
                have hwx : IntKind.i64.wrap ((x : Int) + (y : Int)) = (x : Int) + (y : Int) := IntWalk.i64_in _ (by omega)
                have hkm := Hkm.out
                go_wp2_with fail
                go_still_tail 15, (by kernel_rfl)
                change wpList _ _ _ _ _ wr.drew
                clear hkm hwx
                have hq2 : RowI wr.drew G _ := hq.out
                have hc2 : Hid (CI D W W2 B2 G g' k wr.drew) := Hci.out.drew
                have hcq2 : wr.drew.cell? ⟨G, s, none⟩ = some (.int .i64 (x : Int)) := hcq
                have hfz2 : wr.drew.frozen? ⟨G, s, none⟩ = false := hfz
                clear hq Hci hcq hfz hcg hs2 ho1 ho2
                generalize wr.drew = w9 at *
                have hq3 := hq2.set s ((x : Int) + (y : Int))
                rw [List.set_set] at hq3
                have Hq3 := Lib.hid hq3; clear hq3 hq2
                have Hci2 := Lib.hid (hc2.out.set hWB hB3 hGW s (.int .i64 ((x : Int) + (y : Int))))
                clear hc2
                go_wp2
                go_roundw
                case rel => exact ⟨t + 1, by omega, by go_num, Hci2, by rw [hns.out, Int.natCast_add]; exact Hq3⟩
                case measure => simp [intOf]; omega
              · obtain rfl : t = 3 := by omega
                have hq2 := Lib.hid hq.out
                rw [cns_three, Hk'.out, part_set (fun s => ((cnt D k s : Nat) : Int)) 0 hsl] at hq2
                clear hq
                go_wp2
                go_roundw
                case rel => exact ⟨s + 1, by omega, by go_num, Hci, hq2⟩
                case measure => simp [intOf]; omega
          · obtain rfl : s = D.1.length := by omega
            have hq2 : Hid (RowI wr G (cntL D k)) := by have := hq.out; rw [part_all] at this; exact this
            have hci := Hci.out
            have HD1 := Lib.hid hci.1
            have HD2 := hci.2.1
            have HD3 := Lib.hid hci.2.2.1
            have HD4 := Lib.hid hci.2.2.2.1
            have HD5 := Lib.hid hci.2.2.2.2
            clear hci Hci hq
            go_wp2
            go_roundw
            case rel => exact ⟨k + 1, g', by omega, by go_num, HD1.out, HD2, HD3, HD4, fun i hi => by
              by_cases e : i = k
              · subst e
                rw [hgG.out]; exact ⟨hGW, hq2.out⟩
              · exact ⟨(HD5.out i (by omega)).1, (HD5.out i (by omega)).2.2⟩⟩
            case measure => simp [intOf]; omega
    · obtain rfl : k = 31 := by omega
      have hbf := Hb0.out.trans (hb.mono Hb0.out.size)
      have hcells := cslots_len D.1.length g 31
      have hg3 : wr.heap[B2 + 1]? = some (.cells (cslots D.1.length g 31).toArray 90 (0, 0)) := by have := hR3.out; unfold RowV Row at this; simpa using this
      have hinf : (Try.prog.info? 90).map (·.size) = some 31 := by kernel_rfl
      have hone : (cslots D.1.length g 31).toArray.all (·.oneCell') = true := by
        refine all_oneCell_toArray fun v hv => ?_
        unfold cslots part at hv
        obtain ⟨i, _, rfl⟩ := List.mem_map.1 hv
        split <;> rfl
      have hthere : wr.there B2 0 31 := fun j hj => by
        rw [Nat.zero_add]
        exact ⟨by rw [hR2.out.cell (by simpa using hj)]; rfl, hR2.out.fz j⟩
      clear c0 c1 k0
      go_wp2_with (first | (refine wpList_load_row rfl 90 (.tmp 3) rfl (B2 + 1) rfl 90 _ _ _ hg3 Try.underlying90 rfl (by rw [hinf]; simp [hcells]) ?_) | (refine wpList_store_mid rfl 90 (.tmp 2) (.tmp 61) rfl B2 0 _ rfl rfl (by simpa [hcells] using hthere) (by rw [hinf]; simp [hcells]) hone ?_))
      refine bodyPost_ret (v := .agg (cslots D.1.length g 31).toArray) (results_cell_mid Try.results80 _ _ B2 _ _ rfl (World.rangeAt_setCells_same _ _ _ _ (by rw [hcells]; exact hthere)) Try.underlying90 rfl (by rw [hinf, hcells])) rfl ?_
      refine RVn.mk (setCells_below (by omega) _ _ _ hbf) ⟨g, rfl, fun i hi => ?_⟩
      obtain ⟨q1, q2⟩ := hG.out i hi
      refine ⟨by omega, ?_⟩
      show _ = _
      rw [setCells_heap B2 _ 0 wr (g i) (by omega)]
      exact q2
end Go.Proofs.Ytcbhfopabgiiiaa
namespace Go.Proofs.Ytcbhfopabgiiiaa
open Go.RowKit
set_option maxRecDepth 100000
variable {S : Nat → Prop}

/-- The number of the letter at a place. -/
def ltr (s : ByteArray) (k : Nat) : Nat := if h : k < s.size then s[k].toNat - 97 else 0
theorem ltr_lt {s : ByteArray} (hs : letS s) {k : Nat} (h : k < s.size) : ltr s k < 3 ∧ (s[k].toNat : Int) - 97 = (ltr s k : Int) := by
  have := hs k h
  unfold letB at this
  unfold ltr
  rw [dif_pos h]
  omega
/-- The state behind j letters from a place on. -/
def stt (D : DfaD) (s : ByteArray) (f : Nat) : Nat → Nat
  | 0 => 0
  | j + 1 => dn D (stt D s f j) (ltr s (f + j))
theorem stt_lt {D : DfaD} (hD : okD D) {s : ByteArray} (hs : letS s) (f : Nat) : ∀ j, f + j ≤ s.size → stt D s f j < D.1.length
  | 0, _ => hD.1.1
  | j + 1, h => dn_lt hD (stt_lt hD hs f j (by omega)) (ltr_lt hs (by omega)).1
/-- The end of the longest part behind at most j letters. -/
def bst (D : DfaD) (s : ByteArray) (f : Nat) : Nat → Int
  | 0 => if de D 0 then (f : Int) else -1
  | j + 1 => if de D (stt D s f (j + 1)) then ((f + (j + 1) : Nat) : Int) else bst D s f j
theorem bst_bd (D : DfaD) (s : ByteArray) (f : Nat) : ∀ j, bst D s f j = -1 ∨ ((f : Int) ≤ bst D s f j ∧ bst D s f j ≤ f + j)
  | 0 => by unfold bst; split <;> omega
  | j + 1 => by
    have := bst_bd D s f j
    unfold bst; split <;> omega
/-- The end of the longest part that begins at a place. -/
def lon (D : DfaD) (s : ByteArray) (f : Nat) : Int := bst D s f (s.size - f)
theorem lon_bd (D : DfaD) (s : ByteArray) {f : Nat} (h : f ≤ s.size) : lon D s f = -1 ∨ ((f : Int) ≤ lon D s f ∧ lon D s f ≤ s.size) := by
  have := bst_bd D s f (s.size - f)
  unfold lon; omega
/-- The same, before place f + j is looked at. -/
def bsp (D : DfaD) (s : ByteArray) (f : Nat) : Nat → Int
  | 0 => -1
  | j + 1 => bst D s f j
theorem bsp_bd (D : DfaD) (s : ByteArray) (f : Nat) (j : Nat) : bsp D s f j = -1 ∨ ((f : Int) ≤ bsp D s f j ∧ bsp D s f j ≤ f + j) := by
  cases j with
  | zero => exact .inl rfl
  | succ j => have := bst_bd D s f j
              show bst D s f j = -1 ∨ ((f : Int) ≤ bst D s f j ∧ bst D s f j ≤ f + (j + 1 : Nat))
              omega
theorem bst_of (D : DfaD) (s : ByteArray) (f j : Nat) : bst D s f j = if de D (stt D s f j) then ((f + j : Nat) : Int) else bsp D s f j := by
  cases j with
  | zero => simp [bst, stt, bsp]; rfl
  | succ j => simp [bst, bsp]
theorem letter_x (s : ByteArray) (k : Nat) (w : World) (hs : s.size ≤ maxLen) (hk : k < s.size) (hl : letS s) :
    Calls Try.prog 83 #[.string s, .int .i64 k] w (fun e w' => e = .returned (.int .i64 (ltr s k)) ∧ w' = w) :=
  (letter_c s k w hs hk (hl k hk)).mono fun e w' ⟨n, he, hw, hn⟩ => ⟨by rw [he, hn.out.1, (ltr_lt hl hk).2], hw.symm⟩

set_option maxHeartbeats 400000 in
theorem longest_c (vn ve : Value) (D : DfaD) (s : ByteArray) (f : Nat) (w : World) (h : DfaR S w vn ve D) (hD : okD D) (hs : letS s ∧ s.size ≤ 30) (hf : f ≤ s.size) :
    Calls Try.prog 136 #[.agg #[vn, ve], .string s, .int .i64 f] w (RIn w fun n => n = lon D s f ∧ -1 ≤ n ∧ n ≤ s.size) := by
  obtain ⟨a, c, b, d, rfl, rfl, hn, hm⟩ := (h).shapes
  obtain ⟨W, hW⟩ : ∃ W, W = w.alloc (.cells #[.slice a D.1.length c, .slice b D.2.length d] 26) := ⟨_, rfl⟩
  have Hb0 : Hid (Below w.heap.size w W) := by rw [hW]; exact (Below.refl _ _).alloc (Nat.le_refl _) _
  have c0 : W.cell? ⟨w.heap.size, 0, none⟩ = some (.slice a D.1.length c) := by rw [hW, World.cell?_alloc_mark]; rfl
  have c1 : W.cell? ⟨w.heap.size, 1, none⟩ = some (.slice b D.2.length d) := by rw [hW, World.cell?_alloc_mark]; rfl
  have K0 : Hid (W.heap[w.heap.size]? = some (.cells #[.slice a D.1.length c, .slice b D.2.length d] 26 (0, 0))) := by rw [hW]; exact blkNew _ _ rfl
  have Hz : Hid (W.heap.size = w.heap.size + 1) := by rw [hW]; simp [Hid]
  have H := Lib.hid ((h).stay (kpB Hb0.out)); clear h
  have HW := Lib.hid hW; clear hW
  have hs2 := hs.2
  have Hl := Lib.hid hs.1
  have HD := Lib.hid hD
  have Hdl := Lib.hid hD.2.1
  clear hs hD
  go_enter Try.func136, Try.ntmps136
  go_wp2
  rw [← HW.out]
  go_loopw [7, 8, 9] (fun e st to wr => ∃ (j : Nat) (x y : Nat) (z : Int), f + j ≤ s.size ∧ to = .int .i64 y ∧ (f + j ≤ y ∧ y ≤ f + j) ∧ st = .int .i64 x ∧ e = .int .i64 z ∧ Hid (x = stt D s f j ∧ z = bsp D s f j) ∧ ∃ q, wr = W.drewN q) (fun _ _ to _ => s.size - (intOf to).toNat)
  case atStart => exact ⟨0, 0, f, -1, by omega, rfl, by omega, rfl, rfl, ⟨rfl, rfl⟩, 0, rfl⟩
  case round =>
    obtain ⟨j, x, y, z, hj, rfl, hy, rfl, rfl, Hxz, q, rfl⟩ := hrel
    have Hy : Hid (y = f + j) := Nat.le_antisymm hy.2 hy.1
    have hx : x < D.1.length := by rw [Hxz.out.1]; exact stt_lt HD.out Hl.out f j hj
    obtain ⟨be, oe, rfl, he⟩ := H.out.mark HD.out hx
    have hbo := bst_of D s f j
    rw [← Hxz.out.1, ← Hxz.out.2] at hbo
    have hzb := bst_bd D s f j
    have hzp := bsp_bd D s f j
    rw [← Hxz.out.2] at hzp
    cases hde : de D x
    all_goals
      rw [hde] at he hbo
      simp only [if_true, if_false, Bool.false_eq_true] at hbo
      have Hbo := Lib.hid hbo; clear hbo hde
      have hx2 : x < D.2.length := by rw [Hdl.out]; exact hx
      by_cases hlt : y < s.size
      · obtain ⟨hl3, _⟩ := ltr_lt Hl.out hlt
        obtain ⟨bn, on, br, or_, cr, rfl, hr1, hr2, hr3⟩ := H.out.step HD.out hx hl3
        have hlx : ((ltr s y : Nat) : Int) < 3 := by omega
        go_wp2_with fail
        go_quiet ((go_at_call 83; exact qAdd (letter_x _ _ _ (by unfold maxLen; omega) hlt Hl.out)))
        go_wp2
        go_roundw
        case rel => exact ⟨j + 1, _, y + 1, _, by omega, by go_num, by omega, rfl, rfl, ⟨by rw [Hxz.out.1, Hy.out]; rfl, by show _ = bst D s f j; rw [Hbo.out] <;> (have := Hy.out; omega)⟩, _, rfl⟩
        case measure => simp [intOf]; omega
      · obtain rfl : y = s.size := by omega
        have hfin : lon D s f = bst D s f j := by unfold lon; congr 1; omega
        go_wp2
        go_ret
        exact RIn.mk (belDrewN Hb0.out _) ⟨by rw [hfin, Hbo.out] <;> (have := Hy.out; omega), by omega, by omega⟩
set_option maxHeartbeats 800000 in
theorem l19Longest_c (vn ve : Value) (D : DfaD) (s : ByteArray) (f : Nat) (w : World) (h : DfaR S w vn ve D) (hD : okD D) (hs : letS s ∧ s.size ≤ 30) (hf : f ≤ s.size) :
    Calls Try.prog 135 #[.agg #[vn, ve], .string s, .int .i64 f] w (RIn w fun n => n = lon D s f ∧ -1 ≤ n ∧ n ≤ s.size) := by
  obtain ⟨a, c, b, d, rfl, rfl, hn, hm⟩ := (h).shapes
  obtain ⟨W, hW⟩ : ∃ W, W = w.alloc (.cells #[.slice a D.1.length c, .slice b D.2.length d] 26) := ⟨_, rfl⟩
  have Hb0 : Hid (Below w.heap.size w W) := by rw [hW]; exact (Below.refl _ _).alloc (Nat.le_refl _) _
  have c0 : W.cell? ⟨w.heap.size, 0, none⟩ = some (.slice a D.1.length c) := by rw [hW, World.cell?_alloc_mark]; rfl
  have c1 : W.cell? ⟨w.heap.size, 1, none⟩ = some (.slice b D.2.length d) := by rw [hW, World.cell?_alloc_mark]; rfl
  have K0 : Hid (W.heap[w.heap.size]? = some (.cells #[.slice a D.1.length c, .slice b D.2.length d] 26 (0, 0))) := by rw [hW]; exact blkNew _ _ rfl
  have Hz : Hid (W.heap.size = w.heap.size + 1) := by rw [hW]; simp [Hid]
  have H := Lib.hid ((h).stay (kpB Hb0.out)); clear h
  have HW := Lib.hid hW; clear hW
  have hs2 := hs.2
  have Hl := Lib.hid hs.1
  have HD := Lib.hid hD
  have h0D : 0 < D.1.length := hD.1.1
  have h0E : 0 < D.2.length := by rw [hD.2.1]; exact h0D
  have Hdl := Lib.hid hD.2.1
  clear hs hD
  obtain ⟨b0, o0, rfl, hc0⟩ := H.out.mark HD.out h0D
  have hb00 : bst D s f 0 = if de D 0 then (f : Int) else -1 := rfl
  rw [Nat.add_zero] at hc0
  cases hde0 : de D 0
  all_goals
    rw [hde0] at hc0 hb00
    simp only [if_true, if_false, Bool.false_eq_true] at hb00
    have Hb00 := Lib.hid hb00; clear hb00 hde0
    rw [HW.out] at hc0
    go_enter Try.func135, Try.ntmps135
    go_wp2
    rw [← HW.out]
    go_loopw [7, 8, 9] (fun e st to wr => ∃ (j : Nat) (x y : Nat) (z : Int), f + j ≤ s.size ∧ to = .int .i64 y ∧ (f + j ≤ y ∧ y ≤ f + j) ∧ st = .int .i64 x ∧ e = .int .i64 z ∧ Hid (x = stt D s f j ∧ z = bst D s f j) ∧ ∃ q, wr = W.drewN q) (fun _ _ to _ => s.size - (intOf to).toNat)
    case atStart => exact ⟨0, 0, f, _, by omega, rfl, by omega, rfl, rfl, ⟨rfl, Hb00.out.symm⟩, 0, rfl⟩
    case round =>
      obtain ⟨j, x, y, z, hj, rfl, hy, rfl, rfl, Hxz, q, rfl⟩ := hrel
      clear hc0
      have Hy : Hid (y = f + j) := Nat.le_antisymm hy.2 hy.1
      have hx : x < D.1.length := by rw [Hxz.out.1]; exact stt_lt HD.out Hl.out f j hj
      have hzb := bst_bd D s f j
      rw [← Hxz.out.2] at hzb
      by_cases hlt : y < s.size
      · obtain ⟨hl3, hl4⟩ := ltr_lt Hl.out hlt
        obtain ⟨bn, on, br, or_, cr, rfl, hr1, hr2, hr3⟩ := H.out.step HD.out hx hl3
        have hx' : dn D x (ltr s y) < D.2.length := by rw [Hdl.out]; exact hr3
        obtain ⟨bm, om, e, he⟩ := H.out.mark HD.out hr3
        cases e
        have hbo : bst D s f (j + 1) = if de D (dn D x (ltr s y)) then ((f + (j + 1) : Nat) : Int) else z := by rw [Hxz.out.2, Hxz.out.1, Hy.out]; rfl
        have hst : Hid (stt D s f (j + 1) = dn D x (ltr s y)) := by rw [Hxz.out.1, Hy.out]; rfl
        obtain ⟨nx, hnx⟩ : ∃ nx, nx = dn D x (ltr s y) := ⟨_, rfl⟩
        rw [← hnx] at hr2 hr3 hx' he hbo hst
        have Hnx := Lib.hid hnx; clear hnx
        obtain ⟨l, hl⟩ : ∃ l, l = ltr s y := ⟨_, rfl⟩
        rw [← hl] at hr2 hl3 hl4
        have Hl' := Lib.hid hl; clear hl
        have hlx : ((l : Nat) : Int) < 3 := by omega
        have hl0 : (0 : Int) ≤ (l : Int) := by omega
        have hw1 : IntKind.u8.wrap ((s[y].toNat : Int) - 97) = (l : Int) := by rw [hl4]; exact IntWalk.u8_in _ (by omega)
        have hw2 : IntKind.i64.wrap (l : Int) = (l : Int) := IntWalk.i64_in _ (by omega)
        clear hl4
        cases hde : de D nx
        all_goals
          rw [hde] at he hbo
          simp only [if_true, if_false, Bool.false_eq_true] at hbo
          have Hbo := Lib.hid hbo; clear hbo hde
          go_wp2_with fail
          go_quiet (fail)
          go_wp2
          go_roundw
          case rel => exact ⟨j + 1, nx, y + 1, _, by omega, by go_num, by omega, rfl, rfl, ⟨hst.out.symm, by rw [Hbo.out] <;> (have := Hy.out; omega)⟩, _, rfl⟩
          case measure => simp [intOf]; omega
      · obtain rfl : y = s.size := by omega
        have hfin : lon D s f = bst D s f j := by unfold lon; congr 1; omega
        go_wp2
        go_ret
        exact RIn.mk (belDrewN Hb0.out _) ⟨by rw [hfin, Hxz.out.2], by omega, by omega⟩
/-- The first match from a place on, in so many steps. -/
def fndT (D : DfaD) (s : ByteArray) : Nat → Nat → Option (Int × Int)
  | 0, _ => none
  | n + 1, f => if 0 ≤ lon D s f then some ((f : Int), lon D s f) else fndT D s n (f + 1)
/-- The first match from a place on. -/
def find (D : DfaD) (s : ByteArray) (f : Nat) : Option (Int × Int) := fndT D s (s.size + 1 - f) f
theorem find_end (D : DfaD) (s : ByteArray) : find D s (s.size + 1) = none := by unfold find; rw [Nat.sub_self]; rfl
theorem find_step (D : DfaD) (s : ByteArray) {f : Nat} (h : f ≤ s.size) : find D s f = if 0 ≤ lon D s f then some ((f : Int), lon D s f) else find D s (f + 1) := by
  unfold find
  have : s.size + 1 - f = (s.size + 1 - (f + 1)) + 1 := by omega
  rw [this]; rfl
/-- The call answers a pair of numbers, or none; new memory at most. -/
def R2o (w : World) (o : Option (Int × Int)) (e : Ending) (w' : World) : Prop := e = .returned (.tuple #[.agg #[.int .i64 (o.getD (0, 0)).1, .int .i64 (o.getD (0, 0)).2], .bool o.isSome]) ∧ Below w.heap.size w w'
set_option maxHeartbeats 400000 in
theorem find_c (vn ve : Value) (D : DfaD) (s : ByteArray) (f : Nat) (w : World) (h : DfaR S w vn ve D) (hD : okD D) (hs : letS s ∧ s.size ≤ 30) (hf : f ≤ s.size + 1) :
    Calls Try.prog 89 #[.agg #[vn, ve], .string s, .int .i64 f] w (R2o w (find D s f)) := by
  obtain ⟨a, c, b, d, rfl, rfl, hn, hm⟩ := (h).shapes
  obtain ⟨W, hW⟩ : ∃ W, W = w.alloc (.cells #[.slice a D.1.length c, .slice b D.2.length d] 26) := ⟨_, rfl⟩
  have Hb0 : Hid (Below w.heap.size w W) := by rw [hW]; exact (Below.refl _ _).alloc (Nat.le_refl _) _
  have c0 : W.cell? ⟨w.heap.size, 0, none⟩ = some (.slice a D.1.length c) := by rw [hW, World.cell?_alloc_mark]; rfl
  have c1 : W.cell? ⟨w.heap.size, 1, none⟩ = some (.slice b D.2.length d) := by rw [hW, World.cell?_alloc_mark]; rfl
  have K0 : Hid (W.heap[w.heap.size]? = some (.cells #[.slice a D.1.length c, .slice b D.2.length d] 26 (0, 0))) := by rw [hW]; exact blkNew _ _ rfl
  have Hz : Hid (W.heap.size = w.heap.size + 1) := by rw [hW]; simp [Hid]
  have H := Lib.hid ((h).stay (kpB Hb0.out)); clear h
  have HW := Lib.hid hW; clear hW
  have hs2 := hs.2
  have Hl := Lib.hid hs
  have HD := Lib.hid hD
  clear hs hD
  obtain ⟨W2, hW2⟩ : ∃ W2, W2 = W.alloc (.cells #[.int .i64 0, .int .i64 0] 44) := ⟨_, rfl⟩
  have hbw : Below W.heap.size W W2 := by rw [hW2]; exact (Below.refl _ _).alloc (Nat.le_refl _) _
  have K2 := Lib.hid (blkBel hbw K0.out)
  have K3 : Hid (W2.heap[w.heap.size + 1]? = some (.cells #[.int .i64 0, .int .i64 0] 44 (0, 0))) := by rw [hW2]; exact blkNew _ _ Hz.out.symm
  have H2 := Lib.hid (H.out.stay (kpB hbw))
  have Hb2 : Hid (Below w.heap.size w W2) := Hb0.out.trans (hbw.mono Hb0.out.size)
  have HW2 := Lib.hid hW2; clear hW2 hbw H c0 c1
  go_enter Try.func89, Try.ntmps89
  go_wp2
  rw [← HW.out, ← HW2.out]
  go_loopw [2] (fun i wr => ∃ y : Nat, y ≤ s.size + 1 ∧ i = .int .i64 y ∧ Hid (find D s f = find D s y) ∧ Below W2.heap.size W2 wr) (fun i _ => s.size + 1 - (intOf i).toNat)
  case atStart => exact ⟨f, hf, rfl, rfl, Below.refl _ _⟩
  case round =>
    obtain ⟨y, hy, rfl, Hf, hb⟩ := hrel
    obtain ⟨c0, c1, f0, f1⟩ := blk2 (blkBel hb K2.out)
    obtain ⟨d0, d1, g0, g1⟩ := blk2 (blkBel hb K3.out)
    have hbs := hb.size
    have Hbs := Hb2.out.size
    by_cases hlt : y ≤ s.size
    · have hst := find_step D s hlt
      rw [← Hf.out] at hst
      have Hst := Lib.hid hst; clear hst
      go_wp2_with fail
      refine (longest_c _ _ D s y _ (H2.out.stay (kpB hb)) HD.out Hl.out hlt).mono ?_
      rintro e w1 ⟨n, rfl, hb1, hn⟩
      have hn0 := hn.out.2.1
      have hn1 := hn.out.2.2
      obtain ⟨d0', d1', g0', g1'⟩ := blk2 (blkBel hb1 (blkBel hb K3.out))
      have hB := Lib.hid (hb.trans (hb1.mono hbs))
      by_cases hpos : 0 ≤ n
      · have Hr : Hid (find D s f = some ((y : Int), n)) := by
          have := Hst.out
          rw [← hn.out.1, if_pos hpos] at this
          exact this
        clear Hst hn hb hb1
        go_wp2
        refine bodyPost_ret (v := .tuple #[.agg #[.int .i64 y, .int .i64 n], .bool true]) (by simp [results, Try.results89, go_sem, d0', d1', g0', g1']) rfl ⟨by rw [Hr.out]; rfl, ?_⟩
        exact ((Hb2.out.trans (hB.out.mono Hbs)).setCell (by simp) _).setCell (by simp) _
      · have Hr : Hid (find D s f = find D s (y + 1)) := by
          have := Hst.out
          rw [← hn.out.1, if_neg hpos] at this
          exact this
        clear Hst hn hb hb1
        go_wp2
        go_roundw
        case rel => exact ⟨y + 1, by omega, by go_num, Hr, hB.out⟩
        case measure => simp [intOf]; omega
    · obtain rfl : y = s.size + 1 := by omega
      have Hr : Hid (find D s f = none) := by rw [Hf.out]; exact find_end D s
      go_wp2
      refine bodyPost_ret (v := .tuple #[.agg #[.int .i64 0, .int .i64 0], .bool false]) (by simp [results, Try.results89, go_sem, d0, d1, g0, g1]) rfl ⟨by rw [Hr.out]; rfl, ?_⟩
      exact ((Hb2.out.trans (hb.mono Hbs)).setCell (by simp) _).setCell (by simp) _
open Classical in
/-- The first match from a place on, if all is valid. -/
noncomputable def ffs (D : DfaD) (s : ByteArray) (f : Int) : Option (Int × Int) := if okD D ∧ (letS s ∧ s.size ≤ 30) ∧ 0 ≤ f ∧ f ≤ s.size then find D s f.toNat else none
theorem ffs_yes {D : DfaD} {s : ByteArray} {f : Int} (h1 : okD D) (h2 : letS s ∧ s.size ≤ 30) (h3 : 0 ≤ f ∧ f ≤ s.size) : ffs D s f = find D s f.toNat := by unfold ffs; rw [if_pos ⟨h1, h2, h3⟩]
theorem ffs_no1 {D : DfaD} {s : ByteArray} {f : Int} (h : ¬ okD D) : ffs D s f = none := by unfold ffs; rw [if_neg fun hh => h hh.1]
theorem ffs_no2 {D : DfaD} {s : ByteArray} {f : Int} (h : ¬ (letS s ∧ s.size ≤ 30)) : ffs D s f = none := by unfold ffs; rw [if_neg fun hh => h hh.2.1]
theorem ffs_no3 {D : DfaD} {s : ByteArray} {f : Int} (h : ¬ (0 ≤ f ∧ f ≤ s.size)) : ffs D s f = none := by unfold ffs; rw [if_neg fun hh => h hh.2.2]
set_option maxHeartbeats 400000 in
theorem FindFirst_c (vn ve : Value) (D : DfaD) (s : ByteArray) (f : Int) (w : World) (h : DfaR S w vn ve D) (hs : s.size ≤ maxLen) :
    Calls Try.prog 30 #[.agg #[vn, ve], .string s, .int .i64 f] w (R2o w (ffs D s f)) := by
  obtain ⟨a, c, b, d, rfl, rfl, hn, hm⟩ := (h).shapes
  obtain ⟨W, hW⟩ : ∃ W, W = w.alloc (.cells #[.slice a D.1.length c, .slice b D.2.length d] 26) := ⟨_, rfl⟩
  have Hb0 : Hid (Below w.heap.size w W) := by rw [hW]; exact (Below.refl _ _).alloc (Nat.le_refl _) _
  have c0 : W.cell? ⟨w.heap.size, 0, none⟩ = some (.slice a D.1.length c) := by rw [hW, World.cell?_alloc_mark]; rfl
  have c1 : W.cell? ⟨w.heap.size, 1, none⟩ = some (.slice b D.2.length d) := by rw [hW, World.cell?_alloc_mark]; rfl
  have K0 : Hid (W.heap[w.heap.size]? = some (.cells #[.slice a D.1.length c, .slice b D.2.length d] 26 (0, 0))) := by rw [hW]; exact blkNew _ _ rfl
  have Hz : Hid (W.heap.size = w.heap.size + 1) := by rw [hW]; simp [Hid]
  have H := Lib.hid ((h).stay (kpB Hb0.out)); clear h
  have HW := Lib.hid hW; clear hW
  obtain ⟨W2, hW2⟩ : ∃ W2, W2 = W.alloc (.cells #[.int .i64 0, .int .i64 0] 44) := ⟨_, rfl⟩
  have hbw : Below W.heap.size W W2 := by rw [hW2]; exact (Below.refl _ _).alloc (Nat.le_refl _) _
  have K2 := Lib.hid (blkBel hbw K0.out)
  have K3 : Hid (W2.heap[w.heap.size + 1]? = some (.cells #[.int .i64 0, .int .i64 0] 44 (0, 0))) := by rw [hW2]; exact blkNew _ _ Hz.out.symm
  have H2 := Lib.hid (H.out.stay (kpB hbw))
  have Hb2 : Hid (Below w.heap.size w W2) := Hb0.out.trans (hbw.mono Hb0.out.size)
  have HW2 := Lib.hid hW2; clear hW2 hbw H c0 c1
  have hsz : s.size ≤ 9223372036854775807 := by unfold maxLen at hs; exact hs
  have Hbs := Hb2.out.size
  go_enter Try.func30, Try.ntmps30
  go_wp2_with fail
  rw [← HW.out, ← HW2.out]
  refine (DfaValid_c _ _ D W2 H2.out).mono ?_
  rintro e w1 ⟨b1, rfl, hb1, hv1⟩
  obtain ⟨c0, c1, _, _⟩ := blk2 (blkBel hb1 K2.out)
  obtain ⟨d0, d1, g0, g1⟩ := blk2 (blkBel hb1 K3.out)
  have hB1 := Lib.hid hb1
  have hbs1 := hb1.size
  have hno : ∀ u v : Value, Below w.heap.size w ((w1.setCell ⟨w.heap.size + 1, 0, none⟩ u).setCell ⟨w.heap.size + 1, 1, none⟩ v) := fun u v => ((Hb2.out.trans (hb1.mono Hbs)).setCell (by simp) _).setCell (by simp) _
  have Hno := Lib.hid hno
  clear hb1 hno
  cases b1
  · have hp := Lib.hid (hbF hv1); clear hv1
    go_wp2
    exact bodyPost_ret (v := .tuple #[.agg #[.int .i64 0, .int .i64 0], .bool false]) (by simp [results, Try.results30, go_sem, d0, d1]) rfl ⟨by rw [ffs_no1 hp.out]; rfl, Hno.out _ _⟩
  · have hp1 := Lib.hid (hbT hv1); clear hv1
    go_wp2_with fail
    refine (TextValid_c s _ hs).mono ?_
    rintro e w2 ⟨b2, rfl, rfl, hv2⟩
    cases b2
    · have hp := Lib.hid (hbF hv2); clear hv2
      go_wp2
      exact bodyPost_ret (v := .tuple #[.agg #[.int .i64 0, .int .i64 0], .bool false]) (by simp [results, Try.results30, go_sem, d0, d1]) rfl ⟨by rw [ffs_no2 hp.out]; rfl, Hno.out _ _⟩
    · have hp2 := Lib.hid (hbT hv2); clear hv2
      go_wp2_with fail
      refine (within_c _ _ _ _).mono ?_
      rintro e w2 ⟨b2, rfl, rfl, hv2⟩
      cases b2
      · have hp := Lib.hid (hbF hv2); clear hv2
        go_wp2
        exact bodyPost_ret (v := .tuple #[.agg #[.int .i64 0, .int .i64 0], .bool false]) (by simp [results, Try.results30, go_sem, d0, d1]) rfl ⟨by rw [ffs_no3 hp.out]; rfl, Hno.out _ _⟩
      · have hp3 := hbT hv2
        have Hff := Lib.hid (ffs_yes hp1.out hp2.out hp3)
        obtain ⟨k, rfl⟩ : ∃ k : Nat, f = (k : Int) := ⟨f.toNat, by omega⟩
        have hk : k ≤ s.size := by omega
        rw [Int.toNat_natCast] at Hff
        clear hp3 hv2
        go_wp2_with fail
        refine (find_c _ _ D s k _ (H2.out.stay (kpB hB1.out)) hp1.out hp2.out (by omega)).mono ?_
        rintro e w3 ⟨rfl, hb3⟩
        obtain ⟨d0', d1', g0', g1'⟩ := blk2 (blkBel hb3 (blkBel hB1.out K3.out))
        have hfin : Below w.heap.size w ((w3.setCell ⟨w.heap.size + 1, 0, none⟩ (.int .i64 ((find D s k).getD (0, 0)).1)).setCell ⟨w.heap.size + 1, 1, none⟩ (.int .i64 ((find D s k).getD (0, 0)).2)) :=
          (((Hb2.out.trans (hB1.out.mono Hbs)).trans (hb3.mono (by omega))).setCell (by simp) _).setCell (by simp) _
        have Hfin := Lib.hid hfin
        clear hfin hb3 d0 d1 g0 g1 c0 c1
        go_wp2
        exact bodyPost_ret (v := .tuple #[.agg #[.int .i64 ((find D s k).getD (0, 0)).1, .int .i64 ((find D s k).getD (0, 0)).2], .bool (find D s k).isSome]) (by simp [results, Try.results30, go_sem, d0', d1']) rfl ⟨by rw [Hff.out], Hfin.out⟩
set_option maxHeartbeats 400000 in
theorem sFindFirst_no (vn ve : Value) (D : DfaD) (s : ByteArray) (f : Int) (w : World) (h : DfaR S w vn ve D) (hs : s.size ≤ maxLen) (hv : ¬ (okD D ∧ (letS s ∧ s.size ≤ 30) ∧ 0 ≤ f ∧ f ≤ s.size)) :
    Calls Try.prog 88 #[.agg #[vn, ve], .string s, .int .i64 f] w (R2o w (ffs D s f)) := by
  have HN : Hid (ffs D s f = none) := by unfold ffs; rw [if_neg hv]; rfl
  have HV := Lib.hid hv; clear hv
  obtain ⟨a, c, b, d, rfl, rfl, hn, hm⟩ := (h).shapes
  obtain ⟨W, hW⟩ : ∃ W, W = w.alloc (.cells #[.slice a D.1.length c, .slice b D.2.length d] 26) := ⟨_, rfl⟩
  have Hb0 : Hid (Below w.heap.size w W) := by rw [hW]; exact (Below.refl _ _).alloc (Nat.le_refl _) _
  have c0 : W.cell? ⟨w.heap.size, 0, none⟩ = some (.slice a D.1.length c) := by rw [hW, World.cell?_alloc_mark]; rfl
  have c1 : W.cell? ⟨w.heap.size, 1, none⟩ = some (.slice b D.2.length d) := by rw [hW, World.cell?_alloc_mark]; rfl
  have K0 : Hid (W.heap[w.heap.size]? = some (.cells #[.slice a D.1.length c, .slice b D.2.length d] 26 (0, 0))) := by rw [hW]; exact blkNew _ _ rfl
  have Hz : Hid (W.heap.size = w.heap.size + 1) := by rw [hW]; simp [Hid]
  have H := Lib.hid ((h).stay (kpB Hb0.out)); clear h
  have HW := Lib.hid hW; clear hW
  obtain ⟨W2, hW2⟩ : ∃ W2, W2 = W.alloc (.cells #[.int .i64 0, .int .i64 0] 44) := ⟨_, rfl⟩
  have hbw : Below W.heap.size W W2 := by rw [hW2]; exact (Below.refl _ _).alloc (Nat.le_refl _) _
  have K2 := Lib.hid (blkBel hbw K0.out)
  have K3 : Hid (W2.heap[w.heap.size + 1]? = some (.cells #[.int .i64 0, .int .i64 0] 44 (0, 0))) := by rw [hW2]; exact blkNew _ _ Hz.out.symm
  have H2 := Lib.hid (H.out.stay (kpB hbw))
  have Hb2 : Hid (Below w.heap.size w W2) := Hb0.out.trans (hbw.mono Hb0.out.size)
  have HW2 := Lib.hid hW2; clear hW2 hbw H c0 c1
  have hsz : s.size ≤ 9223372036854775807 := by unfold maxLen at hs; exact hs
  have Hbs := Hb2.out.size
  go_enter Try.func88, Try.ntmps88
  go_wp2_with fail
  rw [← HW.out, ← HW2.out]
  go_loopw [8] (fun i wr => i = .int .i64 f ∧ wr = W2) (fun i _ => 0)
  case atStart => exact ⟨rfl, rfl⟩
  case round =>
    obtain ⟨rfl, rfl⟩ := hrel
    obtain ⟨c0, c1, _, _⟩ := blk2 K2.out
    go_wp2_with fail
    refine (sDfaValid_c _ _ D _ H2.out).mono ?_
    rintro e w1 ⟨b1, rfl, hb1, hv1⟩
    obtain ⟨d0, d1, g0, g1⟩ := blk2 (blkBel hb1 K3.out)
    have hno : ∀ u v : Value, Below w.heap.size w ((w1.setCell ⟨w.heap.size + 1, 0, none⟩ u).setCell ⟨w.heap.size + 1, 1, none⟩ v) := fun u v => ((Hb2.out.trans (hb1.mono Hbs)).setCell (by simp) _).setCell (by simp) _
    have Hno := Lib.hid hno
    clear hb1 hno
    cases b1
    · clear hv1
      go_wp2
      exact bodyPost_ret (v := .tuple #[.agg #[.int .i64 0, .int .i64 0], .bool false]) (by simp [results, Try.results88, go_sem, d0, d1]) rfl ⟨by rw [HN.out]; rfl, Hno.out _ _⟩
    · have hp1 := Lib.hid (hbT hv1); clear hv1
      go_wp2_with fail
      refine (sTextValid_c s _ hs).mono ?_
      rintro e w2 ⟨b2, rfl, rfl, hv2⟩
      cases b2
      · clear hv2
        go_wp2
        exact bodyPost_ret (v := .tuple #[.agg #[.int .i64 0, .int .i64 0], .bool false]) (by simp [results, Try.results88, go_sem, d0, d1]) rfl ⟨by rw [HN.out]; rfl, Hno.out _ _⟩
      · have hp2 := Lib.hid (hbT hv2); clear hv2
        go_wp2_with fail
        refine (l1In_c _ _ _ _).mono ?_
        rintro e w2 ⟨b2, rfl, rfl, hv2⟩
        cases b2
        · clear hv2
          go_wp2
          exact bodyPost_ret (v := .tuple #[.agg #[.int .i64 0, .int .i64 0], .bool false]) (by simp [results, Try.results88, go_sem, d0, d1]) rfl ⟨by rw [HN.out]; rfl, Hno.out _ _⟩
        · exact (HV.out ⟨hp1.out, hp2.out, hbT hv2⟩).elim
set_option maxHeartbeats 400000 in
theorem sFindFirst_yes (vn ve : Value) (D : DfaD) (s : ByteArray) (f : Nat) (w : World) (h : DfaR S w vn ve D) (hv : okD D ∧ (letS s ∧ s.size ≤ 30) ∧ f ≤ s.size + 1) (hf : f ≤ s.size) :
    Calls Try.prog 88 #[.agg #[vn, ve], .string s, .int .i64 f] w (R2o w (find D s f)) := by
  have hs : s.size ≤ maxLen := by have := hv.2.1.2; unfold maxLen; omega
  have HD := Lib.hid hv.1
  have Hl := Lib.hid hv.2.1
  clear hv
  obtain ⟨a, c, b, d, rfl, rfl, hn, hm⟩ := (h).shapes
  obtain ⟨W, hW⟩ : ∃ W, W = w.alloc (.cells #[.slice a D.1.length c, .slice b D.2.length d] 26) := ⟨_, rfl⟩
  have Hb0 : Hid (Below w.heap.size w W) := by rw [hW]; exact (Below.refl _ _).alloc (Nat.le_refl _) _
  have c0 : W.cell? ⟨w.heap.size, 0, none⟩ = some (.slice a D.1.length c) := by rw [hW, World.cell?_alloc_mark]; rfl
  have c1 : W.cell? ⟨w.heap.size, 1, none⟩ = some (.slice b D.2.length d) := by rw [hW, World.cell?_alloc_mark]; rfl
  have K0 : Hid (W.heap[w.heap.size]? = some (.cells #[.slice a D.1.length c, .slice b D.2.length d] 26 (0, 0))) := by rw [hW]; exact blkNew _ _ rfl
  have Hz : Hid (W.heap.size = w.heap.size + 1) := by rw [hW]; simp [Hid]
  have H := Lib.hid ((h).stay (kpB Hb0.out)); clear h
  have HW := Lib.hid hW; clear hW
  obtain ⟨W2, hW2⟩ : ∃ W2, W2 = W.alloc (.cells #[.int .i64 0, .int .i64 0] 44) := ⟨_, rfl⟩
  have hbw : Below W.heap.size W W2 := by rw [hW2]; exact (Below.refl _ _).alloc (Nat.le_refl _) _
  have K2 := Lib.hid (blkBel hbw K0.out)
  have K3 : Hid (W2.heap[w.heap.size + 1]? = some (.cells #[.int .i64 0, .int .i64 0] 44 (0, 0))) := by rw [hW2]; exact blkNew _ _ Hz.out.symm
  have H2 := Lib.hid (H.out.stay (kpB hbw))
  have Hb2 : Hid (Below w.heap.size w W2) := Hb0.out.trans (hbw.mono Hb0.out.size)
  have HW2 := Lib.hid hW2; clear hW2 hbw H c0 c1
  have hsz : s.size ≤ 9223372036854775807 := by unfold maxLen at hs; exact hs
  have Hbs := Hb2.out.size
  have h30 : s.size ≤ 30 := Hl.out.2
  go_enter Try.func88, Try.ntmps88
  go_wp2_with fail
  rw [← HW.out, ← HW2.out]
  go_loopw [8] (fun i wr => ∃ y : Nat, y ≤ s.size + 1 ∧ i = .int .i64 y ∧ Hid (find D s f = find D s y) ∧ Below W2.heap.size W2 wr) (fun i _ => s.size + 1 - (intOf i).toNat)
  case atStart => exact ⟨f, by omega, rfl, rfl, Below.refl _ _⟩
  case round =>
    obtain ⟨y, hy, rfl, Hf, hb⟩ := hrel
    obtain ⟨c0, c1, _, _⟩ := blk2 (blkBel hb K2.out)
    go_wp2_with fail
    refine (sDfaValid_c _ _ D _ (H2.out.stay (kpB hb))).mono ?_
    rintro e w1 ⟨b1, rfl, hb1, hv1⟩
    cases b1
    · exact (hbF hv1 HD.out).elim
    clear hv1
    go_wp2_with fail
    refine (sTextValid_c s _ hs).mono ?_
    rintro e w2 ⟨b2, rfl, rfl, hv2⟩
    cases b2
    · exact (hbF hv2 Hl.out).elim
    clear hv2
    go_wp2_with fail
    refine (l1In_c _ _ _ _).mono ?_
    rintro e w2 ⟨b2, rfl, rfl, hv2⟩
    cases b2
    · exact (hbF hv2 ⟨by omega, by omega⟩).elim
    clear hv2
    have hbb := hb.trans (hb1.mono hb.size)
    obtain ⟨c0, c1, _, _⟩ := blk2 (blkBel hbb K2.out)
    obtain ⟨d0, d1, g0, g1⟩ := blk2 (blkBel hbb K3.out)
    have hbs := hbb.size
    clear hb hb1
    by_cases hlt : y ≤ s.size
    · have hst := find_step D s hlt
      rw [← Hf.out] at hst
      have Hst := Lib.hid hst; clear hst
      go_wp2_with fail
      refine (l19Longest_c _ _ D s y _ (H2.out.stay (kpB hbb)) HD.out Hl.out hlt).mono ?_
      rintro e w3 ⟨n, rfl, hb3, hn⟩
      have hn0 := hn.out.2.1
      have hn1 := hn.out.2.2
      obtain ⟨d0', d1', g0', g1'⟩ := blk2 (blkBel hb3 (blkBel hbb K3.out))
      have hB := Lib.hid (hbb.trans (hb3.mono hbs))
      by_cases hpos : 0 ≤ n
      · have Hr : Hid (find D s f = some ((y : Int), n)) := by
          have := Hst.out
          rw [← hn.out.1, if_pos hpos] at this
          exact this
        clear Hst hn hbb hb3
        go_wp2
        refine bodyPost_ret (v := .tuple #[.agg #[.int .i64 y, .int .i64 n], .bool true]) (by simp [results, Try.results88, go_sem, d0', d1', g0', g1']) rfl ⟨by rw [Hr.out]; rfl, ?_⟩
        exact ((Hb2.out.trans (hB.out.mono Hbs)).setCell (by simp) _).setCell (by simp) _
      · have Hr : Hid (find D s f = find D s (y + 1)) := by
          have := Hst.out
          rw [← hn.out.1, if_neg hpos] at this
          exact this
        clear Hst hn hbb hb3
        go_wp2
        go_roundw
        case rel => exact ⟨y + 1, by omega, by go_num, Hr, hB.out⟩
        case measure => simp [intOf]; omega
    · obtain rfl : y = s.size + 1 := by omega
      have Hr : Hid (find D s f = none) := by rw [Hf.out]; exact find_end D s
      go_wp2
      refine bodyPost_ret (v := .tuple #[.agg #[.int .i64 0, .int .i64 0], .bool false]) (by simp [results, Try.results88, go_sem, d0, d1, g0, g1]) rfl ⟨by rw [Hr.out]; rfl, ?_⟩
      exact ((Hb2.out.trans (hbb.mono Hbs)).setCell (by simp) _).setCell (by simp) _
theorem sFindFirst_c (vn ve : Value) (D : DfaD) (s : ByteArray) (f : Int) (w : World) (h : DfaR S w vn ve D) (hs : s.size ≤ maxLen) :
    Calls Try.prog 88 #[.agg #[vn, ve], .string s, .int .i64 f] w (R2o w (ffs D s f)) := by
  by_cases hv : okD D ∧ (letS s ∧ s.size ≤ 30) ∧ 0 ≤ f ∧ f ≤ s.size
  · obtain ⟨k, rfl⟩ : ∃ k : Nat, f = (k : Int) := ⟨f.toNat, by omega⟩
    rw [ffs_yes hv.1 hv.2.1 hv.2.2, Int.toNat_natCast]
    exact sFindFirst_yes vn ve D s k w h ⟨hv.1, hv.2.1, by omega⟩ (by omega)
  · exact sFindFirst_no vn ve D s f w h hs hv
end Go.Proofs.Ytcbhfopabgiiiaa
namespace Go.Proofs.Ytcbhfopabgiiiaa
open Go.RowKit
set_option maxRecDepth 100000
variable {S : Nat → Prop}

theorem index31 (n : Nat) (g : Nat → Nat) (l : Nat) (hl : l < 31) (w : World) : (Instr.index 90 (.agg (cslots n g 31).toArray) (.int .i64 l)).run Try.prog w = .ok (.slice (some ⟨g l, 0, none⟩) n n) w := by
  have hlen := cslots_len n g 31
  have hc : (cslots n g 31).toArray[l]? = some (.slice (some ⟨g l, 0, none⟩) n n) := by
    rw [List.getElem?_toArray, List.getElem?_eq_getElem (by omega), cslots_get hl hl]
  rw [List.getElem?_toArray] at hc
  simp [Instr.index, run_underlying Try.underlying90, asIntOf, go_sem, Go.part]
  rw [if_pos hl, hc]
  rfl
/-- The call answers v; new memory at most. -/
def RX (w : World) (v : Value) (e : Ending) (w' : World) : Prop := e = .returned v ∧ Below w.heap.size w w'
open Classical in
/-- The answer of CountWords. -/
noncomputable def cwv (D : DfaD) (l : Int) : Int := if okD D ∧ 0 ≤ l ∧ l ≤ 30 then ((cnt D l.toNat 0 : Nat) : Int) else -1
theorem cwv_yes {D : DfaD} {l : Int} (h1 : okD D) (h2 : 0 ≤ l ∧ l ≤ 30) : cwv D l = ((cnt D l.toNat 0 : Nat) : Int) := by unfold cwv; rw [if_pos ⟨h1, h2⟩]
theorem cwv_no1 {D : DfaD} {l : Int} (h : ¬ okD D) : cwv D l = -1 := by unfold cwv; rw [if_neg fun hh => h hh.1]
theorem cwv_no2 {D : DfaD} {l : Int} (h : ¬ (0 ≤ l ∧ l ≤ 30)) : cwv D l = -1 := by unfold cwv; rw [if_neg fun hh => h hh.2]
set_option maxHeartbeats 1000000 in
theorem CountWords_c (vn ve : Value) (D : DfaD) (l : Int) (w : World) (h : DfaR S w vn ve D) :
    Calls Try.prog 22 #[.agg #[vn, ve], .int .i64 l] w (RX w (.int .i64 (cwv D l))) := by
  obtain ⟨a, c, b, d, rfl, rfl, hn, hm⟩ := (h).shapes
  obtain ⟨W, hW⟩ : ∃ W, W = w.alloc (.cells #[.slice a D.1.length c, .slice b D.2.length d] 26) := ⟨_, rfl⟩
  have Hb0 : Hid (Below w.heap.size w W) := by rw [hW]; exact (Below.refl _ _).alloc (Nat.le_refl _) _
  have c0 : W.cell? ⟨w.heap.size, 0, none⟩ = some (.slice a D.1.length c) := by rw [hW, World.cell?_alloc_mark]; rfl
  have c1 : W.cell? ⟨w.heap.size, 1, none⟩ = some (.slice b D.2.length d) := by rw [hW, World.cell?_alloc_mark]; rfl
  have K0 : Hid (W.heap[w.heap.size]? = some (.cells #[.slice a D.1.length c, .slice b D.2.length d] 26 (0, 0))) := by rw [hW]; exact blkNew _ _ rfl
  have Hz : Hid (W.heap.size = w.heap.size + 1) := by rw [hW]; simp [Hid]
  have H := Lib.hid ((h).stay (kpB Hb0.out)); clear h
  have HW := Lib.hid hW; clear hW
  have hbs := Hb0.out.size
  go_enter Try.func22, Try.ntmps22
  go_wp2_with fail
  rw [← HW.out]
  refine (DfaValid_c _ _ D W H.out).mono ?_
  rintro e w1 ⟨b1, rfl, hb1, hv1⟩
  have hB := Hb0.out.trans (hb1.mono hbs)
  obtain ⟨d0, d1, _, _⟩ := blk2 (blkBel hb1 K0.out)
  cases b1
  · have hp := Lib.hid (hbF hv1); clear hv1
    go_wp2
    go_ret
    exact ⟨by rw [cwv_no1 hp.out]; rfl, hB⟩
  have hp1 := Lib.hid (hbT hv1); clear hv1
  go_wp2_with fail
  refine (within_c _ _ _ _).mono ?_
  rintro e w2 ⟨b2, rfl, rfl, hv2⟩
  cases b2
  · have hp := Lib.hid (hbF hv2); clear hv2
    go_wp2
    go_ret
    exact ⟨by rw [cwv_no2 hp.out]; rfl, hB⟩
  have hp2 := hbT hv2
  have Hv := Lib.hid (cwv_yes hp1.out hp2)
  obtain ⟨k, rfl⟩ : ∃ k : Nat, l = (k : Int) := ⟨l.toNat, by omega⟩
  have hk : k ≤ 30 := by omega
  rw [Int.toNat_natCast] at Hv
  clear hp2 hv2
  have h0 : 0 < D.1.length := hp1.out.1.1
  have hn40 : D.1.length ≤ 40 := hp1.out.1.2
  go_wp2_with fail
  refine (counts_c _ _ D _ (H.out.stay (kpB hb1)) hp1.out).mono ?_
  rintro e w3 ⟨v, rfl, hb3, hv⟩
  obtain ⟨g, rfl, hg⟩ := hv.out
  have hB3 := hB.trans (hb3.mono hB.size)
  have hix := fun W : World => index31 D.1.length g k (by omega) W
  have hc := (hg k (by omega)).2.cell (i := 0) (by rw [cntL_len]; exact h0)
  rw [cntL_get D k h0] at hc
  clear hg hv hb3 hb1 hB d0 d1
  generalize g k = G at *
  go_wp2
  go_ret
  exact ⟨by rw [Hv.out]; rfl, hB3⟩
/-- How many words are shorter. -/
def rkA (D : DfaD) : Nat → Nat
  | 0 => 0
  | k + 1 => rkA D k + cnt D k 0
theorem rkA_bd (D : DfaD) : ∀ k, k ≤ 30 → rkA D k ≤ 205891132094649 * k
  | 0, _ => by simp [rkA]
  | k + 1, h => by
    have := rkA_bd D k (by omega)
    have := cnt_bd D (show k ≤ 30 by omega) 0
    show rkA D k + cnt D k 0 ≤ _
    omega
/-- The rank behind i letters. -/
def rkB (D : DfaD) (s : ByteArray) : Nat → Nat
  | 0 => rkA D s.size
  | i + 1 => rkB D s i + cns D (s.size - 1 - i) (stt D s 0 i) (ltr s i)
theorem rkB_bd (D : DfaD) {s : ByteArray} (hl : letS s) (h8 : s.size ≤ 8) : ∀ i, i ≤ s.size → rkB D s i ≤ 205891132094649 * (8 + 3 * i)
  | 0, _ => by
    have := rkA_bd D s.size (by omega)
    show rkA D s.size ≤ _
    omega
  | i + 1, h => by
    have := rkB_bd D hl h8 i (by omega)
    have h3 := (ltr_lt hl (show i < s.size by omega)).1
    have := cns_bd D (show s.size - 1 - i ≤ 30 by omega) (stt D s 0 i) (ltr s i) (by omega)
    show rkB D s i + cns D (s.size - 1 - i) (stt D s 0 i) (ltr s i) ≤ _
    omega
open Classical in
/-- The answer of RankWord. -/
noncomputable def rkv (D : DfaD) (s : ByteArray) : Int := if okD D ∧ (letS s ∧ s.size ≤ 8) then ((rkB D s s.size : Nat) : Int) else -1
theorem rkv_yes {D : DfaD} {s : ByteArray} (h1 : okD D) (h2 : letS s ∧ s.size ≤ 8) : rkv D s = ((rkB D s s.size : Nat) : Int) := by unfold rkv; rw [if_pos ⟨h1, h2⟩]
theorem rkv_no1 {D : DfaD} {s : ByteArray} (h : ¬ okD D) : rkv D s = -1 := by unfold rkv; rw [if_neg fun hh => h hh.1]
theorem rkv_no2 {D : DfaD} {s : ByteArray} (h : ¬ (letS s ∧ s.size ≤ 8)) : rkv D s = -1 := by unfold rkv; rw [if_neg fun hh => h hh.2]
set_option maxHeartbeats 2000000 in
theorem sRankWord_c (vn ve : Value) (D : DfaD) (s : ByteArray) (w : World) (h : DfaR S w vn ve D) (hs : s.size ≤ maxLen) :
    Calls Try.prog 25 #[.agg #[vn, ve], .string s] w (RX w (.int .i64 (rkv D s))) := by
  obtain ⟨a, c, b, d, rfl, rfl, hn, hm⟩ := (h).shapes
  obtain ⟨W, hW⟩ : ∃ W, W = w.alloc (.cells #[.slice a D.1.length c, .slice b D.2.length d] 26) := ⟨_, rfl⟩
  have Hb0 : Hid (Below w.heap.size w W) := by rw [hW]; exact (Below.refl _ _).alloc (Nat.le_refl _) _
  have c0 : W.cell? ⟨w.heap.size, 0, none⟩ = some (.slice a D.1.length c) := by rw [hW, World.cell?_alloc_mark]; rfl
  have c1 : W.cell? ⟨w.heap.size, 1, none⟩ = some (.slice b D.2.length d) := by rw [hW, World.cell?_alloc_mark]; rfl
  have K0 : Hid (W.heap[w.heap.size]? = some (.cells #[.slice a D.1.length c, .slice b D.2.length d] 26 (0, 0))) := by rw [hW]; exact blkNew _ _ rfl
  have Hz : Hid (W.heap.size = w.heap.size + 1) := by rw [hW]; simp [Hid]
  have H := Lib.hid ((h).stay (kpB Hb0.out)); clear h
  have HW := Lib.hid hW; clear hW
  have hbs := Hb0.out.size
  go_enter Try.func25, Try.ntmps25
  go_wp2_with fail
  rw [← HW.out]
  refine (sDfaValid_c _ _ D W H.out).mono ?_
  rintro e w1 ⟨b1, rfl, hb1, hv1⟩
  have hB := Hb0.out.trans (hb1.mono hbs)
  obtain ⟨d0, d1, _, _⟩ := blk2 (blkBel hb1 K0.out)
  cases b1
  · have hp := Lib.hid (hbF hv1); clear hv1
    go_wp2
    go_ret
    exact ⟨by rw [rkv_no1 hp.out]; rfl, hB⟩
  have HD := Lib.hid (hbT hv1); clear hv1
  go_wp2_with fail
  refine (sWordValid_c s _ hs).mono ?_
  rintro e w2 ⟨b2, rfl, rfl, hv2⟩
  cases b2
  · have hp := Lib.hid (hbF hv2); clear hv2
    go_wp2
    go_ret
    exact ⟨by rw [rkv_no2 hp.out]; rfl, hB⟩
  have Hl := Lib.hid (hbT hv2); clear hv2
  have h8 : s.size ≤ 8 := Hl.out.2
  have Hv := Lib.hid (rkv_yes HD.out Hl.out)
  have h0 : 0 < D.1.length := HD.out.1.1
  have hn40 : D.1.length ≤ 40 := HD.out.1.2
  have hBW := hb1
  clear hb1 hB d0 d1 c0 c1
  go_wp2_with fail
  go_loopw [5, 6] (fun x i wr => ∃ k y : Nat, k ≤ s.size ∧ i = .int .i64 k ∧ x = .int .i64 y ∧ Hid (y = rkA D k) ∧ Below W.heap.size W wr) (fun _ i _ => s.size - (intOf i).toNat)
  case atStart => exact ⟨0, 0, by omega, rfl, rfl, rfl, hBW⟩
  case round =>
    obtain ⟨k, y, hk, rfl, rfl, Hy, hb⟩ := hrel
    have hbd := rkA_bd D k (by omega)
    rw [← Hy.out] at hbd
    obtain ⟨c0, c1, _, _⟩ := blk2 (blkBel hb K0.out)
    by_cases hlt : k < s.size
    · have hcb := cnt_bd D (show k ≤ 30 by omega) 0
      go_wp2_with fail
      refine (l17Counts_c _ _ D k _ (H.out.stay (kpB hb)) HD.out (by omega)).mono ?_
      rintro e w3 ⟨v, rfl, hb3, hv⟩
      obtain ⟨G, rfl, _, hg⟩ := hv.out
      have hc := hg.cell (i := 0) (by rw [cntL_len]; exact h0)
      rw [cntL_get D k h0] at hc
      have hB3 := hb.trans (hb3.mono hb.size)
      have Hn : Hid (rkA D (k + 1) = y + cnt D k 0) := by rw [Hy.out]; rfl
      clear hg hv hb3 hb c0 c1
      generalize cnt D k 0 = z at *
      go_wp2
      go_roundw
      case rel => exact ⟨k + 1, y + z, by omega, by go_num, by go_num, Hn.out.symm, hB3⟩
      case measure => simp [intOf]; omega
    · obtain rfl : k = s.size := by omega
      have Hy2 : Hid (y = rkB D s 0) := Hy.out
      clear c0 c1 Hy hBW hbd
      go_wp2_with fail
      go_loopw [5, 7, 8] (fun x st i wr => ∃ k y z : Nat, k ≤ s.size ∧ i = .int .i64 k ∧ x = .int .i64 y ∧ st = .int .i64 z ∧ Hid (y = rkB D s k ∧ z = stt D s 0 k) ∧ Below W.heap.size W wr) (fun _ _ i _ => s.size - (intOf i).toNat)
      case atStart => exact ⟨0, y, 0, by omega, rfl, rfl, rfl, ⟨Hy2.out, rfl⟩, hb⟩
      case round =>
        clear hb Hy2
        obtain ⟨k, y, z, hk, rfl, rfl, rfl, Hyz, hb⟩ := hrel
        have hbd := rkB_bd D Hl.out.1 h8 k hk
        rw [← Hyz.out.1] at hbd
        have hz := stt_lt HD.out Hl.out.1 0 k (by omega)
        rw [← Hyz.out.2] at hz
        by_cases hlt : k < s.size
        · obtain ⟨c0, c1, _, _⟩ := blk2 (blkBel hb K0.out)
          obtain ⟨m, hm⟩ : ∃ m, m = s.size - 1 - k := ⟨_, rfl⟩
          have hm1 : m ≤ 30 := by omega
          have hmI : (s.size : Int) - (k : Int) - 1 = (m : Int) := by omega
          have Hm := Lib.hid hm; clear hm
          go_wp2_with fail
          refine (l17Counts_c _ _ D m _ (H.out.stay (kpB hb)) HD.out hm1).mono ?_
          rintro e w3 ⟨v, rfl, hb3, hv⟩
          obtain ⟨G, rfl, _, hg⟩ := hv.out
          have hB3 := hb.trans (hb3.mono hb.size)
          have HG := Lib.hid hg
          have HmI := Lib.hid hmI
          obtain ⟨hl3, hl4⟩ := ltr_lt Hl.out.1 hlt
          obtain ⟨q, hq⟩ : ∃ q, q = ltr s k := ⟨_, rfl⟩
          rw [← hq] at hl3 hl4
          have Hq := Lib.hid hq
          have hkI : (k : Int) < (s.size : Int) := by omega
          have hw1 : IntKind.u8.wrap ((s[k].toNat : Int) - 97) = (q : Int) := by rw [hl4]; exact IntWalk.u8_in _ (by omega)
          have Hw1 := Lib.hid hw1
          have Hl4 := Lib.hid hl4
          have HQ : Hid (97 ≤ (s[k].toNat : Int) ∧ (s[k].toNat : Int) = q + 97) := ⟨by omega, by omega⟩
          clear hg hv hb3 hb c0 c1 hq hl4 hmI hw1
          have hq97 : 97 ≤ (s[k].toNat : Int) := HQ.out.1
          have hq99 : (s[k].toNat : Int) ≤ 99 := by have := HQ.out.2; omega
          have k3 := blkBel hB3 K0.out
          obtain ⟨c0, c1, _, _⟩ := blk2 k3
          obtain ⟨bn, on, br, or_, cr, e1, hrW, _, hcW⟩ := (H.out.stay (kpB hB3)).row HD.out hz
          subst e1
          have HcW := Lib.hid hcW; clear hcW k3
          have hn := rkB_bd D Hl.out.1 h8 (k + 1) (by omega)
          go_wp2_with fail
          go_loop [5, 10] (fun x i => ∃ c y2 : Nat, c ≤ q ∧ i = .int .i64 c ∧ x = .int .i64 y2 ∧ Hid (y2 = y + cns D m z c)) (fun _ i => q - (intOf i).toNat)
          case atStart => exact ⟨0, y, by omega, rfl, rfl, by simp [cns, Hid]⟩
          case round =>
            obtain ⟨t, y2, ht, rfl, rfl, Hy2⟩ := hrel
            have hcn := cns_bd D (show m ≤ 30 by omega) z t (by omega)
            have hy2 : y2 ≤ 205891132094649 * (8 + 3 * k) + 205891132094649 * t := by rw [Hy2.out]; omega
            by_cases htl : t < q
            · have hs2 := HcW.out t (by omega)
              have hs3 := dn_lt HD.out hz (show t < 3 by omega)
              have hcg := HG.out.cell (i := dn D z t) (by rw [cntL_len]; exact hs3)
              rw [cntL_get D m hs3] at hcg
              have hcb := cnt_bd D (show m ≤ 30 by omega) (dn D z t)
              have hns : Hid (y2 + cnt D m (dn D z t) = y + cns D m z (t + 1)) := by rw [Hy2.out]; show _ = y + (cns D m z t + cnt D m (dn D z t)); omega
              obtain ⟨v, hv⟩ : ∃ v, v = cnt D m (dn D z t) := ⟨_, rfl⟩
              obtain ⟨u, hu⟩ : ∃ u, u = dn D z t := ⟨_, rfl⟩
              rw [← hv] at hcb hns hcg
              rw [← hu] at hcg hs2 hs3
              clear hv hu
              have htq : (t : Int) < (s[k].toNat : Int) - 97 := by have := HQ.out.2; omega
              go_wp2
              go_round
              case rel => exact ⟨t + 1, y2 + v, by omega, by go_num, by go_num, hns.out⟩
              case measure => simp [intOf]; omega
            · obtain rfl : t = q := by omega
              have htq : ¬ ((t : Int) < (s[k].toNat : Int) - 97) := by have := HQ.out.2; omega
              have hs2 := HcW.out t (by omega)
              have hs3 := dn_lt HD.out hz (show t < 3 by omega)
              have Hn1 : Hid (y2 = rkB D s (k + 1) ∧ dn D z t = stt D s 0 (k + 1)) := by
                refine ⟨?_, ?_⟩
                · rw [Hy2.out, Hyz.out.1, Hyz.out.2, Hm.out, Hq.out]; rfl
                · rw [Hyz.out.2, Hq.out]; show _ = dn D (stt D s 0 k) (ltr s (0 + k)); rw [Nat.zero_add]
              obtain ⟨u, hu⟩ : ∃ u, u = dn D z t := ⟨_, rfl⟩
              rw [← hu] at hs2 hs3 Hn1
              have htI : (t : Int) < 3 := by omega
              have hkI : (k : Int) < (s.size : Int) := by omega
              have hzI : (z : Int) < (D.1.length : Int) := by omega
              have hw1 : IntKind.u8.wrap ((s[k].toNat : Int) - 97) = (t : Int) := Hw1.out
              have hw2 : IntKind.i64.wrap (t : Int) = (t : Int) := IntWalk.i64_in _ (by omega)
              clear hu
              have hBd : Hid (Below W.heap.size W w3) := hB3
              clear hB3
              go_wp2_with fail
              go_quiet (fail)
              go_wp2
              go_roundw
              case rel => exact ⟨k + 1, y2, u, by omega, by go_num, rfl, rfl, Hn1.out, belDrewN hBd.out _⟩
              case measure => simp [intOf]; omega
        · obtain rfl : k = s.size := by omega
          have hB := Hb0.out.trans (hb.mono hbs)
          clear hb
          go_wp2
          go_ret
          exact ⟨by rw [Hv.out, ← Hyz.out.1]; rfl, hB⟩
/-- The world behind a variable that holds the counts. -/
def slotsW (w : World) (n : Nat) (g : Nat → Nat) : World := (w.alloc (.cells #[Value.slice none 0 0, Value.slice none 0 0, Value.slice none 0 0, Value.slice none 0 0, Value.slice none 0 0, Value.slice none 0 0, Value.slice none 0 0, Value.slice none 0 0, Value.slice none 0 0, Value.slice none 0 0, Value.slice none 0 0, Value.slice none 0 0, Value.slice none 0 0, Value.slice none 0 0, Value.slice none 0 0, Value.slice none 0 0, Value.slice none 0 0, Value.slice none 0 0, Value.slice none 0 0, Value.slice none 0 0, Value.slice none 0 0, Value.slice none 0 0, Value.slice none 0 0, Value.slice none 0 0, Value.slice none 0 0, Value.slice none 0 0, Value.slice none 0 0, Value.slice none 0 0, Value.slice none 0 0, Value.slice none 0 0, Value.slice none 0 0] 90)).setCells w.heap.size 0 (cslots n g 31)
theorem slots_lit : (#[Value.slice none 0 0, Value.slice none 0 0, Value.slice none 0 0, Value.slice none 0 0, Value.slice none 0 0, Value.slice none 0 0, Value.slice none 0 0, Value.slice none 0 0, Value.slice none 0 0, Value.slice none 0 0, Value.slice none 0 0, Value.slice none 0 0, Value.slice none 0 0, Value.slice none 0 0, Value.slice none 0 0, Value.slice none 0 0, Value.slice none 0 0, Value.slice none 0 0, Value.slice none 0 0, Value.slice none 0 0, Value.slice none 0 0, Value.slice none 0 0, Value.slice none 0 0, Value.slice none 0 0, Value.slice none 0 0, Value.slice none 0 0, Value.slice none 0 0, Value.slice none 0 0, Value.slice none 0 0, Value.slice none 0 0, Value.slice none 0 0] : Array Value) = (List.replicate 31 (Value.slice none 0 0)).toArray := rfl
theorem slots_row (w : World) : RowV (w.alloc (.cells #[Value.slice none 0 0, Value.slice none 0 0, Value.slice none 0 0, Value.slice none 0 0, Value.slice none 0 0, Value.slice none 0 0, Value.slice none 0 0, Value.slice none 0 0, Value.slice none 0 0, Value.slice none 0 0, Value.slice none 0 0, Value.slice none 0 0, Value.slice none 0 0, Value.slice none 0 0, Value.slice none 0 0, Value.slice none 0 0, Value.slice none 0 0, Value.slice none 0 0, Value.slice none 0 0, Value.slice none 0 0, Value.slice none 0 0, Value.slice none 0 0, Value.slice none 0 0, Value.slice none 0 0, Value.slice none 0 0, Value.slice none 0 0, Value.slice none 0 0, Value.slice none 0 0, Value.slice none 0 0, Value.slice none 0 0, Value.slice none 0 0] 90)) w.heap.size (List.replicate 31 (Value.slice none 0 0)) := by
  unfold RowV Row
  simp only [List.map_id']
  rw [slots_lit]
  exact blkNew _ _ rfl
theorem slots_there (w : World) (n : Nat) (g : Nat → Nat) : (w.alloc (.cells #[Value.slice none 0 0, Value.slice none 0 0, Value.slice none 0 0, Value.slice none 0 0, Value.slice none 0 0, Value.slice none 0 0, Value.slice none 0 0, Value.slice none 0 0, Value.slice none 0 0, Value.slice none 0 0, Value.slice none 0 0, Value.slice none 0 0, Value.slice none 0 0, Value.slice none 0 0, Value.slice none 0 0, Value.slice none 0 0, Value.slice none 0 0, Value.slice none 0 0, Value.slice none 0 0, Value.slice none 0 0, Value.slice none 0 0, Value.slice none 0 0, Value.slice none 0 0, Value.slice none 0 0, Value.slice none 0 0, Value.slice none 0 0, Value.slice none 0 0, Value.slice none 0 0, Value.slice none 0 0, Value.slice none 0 0, Value.slice none 0 0] 90)).there w.heap.size 0 (cslots n g 31).toArray.size := fun j hj => by
  have hj' : j < 31 := by simpa [cslots_len] using hj
  rw [Nat.zero_add]
  exact ⟨by rw [(slots_row w).cell (by simpa using hj')]; rfl, (slots_row w).fz j⟩
theorem slots_one (n : Nat) (g : Nat → Nat) : (cslots n g 31).toArray.all (·.oneCell') = true := by
  refine all_oneCell_toArray fun v hv => ?_
  unfold cslots part at hv
  obtain ⟨i, _, rfl⟩ := List.mem_map.1 hv
  split <;> rfl
theorem slots_info (n : Nat) (g : Nat → Nat) : (Try.prog.info? 90).map (·.size) = some (cslots n g 31).toArray.size := by
  have : (Try.prog.info? 90).map (·.size) = some 31 := by kernel_rfl
  rw [this]; simp [cslots_len]
theorem slots_below (w : World) (n : Nat) (g : Nat → Nat) : Below w.heap.size w (slotsW w n g) := setCells_below (Nat.le_refl _) _ _ _ ((Below.refl _ _).alloc (Nat.le_refl _) _)
theorem slots_cell (w : World) (n : Nat) (g : Nat → Nat) {i : Nat} (hi : i < 31) : (slotsW w n g).cell? ⟨w.heap.size, i, none⟩ = some (.slice (some ⟨g i, 0, none⟩) n n) := by
  have h := World.rangeAt_setCells_same (w.alloc (.cells #[Value.slice none 0 0, Value.slice none 0 0, Value.slice none 0 0, Value.slice none 0 0, Value.slice none 0 0, Value.slice none 0 0, Value.slice none 0 0, Value.slice none 0 0, Value.slice none 0 0, Value.slice none 0 0, Value.slice none 0 0, Value.slice none 0 0, Value.slice none 0 0, Value.slice none 0 0, Value.slice none 0 0, Value.slice none 0 0, Value.slice none 0 0, Value.slice none 0 0, Value.slice none 0 0, Value.slice none 0 0, Value.slice none 0 0, Value.slice none 0 0, Value.slice none 0 0, Value.slice none 0 0, Value.slice none 0 0, Value.slice none 0 0, Value.slice none 0 0, Value.slice none 0 0, Value.slice none 0 0, Value.slice none 0 0, Value.slice none 0 0] 90)) w.heap.size 0 (cslots n g 31) (by have := slots_there w n g; rwa [List.size_toArray] at this)
  have := h i (.slice (some ⟨g i, 0, none⟩) n n) (by rw [List.getElem?_eq_getElem (by rw [cslots_len]; exact hi), cslots_get hi hi])
  rw [Nat.zero_add] at this
  exact this
theorem slots_size (w : World) (n : Nat) (g : Nat → Nat) : w.heap.size < (slotsW w n g).heap.size := by
  have := slots_cell w n g (i := 0) (by omega)
  exact World.block_lt_of_cell? _ _ this
set_option maxHeartbeats 200000 in
theorem RankWord_c (vn ve : Value) (D : DfaD) (s : ByteArray) (w : World) (h : DfaR S w vn ve D) (hs : s.size ≤ maxLen) :
    Calls Try.prog 24 #[.agg #[vn, ve], .string s] w (RX w (.int .i64 (rkv D s))) := by
  obtain ⟨a, c, b, d, rfl, rfl, hn, hm⟩ := (h).shapes
  obtain ⟨W, hW⟩ : ∃ W, W = w.alloc (.cells #[.slice a D.1.length c, .slice b D.2.length d] 26) := ⟨_, rfl⟩
  have Hb0 : Hid (Below w.heap.size w W) := by rw [hW]; exact (Below.refl _ _).alloc (Nat.le_refl _) _
  have c0 : W.cell? ⟨w.heap.size, 0, none⟩ = some (.slice a D.1.length c) := by rw [hW, World.cell?_alloc_mark]; rfl
  have c1 : W.cell? ⟨w.heap.size, 1, none⟩ = some (.slice b D.2.length d) := by rw [hW, World.cell?_alloc_mark]; rfl
  have K0 : Hid (W.heap[w.heap.size]? = some (.cells #[.slice a D.1.length c, .slice b D.2.length d] 26 (0, 0))) := by rw [hW]; exact blkNew _ _ rfl
  have Hz : Hid (W.heap.size = w.heap.size + 1) := by rw [hW]; simp [Hid]
  have H := Lib.hid ((h).stay (kpB Hb0.out)); clear h
  have HW := Lib.hid hW; clear hW
  have hbs := Hb0.out.size
  go_enter Try.func24, Try.ntmps24
  go_wp2_with fail
  rw [← HW.out]
  refine (DfaValid_c _ _ D W H.out).mono ?_
  rintro e w1 ⟨b1, rfl, hb1, hv1⟩
  have hB := Hb0.out.trans (hb1.mono hbs)
  obtain ⟨d0, d1, _, _⟩ := blk2 (blkBel hb1 K0.out)
  cases b1
  · have hp := Lib.hid (hbF hv1); clear hv1
    go_wp2
    go_ret
    exact ⟨by rw [rkv_no1 hp.out]; rfl, hB⟩
  have HD := Lib.hid (hbT hv1); clear hv1
  go_wp2_with fail
  refine (WordValid_c s _ hs).mono ?_
  rintro e w2 ⟨b2, rfl, rfl, hv2⟩
  cases b2
  · have hp := Lib.hid (hbF hv2); clear hv2
    go_wp2
    go_ret
    exact ⟨by rw [rkv_no2 hp.out]; rfl, hB⟩
  have Hl := Lib.hid (hbT hv2); clear hv2
  have h8 : s.size ≤ 8 := Hl.out.2
  have Hv := Lib.hid (rkv_yes HD.out Hl.out)
  have h0 : 0 < D.1.length := HD.out.1.1
  have hn40 : D.1.length ≤ 40 := HD.out.1.2
  go_wp2_with fail
  refine (counts_c _ _ D _ (H.out.stay (kpB hb1)) HD.out).mono ?_
  rintro e w3 ⟨v, rfl, hb3, hv⟩
  obtain ⟨g, rfl, hg⟩ := hv.out
  have HG := Lib.hid hg
  have hB3 := hb1.trans (hb3.mono hb1.size)
  clear hg hv hb3 hb1 hB d0 d1 c0 c1
  go_wp2_with ((refine wpList_store_mid rfl 90 (.tmp 5) (.tmp 20) rfl w3.heap.size 0 _ rfl rfl (slots_there _ _ _) (slots_info _ _) (slots_one _ _) ?_); change wpList _ _ _ _ _ (slotsW w3 D.1.length g); obtain ⟨W5, hW5⟩ : ∃ W5, W5 = slotsW w3 D.1.length g := ⟨_, rfl⟩; rw [← hW5]; have HW5 := Lib.hid hW5; clear hW5)
  have hb5 : Below w3.heap.size w3 W5 := by rw [HW5.out]; exact slots_below _ _ _
  have hB5 := hB3.trans (hb5.mono hB3.size)
  have HC : Hid (∀ i, i < 31 → W5.cell? ⟨w3.heap.size, i, none⟩ = some (.slice (some ⟨g i, 0, none⟩) D.1.length D.1.length)) := fun i hi => by rw [HW5.out]; exact slots_cell _ _ _ hi
  have HG5 : Hid (∀ i, i < 31 → RowI W5 (g i) (cntL D i)) := fun i hi => (HG.out i hi).2.stay hb5
  have H5 := Lib.hid (H.out.stay (kpB hB5))
  have K5 := Lib.hid (blkBel hB5 K0.out)
  generalize hB0 : w3.heap.size = B at *
  clear HG hb5 HW5
  go_loop [6, 23] (fun x i => ∃ k y : Nat, k ≤ s.size ∧ i = .int .i64 k ∧ x = .int .i64 y ∧ Hid (y = rkA D k)) (fun _ i => s.size - (intOf i).toNat)
  case atStart => exact ⟨0, 0, by omega, rfl, rfl, rfl⟩
  case round =>
    obtain ⟨k, y, hk, rfl, rfl, Hy⟩ := hrel
    have hbd := rkA_bd D k (by omega)
    rw [← Hy.out] at hbd
    by_cases hlt : k < s.size
    · have hcb := cnt_bd D (show k ≤ 30 by omega) 0
      have hc1 := HC.out k (by omega)
      have hc := (HG5.out k (by omega)).cell (i := 0) (by rw [cntL_len]; exact h0)
      rw [cntL_get D k h0] at hc
      have Hn : Hid (rkA D (k + 1) = y + cnt D k 0) := by rw [Hy.out]; rfl
      generalize cnt D k 0 = z at *
      generalize g k = G at *
      go_wp2
      go_round
      case rel => exact ⟨k + 1, y + z, by omega, by go_num, by go_num, Hn.out.symm⟩
      case measure => simp [intOf]; omega
    · obtain rfl : k = s.size := by omega
      have Hy2 : Hid (y = rkB D s 0) := Hy.out
      clear Hy hbd
      go_wp2_with fail
      go_loopw [6, 8, 36] (fun x st i wr => ∃ k y z : Nat, k ≤ s.size ∧ i = .int .i64 k ∧ x = .int .i64 y ∧ st = .int .i64 z ∧ Hid (y = rkB D s k ∧ z = stt D s 0 k) ∧ ∃ q, wr = W5.drewN q) (fun _ _ i _ => s.size - (intOf i).toNat)
      case atStart => exact ⟨0, y, 0, by omega, rfl, rfl, rfl, ⟨Hy2.out, rfl⟩, 0, rfl⟩
      case round =>
        clear Hy2
        obtain ⟨k, y, z, hk, rfl, rfl, rfl, Hyz, nq, rfl⟩ := hrel
        have hbd := rkB_bd D Hl.out.1 h8 k hk
        rw [← Hyz.out.1] at hbd
        have hz := stt_lt HD.out Hl.out.1 0 k (by omega)
        rw [← Hyz.out.2] at hz
        by_cases hlt : k < s.size
        · obtain ⟨c0, c1, _, _⟩ := blk2 K5.out
          obtain ⟨m, hm⟩ : ∃ m, m = s.size - 1 - k := ⟨_, rfl⟩
          have hm1 : m < 31 := by omega
          have hmI : IntKind.i64.wrap ((s.size : Int) - 1 - (k : Int)) = (m : Int) := by rw [IntWalk.i64_in _ (by omega)]; omega
          have hmJ : IntKind.i64.wrap ((s.size : Int) - 1) = (s.size : Int) - 1 := IntWalk.i64_in _ (by omega)
          have Hm := Lib.hid hm
          have HmI := Lib.hid hmI
          have HmJ := Lib.hid hmJ
          obtain ⟨bn, on, br, or_, cr, e1, hrW, _, hcW⟩ := H5.out.row HD.out hz
          subst e1
          have HcW := Lib.hid hcW
          have hl3 := (ltr_lt Hl.out.1 hlt).1
          obtain ⟨q, hq⟩ : ∃ q, q = ltr s k := ⟨_, rfl⟩
          have Hlx := letter_x s k
          rw [← hq] at hl3 Hlx
          have HLX := Lib.hid Hlx
          have Hq := Lib.hid hq
          have hn := rkB_bd D Hl.out.1 h8 (k + 1) (by omega)
          have hsl : s.size ≤ maxLen := hs
          have hcm := HC.out m hm1
          obtain ⟨gm, hgm⟩ : ∃ gm, gm = g m := ⟨_, rfl⟩
          have HGm := Lib.hid (HG5.out m hm1)
          rw [← hgm] at hcm HGm
          clear hm hmI hmJ hcW hq Hlx hgm
          go_wp2_with fail
          refine (HLX.out _ hsl hlt Hl.out.1).mono ?_
          rintro e w6 ⟨rfl, rfl⟩
          go_wp2_with fail
          go_loopw [6, 42] (fun x i wr => ∃ c y2 : Nat, c ≤ q ∧ i = .int .i64 c ∧ x = .int .i64 y2 ∧ Hid (y2 = y + cns D m z c) ∧ ∃ q, wr = W5.drewN q) (fun _ i _ => q - (intOf i).toNat)
          case atStart => exact ⟨0, y, by omega, rfl, rfl, by simp [cns, Hid], _, rfl⟩
          case round =>
            obtain ⟨t, y2, ht, rfl, rfl, Hy2, nq2, rfl⟩ := hrel
            have hcn := cns_bd D (show m ≤ 30 by omega) z t (by omega)
            have hy2 : y2 ≤ 205891132094649 * (8 + 3 * k) + 205891132094649 * t := by rw [Hy2.out]; omega
            by_cases htl : t < q
            · have hs2 := HcW.out t (by omega)
              have hs3 := dn_lt HD.out hz (show t < 3 by omega)
              have hcg := HGm.out.cell (i := dn D z t) (by rw [cntL_len]; exact hs3)
              rw [cntL_get D m hs3] at hcg
              have hcb := cnt_bd D (show m ≤ 30 by omega) (dn D z t)
              have hns : Hid (y2 + cnt D m (dn D z t) = y + cns D m z (t + 1)) := by rw [Hy2.out]; show _ = y + (cns D m z t + cnt D m (dn D z t)); omega
              obtain ⟨v, hv⟩ : ∃ v, v = cnt D m (dn D z t) := ⟨_, rfl⟩
              obtain ⟨u, hu⟩ : ∃ u, u = dn D z t := ⟨_, rfl⟩
              rw [← hv] at hcb hns hcg
              rw [← hu] at hcg hs2 hs3
              clear hv hu
              have hmI := HmI.out
              have hmJ := HmJ.out
              have htI : (t : Int) < 3 := by omega
              have hzI : (z : Int) < (D.1.length : Int) := by omega
              have huI : (u : Int) < (D.1.length : Int) := by omega
              have hm31 : (m : Int) < 31 := by omega
              have hwy : IntKind.i64.wrap ((y2 : Int) + (v : Int)) = (y2 : Int) + (v : Int) := IntWalk.i64_in _ (by omega)
              go_wp2_with fail
              go_quiet (fail)
              go_wp2
              go_roundw
              case rel => exact ⟨t + 1, y2 + v, by omega, by go_num, by go_num, hns.out, _, rfl⟩
              case measure => simp [intOf]; omega
            · obtain rfl : t = q := by omega
              have hs2 := HcW.out t (by omega)
              have hs3 := dn_lt HD.out hz (show t < 3 by omega)
              have Hn1 : Hid (y2 = rkB D s (k + 1) ∧ dn D z t = stt D s 0 (k + 1)) := by
                refine ⟨?_, ?_⟩
                · rw [Hy2.out, Hyz.out.1, Hyz.out.2, Hm.out, Hq.out]; rfl
                · rw [Hyz.out.2, Hq.out]; show _ = dn D (stt D s 0 k) (ltr s (0 + k)); rw [Nat.zero_add]
              obtain ⟨u, hu⟩ : ∃ u, u = dn D z t := ⟨_, rfl⟩
              rw [← hu] at hs2 hs3 Hn1
              have htI : (t : Int) < 3 := by omega
              have hzI : (z : Int) < (D.1.length : Int) := by omega
              clear hu
              go_wp2_with fail
              go_quiet ((go_at_call 83; exact qAdd (HLX.out _ hsl hlt Hl.out.1)))
              go_wp2
              go_roundw
              case rel => exact ⟨k + 1, y2, u, by omega, by go_num, rfl, rfl, Hn1.out, _, rfl⟩
              case measure => simp [intOf]; omega
        · obtain rfl : k = s.size := by omega
          have hB := Hb0.out.trans (hB5.mono hbs)
          go_wp2
          go_ret
          exact ⟨by rw [Hv.out, ← Hyz.out.1]; rfl, belDrewN hB _⟩
end Go.Proofs.Ytcbhfopabgiiiaa

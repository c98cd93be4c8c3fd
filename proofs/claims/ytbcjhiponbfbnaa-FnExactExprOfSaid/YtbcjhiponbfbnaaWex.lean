/- WordExpr: the program's and the reference's. -/
import Derived.Test.YtbcjhiponbfbnaaGA
import Derived.Test.YtbcjhiponbfbnaaSlc
set_option linter.unusedSimpArgs false
set_option linter.unusedVariables false
set_option linter.unusedSectionVars false
namespace Go.Proofs.Ytbcjhiponbfbnaa
open Go.RowKit
set_option maxRecDepth 100000

theorem takeSnoc (s : ByteArray) (k : Nat) (h : k < s.size) : s.data.toList.take (k + 1) = s.data.toList.take k ++ [s[k]] := by
  rw [List.take_succ_eq_append_getElem (by simpa using h)]; rfl
/-- The parts of a word, joined from the left. -/
def weP : List UInt8 → List (Int × Int)
  | [] => []
  | c :: t => (3, (c.toNat : Int) - 97) :: t.flatMap fun c => [(3, (c.toNat : Int) - 97), (4, 0)]
def weX (l : List UInt8) : List (Int × Int) := if l = [] then [(2, 0)] else weP l
theorem weP_one (c : UInt8) : weP [c] = [(3, (c.toNat : Int) - 97)] := by simp [weP]
theorem weP_snoc (l : List UInt8) (c : UInt8) (h : l ≠ []) : weP (l ++ [c]) = weP l ++ [(3, (c.toNat : Int) - 97)] ++ [(4, 0)] := by
  cases l with
  | nil => exact absurd rfl h
  | cons a t => simp [weP]
theorem weP_len (l : List UInt8) : (weP l).length ≤ 2 * l.length := by
  cases l with
  | nil => simp [weP]
  | cons a t =>
    have : ∀ t : List UInt8, (t.flatMap fun c => [((3 : Int), (c.toNat : Int) - 97), (4, 0)]).length = 2 * t.length := by
      intro t
      induction t with
      | nil => rfl
      | cons b t ih => simp only [List.flatMap_cons, List.length_append, ih, List.length_cons, List.length_nil]; omega
    simp only [weP, List.length_cons, this]; omega

set_option maxHeartbeats 800000 in
theorem sWordExpr_c (s : ByteArray) (w : World) (hs : s.size ≤ maxLen) (hv : letS s ∧ s.size ≤ 8) :
    Calls Try.prog 20 #[.string s] w (RVn w fun v w' => OwnP w' w.heap.size v (weX s.data.toList)) := by
  have h8 := hv.2
  have hl := Lib.hid hv.1
  have HV := Lib.hid hv; clear hv
  go_enter Try.func20, Try.ntmps20
  go_wp2_with fail
  refine (sWordValid_c _ _ hs).mono ?_
  rintro e w' ⟨b, rfl, rfl, hb⟩
  cases b
  · exact (hbF hb HV.out).elim
  clear hb
  go_wp2_with fail
  have hst : OwnP (w.alloc (.cells #[] 67)) w.heap.size (.slice (some ⟨w.heap.size, 0, none⟩) 0 0) (weP (s.data.toList.take 0)) := ownLit [] (Nat.le_refl _) (by omega) rfl
  go_loopw [3, 4] (fun v i wr => ∃ k : Nat, k ≤ s.size ∧ i = .int .i64 k ∧ Below w.heap.size w wr ∧ Hid (OwnP wr w.heap.size v (weP (s.data.toList.take k)))) (fun _ i _ => s.size - (intOf i).toNat)
  case atStart => exact ⟨0, by omega, rfl, (Below.refl _ _).alloc (Nat.le_refl _) _, hst⟩
  case round =>
    obtain ⟨k, hk, rfl, hb, ho⟩ := hrel
    clear hst
    have hbs := hb.size
    have hlen := weP_len (s.data.toList.take k)
    have hlen2 : (s.data.toList.take k).length = k := by simp only [List.length_take, Array.length_toList]; show min k s.size = k; omega
    by_cases hlt : k < s.size
    · have hc := hl.out k hlt
      have hc1 : (97 : Int) ≤ (s[k].toNat : Int) := hc.1
      have hc2 : (s[k].toNat : Int) ≤ 99 := hc.2
      have hsn := Lib.hid (takeSnoc s k hlt)
      clear hc
      rcases Nat.eq_zero_or_pos k with rfl | hpos
      · go_wp2_with (at_builtin; refine appPart rfl (.tmp 16) (.tmp 23) rfl w.heap.size u3 _ _ _ _ rfl rfl ho.out (by omega) hbs ?_; intro v1 w1 h1 hg1)
        go_roundw
        case rel => exact ⟨1, by omega, rfl, hb.grown hg1 hbs (fun k hk => (World.ownsRow.lt ho.out k hk).1), by rw [hsn.out]; exact h1⟩
        case measure => simp [intOf]; omega
      · have hne : s.data.toList.take k ≠ [] := by intro h; rw [h] at hlen2; simp at hlen2; omega
        have Hne := Lib.hid hne; clear hne
        go_wp2_with (first | (at_builtin; refine appPart rfl (.tmp 16) (.tmp 23) rfl w.heap.size u3 _ _ _ _ rfl rfl ho.out (by omega) hbs ?_; intro v1 w1 h1 hg1; have hbs1 := Nat.le_trans hbs hg1.size; have hl1 : (weP (s.data.toList.take k) ++ [(3, (s[k].toNat : Int) - 97)]).length ≤ 100 := (by simp; omega)) | (at_builtin; refine appPart rfl (.tmp 27) (.tmp 29) rfl w.heap.size v1 _ _ _ _ rfl rfl h1.out (by omega) hbs1 ?_; intro v2 w2 h2 hg2))
        go_roundw
        case rel => exact ⟨k + 1, by omega, by go_num, (hb.grown hg1 hbs (fun k hk => (World.ownsRow.lt ho.out k hk).1)).grown hg2 hbs1 (fun k hk => (World.ownsRow.lt h1.out k hk).1), by rw [hsn.out, weP_snoc _ _ Hne.out]; exact h2⟩
        case measure => simp [intOf]; omega
    · obtain rfl : k = s.size := by omega
      have hfull : s.data.toList.take s.size = s.data.toList := List.take_of_length_le (by simp)
      rw [hfull] at ho hlen hlen2
      rcases Nat.eq_zero_or_pos s.size with h0 | hpos
      · have hempty : s.data.toList = [] := List.eq_nil_of_length_eq_zero (by rw [hlen2, h0])
        have hlen3 : (weP s.data.toList).length ≤ 100 := by omega
        have hX := Lib.hid (show weX s.data.toList = weP s.data.toList ++ [(2, 0)] by simp [weX, hempty, weP])
        have hse := strNil h0
        clear h0
        go_wp2_with (at_builtin; refine appPart rfl (.tmp 33) (.tmp 35) rfl w.heap.size u3 _ _ _ _ rfl rfl ho.out (by omega) hbs ?_; intro v1 w1 h1 hg1)
        go_ret
        exact RVn.mk (hb.grown hg1 hbs (fun k hk => (World.ownsRow.lt ho.out k hk).1)) (by rw [hX.out]; exact h1.out)
      · have hne : s.data.toList ≠ [] := by intro h; rw [h] at hlen2; simp at hlen2; omega
        have hX := Lib.hid (show weX s.data.toList = weP s.data.toList by simp [weX, hne])
        have hse := strCons hpos
        clear hne
        go_wp2
        go_ret
        exact RVn.mk hb (by rw [hX.out]; exact ho.out)
theorem sWordExpr_no (s : ByteArray) (w : World) (hs : s.size ≤ maxLen) (hv : ¬ (letS s ∧ s.size ≤ 8)) :
    Calls Try.prog 20 #[.string s] w (RVn w fun v w' => OwnP w' w.heap.size v []) := by
  have HV := Lib.hid hv; clear hv
  go_enter Try.func20, Try.ntmps20
  go_wp2_with fail
  refine (sWordValid_c _ _ hs).mono ?_
  rintro e w' ⟨b, rfl, rfl, hb⟩
  cases b
  · go_wp2
    go_ret
    exact RVn.mk ((Below.refl _ _).alloc (Nat.le_refl _) _) (ownLit [] (Nat.le_refl _) (by omega) rfl)
  · exact (HV.out (hbT hb)).elim
theorem leaf_c (k : Int) (w : World) :
    Calls Try.prog 94 #[.int .i64 k] w (RVn w fun v w' => OwnP w' w.heap.size v [(k, 0)]) := by
  go_enter Try.func94, Try.ntmps94
  go_wp2
  go_ret
  exact RVn.mk ((Below.refl _ _).alloc (Nat.le_refl _) _) (ownLit [.int .i64 k, .int .i64 0] (Nat.le_refl _) (by omega) rfl)
theorem operation_c {T U : Nat → Prop} (k : Int) (v : Value) (xss : List (List (Int × Int))) (w : World) (h : Nest (Pairs T) U w v xss) (hT : ∀ b, T b → U b) (hn : (xss.map List.length).sum ≤ 10000000) :
    Calls Try.prog 95 #[.int .i64 k, v] w (RVn w fun v w' => OwnP w' w.heap.size v (xss.flatten ++ [(k, 0)])) := by
  have H := Lib.hid h; clear h
  have HT := Lib.hid hT; clear hT
  go_enter Try.func95, Try.ntmps95
  go_wp2_with fail
  refine (concatPart_c v xss w H.out (fun _ _ _ h => Fl.mono h HT.out) (fun _ _ _ _ h k => h.stay (k.mono HT.out)) (by omega)).mono ?_
  rintro e w1 ⟨v1, rfl, hb1, ho1⟩
  have hlen : xss.flatten.length ≤ 10000000 := by rw [List.length_flatten]; exact hn
  have hbs1 := hb1.size
  go_wp2_with (at_builtin; refine appPart rfl (.tmp 6) (.tmp 9) rfl w.heap.size v1 _ _ _ _ rfl rfl ho1.out (by omega) hbs1 ?_; intro v2 w2 h2 hg2)
  go_ret
  exact RVn.mk (hb1.grown hg2 hbs1 (fun k hk => (World.ownsRow.lt ho1.out k hk).1)) h2.out
set_option maxHeartbeats 800000 in
theorem wordExpr_c (s : ByteArray) (w : World) (hv : letS s ∧ s.size ≤ 8) :
    Calls Try.prog 58 #[.string s] w (RVn w fun v w' => OwnP w' w.heap.size v (weX s.data.toList)) := by
  have hs : s.size ≤ maxLen := by have := hv.2; unfold maxLen; omega
  have h8 := hv.2
  have hl := Lib.hid hv.1
  clear hv
  have hl0 : s.data.toList.length = s.size := by simp
  rcases Nat.eq_zero_or_pos s.size with h0 | hpos
  · have hempty : s.data.toList = [] := List.eq_nil_of_length_eq_zero (by rw [hl0, h0])
    have hX := Lib.hid (show weX s.data.toList = [(2, 0)] by simp [weX, hempty])
    have hse := strNil h0
    clear h0 hempty hl0
    go_enter Try.func58, Try.ntmps58
    go_wp2_with fail
    refine (leaf_c _ _).mono ?_
    rintro e w1 ⟨v1, rfl, hb1, ho1⟩
    go_wp2
    go_ret
    exact RVn.mk hb1 (by rw [hX.out]; exact ho1.out)
  · have hne : s.data.toList ≠ [] := by intro h; rw [h] at hl0; simp at hl0; omega
    have hX := Lib.hid (show weX s.data.toList = weP s.data.toList by simp [weX, hne])
    have hse := strCons hpos
    have h1 := Lib.hid (takeSnoc s 0 hpos)
    clear hne hl0
    go_enter Try.func58, Try.ntmps58
    go_wp2_with fail
    refine (letter_c s 0 _ hs hpos (hl.out 0 hpos)).mono ?_
    rintro e w1 ⟨c0, rfl, rfl, hc0⟩
    go_wp2_with fail
    have hst : OwnP (w.alloc (.cells #[.int .i64 3, .int .i64 c0] 67)) w.heap.size (.slice (some ⟨w.heap.size, 0, none⟩) 1 1) (weP (s.data.toList.take 1)) := by
      rw [h1.out]
      have : weP (s.data.toList.take 0 ++ [s[0]]) = [(3, c0)] := by rw [hc0.out.1]; simp [weP]
      rw [this]
      exact ownLit [.int .i64 3, .int .i64 c0] (Nat.le_refl _) (by omega) rfl
    have Hst := Lib.hid hst; clear hst
    go_loopw [3, 4] (fun v i wr => ∃ k : Nat, 1 ≤ k ∧ k ≤ s.size ∧ i = .int .i64 k ∧ Below w.heap.size w wr ∧ Hid (OwnP wr w.heap.size v (weP (s.data.toList.take k)))) (fun _ i _ => s.size - (intOf i).toNat)
    case atStart => exact ⟨1, by omega, by omega, rfl, (Below.refl _ _).alloc (Nat.le_refl _) _, Hst⟩
    case round =>
      obtain ⟨k, hk1, hk, rfl, hb, ho⟩ := hrel
      have hbs := hb.size
      have hlen := weP_len (s.data.toList.take k)
      have hlen2 : (s.data.toList.take k).length = k := by simp only [List.length_take, Array.length_toList]; show min k s.size = k; omega
      clear Hst hc0
      by_cases hlt : k < s.size
      · have hsn := Lib.hid (takeSnoc s k hlt)
        have hne : s.data.toList.take k ≠ [] := by intro h; rw [h] at hlen2; simp at hlen2; omega
        have Hne := Lib.hid hne; clear hne
        obtain ⟨a3, cap3, rfl, _⟩ := ho.out.rd.shape
        go_wp2_with fail
        refine (letter_c s k _ hs hlt (hl.out k hlt)).mono ?_
        rintro e w2 ⟨c1, rfl, rfl, hc1⟩
        have hlc : (weP (s.data.toList.take k)).length ≤ 100 := by omega
        have hb2 : Below wr.heap.size wr (wr.alloc (.cells #[.int .i64 3, .int .i64 c1] 67)) := (Below.refl _ _).alloc (Nat.le_refl _) _
        have hp1 := Lib.hid (ho.out.stay hb2)
        have hp2 : Hid (OwnP (wr.alloc (.cells #[.int .i64 3, .int .i64 c1] 67)) wr.heap.size (.slice (some ⟨wr.heap.size, 0, none⟩) 1 1) [(3, c1)]) := ownLit [.int .i64 3, .int .i64 c1] (Nat.le_refl _) (by simp) rfl
        have hN : Hid (Nest (Pairs fun _ => True) (fun _ => True) ((wr.alloc (.cells #[.int .i64 3, .int .i64 c1] 67)).alloc (.cells #[.slice a3 (weP (s.data.toList.take k)).length cap3, .slice (some ⟨wr.heap.size, 0, none⟩) 1 1] 23)) (.slice (some ⟨wr.heap.size + 1, 0, none⟩) 2 2) [weP (s.data.toList.take k), [(3, c1)]]) :=
          nestTwo (by simp) trivial (Pairs.stay (Fl.mono hp1.out.rd (fun _ _ => trivial)) kpAlloc) (Pairs.stay (Fl.mono hp2.out.rd (fun _ _ => trivial)) kpAlloc)
        generalize hX' : weP (s.data.toList.take k) = X at *
        have HX := Lib.hid hX'; clear hX'
        go_wp2_with fail
        (with_reducible refine (operation_c 4 _ _ _ hN.out (fun _ _ => trivial) ?_).mono ?_)
        · simp; omega
        rintro e w3 ⟨v3, rfl, hb3, ho3⟩
        have hB : Below w.heap.size w w3 := ((hb.alloc hbs _).alloc (by simp; omega) _).trans (hb3.mono (by simp; omega))
        have hO := Lib.hid (ownBase ho3.out (base' := w.heap.size) (by simp; omega))
        clear hb3 ho3 hN hp1 hp2 hb2
        go_wp2
        go_roundw
        case rel => exact ⟨k + 1, by omega, by omega, by go_num, hB, by
          have e1 : weP (s.data.toList.take (k + 1)) = [X, [(3, c1)]].flatten ++ [(4, 0)] := by rw [hsn.out, weP_snoc _ _ Hne.out, ← hc1.out.1, HX.out]; simp
          rw [e1]; exact hO⟩
        case measure => simp [intOf]; omega
      · obtain rfl : k = s.size := by omega
        have hfull : s.data.toList.take s.size = s.data.toList := List.take_of_length_le (by simp)
        rw [hfull] at ho
        clear hfull
        go_wp2
        go_ret
        exact RVn.mk hb (by rw [hX.out]; exact ho.out)
theorem WordExpr_c (s : ByteArray) (w : World) (hv : letS s ∧ s.size ≤ 8) :
    Calls Try.prog 19 #[.string s] w (RVn w fun v w' => OwnP w' w.heap.size v (weX s.data.toList)) := by
  have hs : s.size ≤ maxLen := by have := hv.2; unfold maxLen; omega
  have HV := Lib.hid hv; clear hv
  go_enter Try.func19, Try.ntmps19
  go_wp2_with fail
  refine (WordValid_c _ _ hs).mono ?_
  rintro e w' ⟨b, rfl, rfl, hb⟩
  cases b
  · exact (hbF hb HV.out).elim
  clear hb
  go_wp2_with fail
  refine (wordExpr_c _ _ HV.out).mono ?_
  rintro e w1 ⟨v1, rfl, hb1, ho1⟩
  go_wp2
  go_ret
  exact RVn.mk hb1 ho1.out
theorem WordExpr_no (s : ByteArray) (w : World) (hs : s.size ≤ maxLen) (hv : ¬ (letS s ∧ s.size ≤ 8)) :
    Calls Try.prog 19 #[.string s] w (RVn w fun v w' => OwnP w' w.heap.size v []) := by
  have HV := Lib.hid hv; clear hv
  go_enter Try.func19, Try.ntmps19
  go_wp2_with fail
  refine (WordValid_c _ _ hs).mono ?_
  rintro e w' ⟨b, rfl, rfl, hb⟩
  cases b
  · go_wp2
    go_ret
    exact RVn.mk (Below.refl _ _) (World.ownsRow_nil _ _ _ _)
  · exact (HV.out (hbT hb)).elim
end Go.Proofs.Ytbcjhiponbfbnaa

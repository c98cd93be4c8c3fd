/- The tokens of a text: the program's and the reference's answers. -/
import Derived.Test.YthdbgpdidolmaaaTok
import Derived.Test.YthdbgpdidolmaaaAp2
namespace Go.Proofs.Ythdbgpdidolmaaa
open Go.RowKit
set_option maxRecDepth 100000
variable {S T : Nat → Prop}

theorem tok_bd {Ds : List DfaD} {s : ByteArray} {f : Nat} (hf : f ≤ s.size) (h : (tok Ds s f).2 = true) : ∃ t : Nat, (tok Ds s f).1 = ((tok Ds s f).1.1, (f : Int), (t : Int)) ∧ f < t ∧ t ≤ s.size := by
  have hb := tkb_bd Ds s hf Ds.length
  unfold tok at h ⊢
  split at h
  · cases h
  · rename_i hne
    rw [if_neg hne]
    refine ⟨(tkb Ds s f Ds.length).2.toNat, ?_, by omega, by omega⟩
    rw [Int.toNat_of_nonneg (by omega)]
/-- The tokens from a place on and the place behind them, in so many steps. -/
def tkl (Ds : List DfaD) (s : ByteArray) : Nat → Nat → List (Int × Int × Int) × Int
  | 0, f => ([], f)
  | n + 1, f => if (tok Ds s f).2 then ((tok Ds s f).1 :: (tkl Ds s n (tok Ds s f).1.2.2.toNat).1, (tkl Ds s n (tok Ds s f).1.2.2.toNat).2) else ([], f)
theorem tkl_len (Ds : List DfaD) (s : ByteArray) : ∀ n f, f ≤ s.size → (tkl Ds s n f).1.length + f ≤ s.size ∧ 0 ≤ (tkl Ds s n f).2
  | 0, f, hf => by simp [tkl]; omega
  | n + 1, f, hf => by
    unfold tkl
    split
    · rename_i h
      obtain ⟨t, ht, h1, h2⟩ := tok_bd hf h
      have := tkl_len Ds s n (tok Ds s f).1.2.2.toNat (by rw [ht]; simpa using h2)
      rw [ht] at this ⊢
      simp at this ⊢
      omega
    · simp; omega
open Classical in
/-- All tokens and the place behind them; none and -1 if not all is valid. -/
noncomputable def tks (Ds : List DfaD) (s : ByteArray) : List (Int × Int × Int) × Int := if okP Ds ∧ (letS s ∧ s.size ≤ 30) then tkl Ds s (s.size + 1) 0 else ([], -1)
theorem tks_no {Ds : List DfaD} {s : ByteArray} (h : ¬ (okP Ds ∧ (letS s ∧ s.size ≤ 30))) : tks Ds s = ([], -1) := by unfold tks; rw [if_neg h]
theorem tks_yes {Ds : List DfaD} {s : ByteArray} (h : okP Ds ∧ (letS s ∧ s.size ≤ 30)) : tks Ds s = tkl Ds s (s.size + 1) 0 := by unfold tks; rw [if_pos h]
theorem tks_len (Ds : List DfaD) (s : ByteArray) : (tks Ds s).1.length ≤ 30 := by
  by_cases h : okP Ds ∧ (letS s ∧ s.size ≤ 30)
  · rw [tks_yes h]; have := tkl_len Ds s (s.size + 1) 0 (by omega); have := h.2.2; omega
  · rw [tks_no h]; simp
/-- The call answers a list of tokens and a place; new memory at most. -/
def RTk (w : World) (o : List (Int × Int × Int) × Int) (e : Ending) (w' : World) : Prop :=
  ∃ v, e = .returned (.tuple #[v, .int .i64 o.2]) ∧ Below w.heap.size w w' ∧ Hid (Own3 w' w.heap.size 60 v o.1)
set_option maxHeartbeats 1000000 in
theorem Tokens_c (v : Value) (Ds : List DfaD) (s : ByteArray) (w : World) (h : DfaS S w v Ds) (hs : s.size ≤ maxLen) :
    Calls Try.prog 51 #[v, .string s] w (RTk w (tks Ds s)) := by
  obtain ⟨a, cap, rfl, hn⟩ := h.shape
  have H := Lib.hid h; clear h
  have hsz : s.size ≤ 9223372036854775807 := by unfold maxLen at hs; exact hs
  have Hs := Lib.hid hs; clear hs
  go_enter Try.func51, Try.ntmps51
  go_wp2_with fail
  refine (PatternsValid_c _ Ds w H.out).mono ?_
  rintro e w1 ⟨b1, rfl, hb1, hv1⟩
  have HB1 := Lib.hid hb1; clear hb1
  cases b1
  · have Ho := Lib.hid (tks_no (s := s) (fun hh => hbF hv1 hh.1)); clear hv1
    go_wp2
    exact bodyPost_ret (v := .tuple #[.slice none 0 0, .int .i64 (-1)]) (by simp [results, Try.results51, go_sem]) rfl ⟨_, by rw [Ho.out], HB1.out, by rw [Ho.out]; exact Own3.nil _ _ _⟩
  have hp1 := Lib.hid (hbT hv1); clear hv1
  go_wp2_with fail
  refine (TextValid_c s _ Hs.out).mono ?_
  rintro e w2 ⟨b2, rfl, rfl, hv2⟩
  cases b2
  · have Ho := Lib.hid (tks_no (Ds := Ds) (fun hh => hbF hv2 hh.2)); clear hv2
    go_wp2
    exact bodyPost_ret (v := .tuple #[.slice none 0 0, .int .i64 (-1)]) (by simp [results, Try.results51, go_sem]) rfl ⟨_, by rw [Ho.out], HB1.out, by rw [Ho.out]; exact Own3.nil _ _ _⟩
  have hp2 := Lib.hid (hbT hv2); clear hv2
  have Hff := Lib.hid (tks_yes (⟨hp1.out, hp2.out⟩))
  have hs30 := hp2.out.2
  go_wp2
  go_loopw [6, 7] (fun v i wr => ∃ (n f : Nat) (xs : List (Int × Int × Int)), i = .int .i64 f ∧ f ≤ s.size ∧ s.size < n + f ∧ xs.length ≤ f ∧ Hid (Below w.heap.size w wr) ∧ Hid (tks Ds s = (xs ++ (tkl Ds s n f).1, (tkl Ds s n f).2)) ∧ Hid (Own3 wr w.heap.size 60 v xs)) (fun _ i _ => s.size + 1 - (intOf i).toNat)
  case atStart => exact ⟨s.size + 1, 0, [], rfl, by omega, by omega, by simp, HB1.out, by rw [Hff.out]; simp [Hid], Own3.nil _ _ _⟩
  case round =>
    obtain ⟨n, f, xs, rfl, hf, hnf, hxl, hb, ht, ho⟩ := hrel
    obtain ⟨n, rfl⟩ : ∃ k, n = k + 1 := ⟨n - 1, by omega⟩
    go_wp2_with fail
    refine (nextToken_c _ Ds s f _ (H.out.stay (kpB hb.out)) hp1.out.2 hp2.out hf).mono ?_
    rintro e w3 ⟨rfl, hb3⟩
    have hb' := Lib.hid (hb.out.trans (hb3.mono hb.out.size))
    have ho' := Lib.hid (ho.out.stay hb3)
    clear hb hb3 ho
    have hst : tkl Ds s (n + 1) f = if (tok Ds s f).2 then ((tok Ds s f).1 :: (tkl Ds s n (tok Ds s f).1.2.2.toNat).1, (tkl Ds s n (tok Ds s f).1.2.2.toNat).2) else ([], f) := rfl
    cases hfd : (tok Ds s f).2
    · rw [if_neg (by rw [hfd]; simp)] at hst
      rw [hst] at ht
      obtain ⟨⟨q0, q1, q2⟩, hq⟩ : ∃ q, q = (tok Ds s f).1 := ⟨_, rfl⟩
      rw [← hq]
      clear hq hst hfd
      have ho2 := Lib.hid (ho'.out.stay (w' := w3.alloc (.cells #[.int .i64 q0, .int .i64 q1, .int .i64 q2] 60)) ((Below.refl _ _).alloc (Nat.le_refl _) _))
      have hB2 := Lib.hid (hb'.out.alloc hb'.out.size (.cells #[.int .i64 q0, .int .i64 q1, .int .i64 q2] 60))
      go_wp2
      exact bodyPost_ret (v := .tuple #[u6, .int .i64 f]) (by simp [results, Try.results51, go_sem]) rfl ⟨_, by rw [ht.out], hB2.out, by rw [ht.out]; simpa [Hid] using ho2.out⟩
    · obtain ⟨t, hq, h1, h2⟩ := tok_bd hf hfd
      rw [if_pos hfd, hq] at hst
      rw [hq]
      simp only [Int.toNat_natCast] at hst
      obtain ⟨p, hp⟩ : ∃ p, p = (tok Ds s f).1.1 := ⟨_, rfl⟩
      rw [← hp] at hst ⊢
      rw [hst] at ht
      clear hp hq hst hfd
      obtain ⟨W5, hW5⟩ : ∃ W5, W5 = w3.alloc (.cells #[.int .i64 p, .int .i64 f, .int .i64 t] 60) := ⟨_, rfl⟩
      have hb5 : Below w3.heap.size w3 W5 := by rw [hW5]; exact (Below.refl _ _).alloc (Nat.le_refl _) _
      have K5 : Hid (W5.heap[w3.heap.size]? = some (.cells #[.int .i64 p, .int .i64 f, .int .i64 t] 60 (0, 0))) := by rw [hW5]; exact blkNew _ _ rfl
      have ho5 := Lib.hid (ho'.out.stay hb5)
      have HB5 := Lib.hid (hb'.out.trans (hb5.mono hb'.out.size))
      have HwW : Hid (w.heap.size ≤ W5.heap.size) := HB5.out.size
      have hne5 : some w3.heap.size ≠ u6.ownBlock := fun e => by
        have := (World.ownsRow.lt ho'.out _ e.symm).2; omega
      have Hne5 := Lib.hid hne5; clear hne5
      clear hb5 hb' ho'
      subst hW5
      go_wp2_with (at_builtin; refine app3 elToken (by decide) rfl (.tmp 29) (.tmp 31) rfl w.heap.size _ xs _ _ _ _ (by simp) rfl rfl ho5.out (by omega) HwW.out ?_; intro v1 w6 h1 hg1; have k6 := blkGrow hg1 K5.out Hne5.out; obtain ⟨d0, d1, d2⟩ := blk3 k6)
      have hB6 : Hid (Below w.heap.size w w6) := HB5.out.grown hg1 HB5.out.size (fun k hk => (World.ownsRow.lt ho5.out k hk).1)
      go_roundw
      case rel => exact ⟨n, t, xs ++ [(p, (f : Int), (t : Int))], rfl, h2, by omega, by simp; omega, hB6, by rw [ht.out]; simp [Hid], h1⟩
      case measure => simp [intOf]; omega
set_option maxHeartbeats 1000000 in
theorem sTokens_c (v : Value) (Ds : List DfaD) (s : ByteArray) (w : World) (h : DfaS S w v Ds) (hs : s.size ≤ maxLen) :
    Calls Try.prog 50 #[v, .string s] w (RTk w (tks Ds s)) := by
  obtain ⟨a, cap, rfl, hn⟩ := h.shape
  have H := Lib.hid h; clear h
  have hsz : s.size ≤ 9223372036854775807 := by unfold maxLen at hs; exact hs
  have Hs := Lib.hid hs; clear hs
  obtain ⟨W, hW⟩ : ∃ W, W = w.alloc (.cells #[] 60) := ⟨_, rfl⟩
  have Hb0 : Hid (Below w.heap.size w W) := by rw [hW]; exact (Below.refl _ _).alloc (Nat.le_refl _) _
  have HO : Hid (Own3 W w.heap.size 60 (.slice (some ⟨w.heap.size, 0, none⟩) 0 0) []) := by rw [hW]; exact ownLit (n := 0) [] (Nat.le_refl _) (by omega) rfl
  have HW := Lib.hid hW; clear hW
  go_enter Try.func50, Try.ntmps50
  go_wp2_with fail
  rw [← HW.out]
  refine (sPatternsValid_c _ Ds W (H.out.stay (kpB Hb0.out))).mono ?_
  rintro e w1 ⟨b1, rfl, hb1, hv1⟩
  have HB1 := Lib.hid (Hb0.out.trans (hb1.mono Hb0.out.size))
  have HO1 := Lib.hid (HO.out.stay hb1); clear hb1 HO
  cases b1
  · have Ho := Lib.hid (tks_no (s := s) (fun hh => hbF hv1 hh.1)); clear hv1
    go_wp2
    exact bodyPost_ret (v := .tuple #[.slice (some ⟨w.heap.size, 0, none⟩) 0 0, .int .i64 (-1)]) (by simp [results, Try.results50, go_sem]) rfl ⟨_, by rw [Ho.out], HB1.out, by rw [Ho.out]; exact HO1.out⟩
  have hp1 := Lib.hid (hbT hv1); clear hv1
  go_wp2_with fail
  refine (sTextValid_c s _ Hs.out).mono ?_
  rintro e w2 ⟨b2, rfl, rfl, hv2⟩
  cases b2
  · have Ho := Lib.hid (tks_no (Ds := Ds) (fun hh => hbF hv2 hh.2)); clear hv2
    go_wp2
    exact bodyPost_ret (v := .tuple #[.slice (some ⟨w.heap.size, 0, none⟩) 0 0, .int .i64 (-1)]) (by simp [results, Try.results50, go_sem]) rfl ⟨_, by rw [Ho.out], HB1.out, by rw [Ho.out]; exact HO1.out⟩
  have hp2 := Lib.hid (hbT hv2); clear hv2
  have Hff := Lib.hid (tks_yes (⟨hp1.out, hp2.out⟩))
  have hs30 := hp2.out.2
  go_wp2
  go_loopw [6, 7] (fun v i wr => ∃ (n f : Nat) (xs : List (Int × Int × Int)), i = .int .i64 f ∧ f ≤ s.size ∧ s.size < n + f ∧ xs.length ≤ f ∧ Hid (Below w.heap.size w wr) ∧ Hid (tks Ds s = (xs ++ (tkl Ds s n f).1, (tkl Ds s n f).2)) ∧ Hid (Own3 wr w.heap.size 60 v xs)) (fun _ i _ => s.size + 1 - (intOf i).toNat)
  case atStart => exact ⟨s.size + 1, 0, [], rfl, by omega, by omega, by simp, HB1.out, by rw [Hff.out]; simp [Hid], HO1.out⟩
  case round =>
    obtain ⟨n, f, xs, rfl, hf, hnf, hxl, hb, ht, ho⟩ := hrel
    obtain ⟨n, rfl⟩ : ∃ k, n = k + 1 := ⟨n - 1, by omega⟩
    go_wp2_with fail
    refine (sNextToken_yes _ Ds s f _ (H.out.stay (kpB hb.out)) ⟨hp1.out, hp2.out⟩ hf).mono ?_
    rintro e w3 ⟨rfl, hb3⟩
    have hb' := Lib.hid (hb.out.trans (hb3.mono hb.out.size))
    have ho' := Lib.hid (ho.out.stay hb3)
    clear hb hb3 ho
    have hst : tkl Ds s (n + 1) f = if (tok Ds s f).2 then ((tok Ds s f).1 :: (tkl Ds s n (tok Ds s f).1.2.2.toNat).1, (tkl Ds s n (tok Ds s f).1.2.2.toNat).2) else ([], f) := rfl
    cases hfd : (tok Ds s f).2
    · rw [if_neg (by rw [hfd]; simp)] at hst
      rw [hst] at ht
      obtain ⟨⟨q0, q1, q2⟩, hq⟩ : ∃ q, q = (tok Ds s f).1 := ⟨_, rfl⟩
      rw [← hq]
      clear hq hst hfd
      have ho2 := Lib.hid (ho'.out.stay (w' := w3.alloc (.cells #[.int .i64 q0, .int .i64 q1, .int .i64 q2] 60)) ((Below.refl _ _).alloc (Nat.le_refl _) _))
      have hB2 := Lib.hid (hb'.out.alloc hb'.out.size (.cells #[.int .i64 q0, .int .i64 q1, .int .i64 q2] 60))
      go_wp2
      exact bodyPost_ret (v := .tuple #[u6, .int .i64 f]) (by simp [results, Try.results50, go_sem]) rfl ⟨_, by rw [ht.out], hB2.out, by rw [ht.out]; simpa [Hid] using ho2.out⟩
    · obtain ⟨t, hq, h1, h2⟩ := tok_bd hf hfd
      rw [if_pos hfd, hq] at hst
      rw [hq]
      simp only [Int.toNat_natCast] at hst
      obtain ⟨p, hp⟩ : ∃ p, p = (tok Ds s f).1.1 := ⟨_, rfl⟩
      rw [← hp] at hst ⊢
      rw [hst] at ht
      clear hp hq hst hfd
      obtain ⟨W5, hW5⟩ : ∃ W5, W5 = w3.alloc (.cells #[.int .i64 p, .int .i64 f, .int .i64 t] 60) := ⟨_, rfl⟩
      have hb5 : Below w3.heap.size w3 W5 := by rw [hW5]; exact (Below.refl _ _).alloc (Nat.le_refl _) _
      have K5 : Hid (W5.heap[w3.heap.size]? = some (.cells #[.int .i64 p, .int .i64 f, .int .i64 t] 60 (0, 0))) := by rw [hW5]; exact blkNew _ _ rfl
      have ho5 := Lib.hid (ho'.out.stay hb5)
      have HB5 := Lib.hid (hb'.out.trans (hb5.mono hb'.out.size))
      have HwW : Hid (w.heap.size ≤ W5.heap.size) := HB5.out.size
      have hne5 : some w3.heap.size ≠ u6.ownBlock := fun e => by
        have := (World.ownsRow.lt ho'.out _ e.symm).2; omega
      have Hne5 := Lib.hid hne5; clear hne5
      clear hb5 hb' ho'
      subst hW5
      go_wp2_with (at_builtin; refine app3 elToken (by decide) rfl (.tmp 31) (.tmp 33) rfl w.heap.size _ xs _ _ _ _ (by simp) rfl rfl ho5.out (by omega) HwW.out ?_; intro v1 w6 h1 hg1; have k6 := blkGrow hg1 K5.out Hne5.out; obtain ⟨d0, d1, d2⟩ := blk3 k6)
      have hB6 : Hid (Below w.heap.size w w6) := HB5.out.grown hg1 HB5.out.size (fun k hk => (World.ownsRow.lt ho5.out k hk).1)
      go_roundw
      case rel => exact ⟨n, t, xs ++ [(p, (f : Int), (t : Int))], rfl, h2, by omega, by simp; omega, hB6, by rw [ht.out]; simp [Hid], h1⟩
      case measure => simp [intOf]; omega
end Go.Proofs.Ythdbgpdidolmaaa

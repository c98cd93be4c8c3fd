/- Replaced texts. Valid automata, valid texts and words. -/
import Derived.Test.YtcbhfopabgiiiaaTxa
set_option linter.unusedSimpArgs false
set_option linter.unusedVariables false
set_option linter.unusedSectionVars false
namespace Go.Proofs.Ytcbhfopabgiiiaa
open Go.RowKit
set_option maxRecDepth 100000
variable {S : Nat → Prop}

/-- Matches ascend, from a place on. -/
def asc (n : Nat) : Nat → List (Int × Int) → Prop
  | _, [] => True
  | a, (p, q) :: t => (a : Int) ≤ p ∧ p ≤ q ∧ q ≤ n ∧ asc n q.toNat t
theorem asc_mono {n : Nat} : ∀ {l : List (Int × Int)} {a b : Nat}, b ≤ a → asc n a l → asc n b l
  | [], _, _, _, _ => trivial
  | (p, q) :: t, a, b, hb, h => ⟨by have := h.1; omega, h.2.1, h.2.2.1, h.2.2.2⟩
theorem asc_alls (D : DfaD) (s : ByteArray) : ∀ n f, f ≤ s.size + 1 → s.size + 1 - f ≤ n → asc s.size f (alls D s f) ∧ (alls D s f).length + f ≤ s.size + 1 := by
  intro n
  induction n with
  | zero =>
    intro f hf h
    obtain rfl : f = s.size + 1 := by omega
    rw [alls_none hf (find_end D s)]
    exact ⟨trivial, by simp⟩
  | succ n ih =>
    intro f hf h
    rcases hfd : find D s f with _ | ⟨p, q⟩
    · rw [alls_none hf hfd]; exact ⟨trivial, by simpa using hf⟩
    · rw [alls_some hf hfd]
      have h1 := find_some _ f rfl hf hfd
      have h2 := nxt_bd hf hfd
      have h3 := ih (nxt (p, q)) h2.2 (by omega)
      refine ⟨⟨h1.1, h1.2.1, h1.2.2, asc_mono ?_ h3.1⟩, by simp; omega⟩
      unfold nxt; simp only; split <;> omega
/-- The text with the matches replaced, from a place on, behind what is there. -/
def rp (s x : ByteArray) : List (Int × Int) → Nat → ByteArray → ByteArray
  | [], a, o => o ++ s.extract a s.size
  | (p, q) :: t, a, o => rp s x t q.toNat (o ++ s.extract a p.toNat ++ x)
theorem asc_drop {n : Nat} : ∀ {l : List (Int × Int)} {a : Nat}, asc n a l → ∀ (h : 0 < l.length), (a : Int) ≤ l[0].1 ∧ l[0].1 ≤ l[0].2 ∧ l[0].2 ≤ n ∧ asc n l[0].2.toNat (l.drop 1)
  | (p, q) :: t, a, h, _ => h
theorem rp_step {s x : ByteArray} : ∀ {l : List (Int × Int)} {a : Nat} {o : ByteArray} (h : 0 < l.length), rp s x l a o = rp s x (l.drop 1) l[0].2.toNat (o ++ s.extract a l[0].1.toNat ++ x)
  | (p, q) :: t, a, o, _ => rfl
theorem extract_size_le (s : ByteArray) (a b : Nat) : (s.extract a b).size ≤ s.size := by simp [ByteArray.size_extract]; omega
open Classical in
/-- The answer of ReplaceAll. -/
noncomputable def repl (D : DfaD) (s x : ByteArray) : ByteArray := if okD D ∧ (letS s ∧ s.size ≤ 30) ∧ (letS x ∧ x.size ≤ 8) then rp s x (alls D s 0) 0 ByteArray.empty else ByteArray.empty
theorem repl_yes {D : DfaD} {s x : ByteArray} (h1 : okD D) (h2 : letS s ∧ s.size ≤ 30) (h3 : letS x ∧ x.size ≤ 8) : repl D s x = rp s x (alls D s 0) 0 ByteArray.empty := by unfold repl; rw [if_pos ⟨h1, h2, h3⟩]
theorem repl_no1 {D : DfaD} {s x : ByteArray} (h : ¬ okD D) : repl D s x = ByteArray.empty := by unfold repl; rw [if_neg fun hh => h hh.1]
theorem repl_no2 {D : DfaD} {s x : ByteArray} (h : ¬ (letS s ∧ s.size ≤ 30)) : repl D s x = ByteArray.empty := by unfold repl; rw [if_neg fun hh => h hh.2.1]
theorem repl_no3 {D : DfaD} {s x : ByteArray} (h : ¬ (letS x ∧ x.size ≤ 8)) : repl D s x = ByteArray.empty := by unfold repl; rw [if_neg fun hh => h hh.2.2]
set_option maxHeartbeats 1000000 in
theorem ReplaceAll_c (vn ve : Value) (D : DfaD) (s x : ByteArray) (w : World) (h : DfaR S w vn ve D) (hs : s.size ≤ maxLen) (hx : x.size ≤ maxLen) :
    Calls Try.prog 32 #[.agg #[vn, ve], .string s, .string x] w (RX w (.string (repl D s x))) := by
  obtain ⟨a, c, b, d, rfl, rfl, hn, hm⟩ := (h).shapes
  obtain ⟨W, hW⟩ : ∃ W, W = w.alloc (.cells #[.slice a D.1.length c, .slice b D.2.length d] 26) := ⟨_, rfl⟩
  have Hb0 : Hid (Below w.heap.size w W) := by rw [hW]; exact (Below.refl _ _).alloc (Nat.le_refl _) _
  have c0 : W.cell? ⟨w.heap.size, 0, none⟩ = some (.slice a D.1.length c) := by rw [hW, World.cell?_alloc_mark]; rfl
  have c1 : W.cell? ⟨w.heap.size, 1, none⟩ = some (.slice b D.2.length d) := by rw [hW, World.cell?_alloc_mark]; rfl
  have K0 : Hid (W.heap[w.heap.size]? = some (.cells #[.slice a D.1.length c, .slice b D.2.length d] 26 (0, 0))) := by rw [hW]; exact blkNew _ _ rfl
  have Hz : Hid (W.heap.size = w.heap.size + 1) := by rw [hW]; simp [Hid]
  have H := Lib.hid ((h).stay (kpB Hb0.out)); clear h
  have HW := Lib.hid hW; clear hW
  have hbs := Hb0.out.size
  go_enter Try.func32, Try.ntmps32
  go_wp2_with fail
  rw [← HW.out]
  refine (DfaValid_c _ _ D W H.out).mono ?_
  rintro e w1 ⟨b1, rfl, hb1, hv1⟩
  have hB := Hb0.out.trans (hb1.mono hbs)
  obtain ⟨d0, d1, _, _⟩ := blk2 (blkBel hb1 K0.out)
  cases b1
  · have hp := Lib.hid (hbF hv1); clear hv1
    go_wp2
    go_ret
    exact ⟨by rw [repl_no1 hp.out]; rfl, hB⟩
  have hp1 := Lib.hid (hbT hv1); clear hv1
  go_wp2_with fail
  refine (TextValid_c s _ hs).mono ?_
  rintro e w2 ⟨b2, rfl, rfl, hv2⟩
  cases b2
  · have hp := Lib.hid (hbF hv2); clear hv2
    go_wp2
    go_ret
    exact ⟨by rw [repl_no2 hp.out]; rfl, hB⟩
  have hp2 := Lib.hid (hbT hv2); clear hv2
  go_wp2_with fail
  refine (WordValid_c x _ hx).mono ?_
  rintro e w2 ⟨b2, rfl, rfl, hv2⟩
  cases b2
  · have hp := Lib.hid (hbF hv2); clear hv2
    go_wp2
    go_ret
    exact ⟨by rw [repl_no3 hp.out]; rfl, hB⟩
  have hp3 := Lib.hid (hbT hv2); clear hv2
  have hs30 : s.size ≤ 30 := hp2.out.2
  have hx8 : x.size ≤ 8 := hp3.out.2
  go_wp2_with fail
  refine (findAll_c _ _ D s _ (H.out.stay (kpB hb1)) hp1.out hp2.out).mono ?_
  rintro e w3 ⟨v, rfl, hb3, ho⟩
  have HR := Lib.hid ho.out.rd
  obtain ⟨av, cv, rfl, hlv⟩ := ho.out.shape
  clear ho
  have hB3 := hB.trans (hb3.mono hB.size)
  have hasc := asc_alls D s (s.size + 1) 0 (by omega) (by omega)
  obtain ⟨ms, hms⟩ : ∃ ms, ms = alls D s 0 := ⟨_, rfl⟩
  have Hms : Hid (repl D s x = rp s x ms 0 ByteArray.empty) := by rw [repl_yes hp1.out hp2.out hp3.out, hms]; rfl
  rw [← hms] at HR hlv hasc
  rw [← hms]
  have hml : ms.length ≤ 31 := by omega
  have Hasc := Lib.hid hasc.1
  clear hms hasc hb1 hb3 hB hlv d0 d1
  go_wp2_with fail
  go_loopw [7, 8, 28] (fun o a i wr => ∃ (k y : Nat) (z : ByteArray), k ≤ ms.length ∧ i = .int .i64 k ∧ a = .int .i64 y ∧ o = .string z ∧ y ≤ s.size ∧ z.size ≤ 100 * k ∧ Below w3.heap.size w3 wr ∧ Hid (asc s.size y (ms.drop k)) ∧ Hid (repl D s x = rp s x (ms.drop k) y z)) (fun _ _ i _ => ms.length - (intOf i).toNat)
  case atStart => exact ⟨0, 0, ByteArray.empty, by omega, rfl, rfl, rfl, by omega, by simp, Below.refl _ _, Hasc.out, Hms.out⟩
  case round =>
    obtain ⟨k, y, z, hk, rfl, rfl, rfl, hy, hz, hb, Ha, Hr⟩ := hrel
    by_cases hlt : k < ms.length
    · have hpos : 0 < (ms.drop k).length := by simp; omega
      have e0 : (ms.drop k)[0] = ms[k] := by simp
      have ha := asc_drop Ha.out hpos
      have hr := rp_step (s := s) (x := x) (a := y) (o := z) hpos
      rw [e0, List.drop_drop] at ha hr
      obtain ⟨bb, ob, rfl, hc0, hc1⟩ := (Pairs.stay HR.out (kpB hb)).at hlt
      obtain ⟨⟨p, q⟩, hpq⟩ : ∃ pq, pq = ms[k] := ⟨_, rfl⟩
      rw [← hpq] at ha hr hc0 hc1
      have Hpq := Lib.hid hpq; clear hpq
      obtain ⟨ha1, ha2, ha3, ha4⟩ := ha
      simp only at ha1 ha2 ha3 ha4 hr hc0 hc1
      obtain ⟨p, rfl⟩ : ∃ k : Nat, p = (k : Int) := ⟨p.toNat, by omega⟩
      obtain ⟨q, rfl⟩ : ∃ k : Nat, q = (k : Int) := ⟨q.toNat, by omega⟩
      rw [Int.toNat_natCast] at ha4 hr
      rw [Int.toNat_natCast] at hr
      rw [← Hr.out] at hr
      have Ha4 := Lib.hid ha4; clear ha4
      have Hr4 := Lib.hid hr; clear hr e0 hpos
      have hex := extract_size_le s y p
      go_wp2_with fail
      go_roundw
      case rel => exact ⟨k + 1, q, z ++ (s.extract y p ++ x), by omega, by go_num, rfl, rfl, by omega, by simp only [ByteArray.size_append]; omega, hb.alloc hb.size _, Ha4.out, by rw [← ByteArray.append_assoc]; exact Hr4.out⟩
      case measure => simp [intOf]; omega
    · obtain rfl : k = ms.length := by omega
      have hr : Hid (repl D s x = z ++ s.extract y s.size) := by rw [Hr.out, List.drop_length]; rfl
      have hex := extract_size_le s y s.size
      have hB4 := hB3.trans (hb.mono hB3.size)
      clear hb Hr
      go_wp2
      go_ret
      exact ⟨by rw [hr.out]; rfl, hB4⟩
set_option maxHeartbeats 1000000 in
theorem sReplaceAll_c (vn ve : Value) (D : DfaD) (s x : ByteArray) (w : World) (h : DfaR S w vn ve D) (hs : s.size ≤ maxLen) (hx : x.size ≤ maxLen) :
    Calls Try.prog 33 #[.agg #[vn, ve], .string s, .string x] w (RX w (.string (repl D s x))) := by
  obtain ⟨a, c, b, d, rfl, rfl, hn, hm⟩ := (h).shapes
  obtain ⟨W, hW⟩ : ∃ W, W = w.alloc (.cells #[.slice a D.1.length c, .slice b D.2.length d] 26) := ⟨_, rfl⟩
  have Hb0 : Hid (Below w.heap.size w W) := by rw [hW]; exact (Below.refl _ _).alloc (Nat.le_refl _) _
  have c0 : W.cell? ⟨w.heap.size, 0, none⟩ = some (.slice a D.1.length c) := by rw [hW, World.cell?_alloc_mark]; rfl
  have c1 : W.cell? ⟨w.heap.size, 1, none⟩ = some (.slice b D.2.length d) := by rw [hW, World.cell?_alloc_mark]; rfl
  have K0 : Hid (W.heap[w.heap.size]? = some (.cells #[.slice a D.1.length c, .slice b D.2.length d] 26 (0, 0))) := by rw [hW]; exact blkNew _ _ rfl
  have Hz : Hid (W.heap.size = w.heap.size + 1) := by rw [hW]; simp [Hid]
  have H := Lib.hid ((h).stay (kpB Hb0.out)); clear h
  have HW := Lib.hid hW; clear hW
  have hbs := Hb0.out.size
  go_enter Try.func33, Try.ntmps33
  go_wp2_with fail
  rw [← HW.out]
  refine (sDfaValid_c _ _ D W H.out).mono ?_
  rintro e w1 ⟨b1, rfl, hb1, hv1⟩
  have hB := Hb0.out.trans (hb1.mono hbs)
  obtain ⟨d0, d1, _, _⟩ := blk2 (blkBel hb1 K0.out)
  cases b1
  · have hp := Lib.hid (hbF hv1); clear hv1
    go_wp2
    go_ret
    exact ⟨by rw [repl_no1 hp.out]; rfl, hB⟩
  have hp1 := Lib.hid (hbT hv1); clear hv1
  go_wp2_with fail
  refine (sTextValid_c s _ hs).mono ?_
  rintro e w2 ⟨b2, rfl, rfl, hv2⟩
  cases b2
  · have hp := Lib.hid (hbF hv2); clear hv2
    go_wp2
    go_ret
    exact ⟨by rw [repl_no2 hp.out]; rfl, hB⟩
  have hp2 := Lib.hid (hbT hv2); clear hv2
  go_wp2_with fail
  refine (sWordValid_c x _ hx).mono ?_
  rintro e w2 ⟨b2, rfl, rfl, hv2⟩
  cases b2
  · have hp := Lib.hid (hbF hv2); clear hv2
    go_wp2
    go_ret
    exact ⟨by rw [repl_no3 hp.out]; rfl, hB⟩
  have hp3 := Lib.hid (hbT hv2); clear hv2
  have hs30 : s.size ≤ 30 := hp2.out.2
  have hx8 : x.size ≤ 8 := hp3.out.2
  go_wp2_with fail
  refine (sFindAll_yes _ _ D s _ (H.out.stay (kpB hb1)) hp1.out hp2.out).mono ?_
  rintro e w3 ⟨v, rfl, hb3, ho⟩
  have HR := Lib.hid ho.out.rd
  obtain ⟨av, cv, rfl, hlv⟩ := ho.out.shape
  clear ho
  have hB3 := hB.trans (hb3.mono hB.size)
  have hasc := asc_alls D s (s.size + 1) 0 (by omega) (by omega)
  obtain ⟨ms, hms⟩ : ∃ ms, ms = alls D s 0 := ⟨_, rfl⟩
  have Hms : Hid (repl D s x = rp s x ms 0 ByteArray.empty) := by rw [repl_yes hp1.out hp2.out hp3.out, hms]; rfl
  rw [← hms] at HR hlv hasc
  rw [← hms]
  have hml : ms.length ≤ 31 := by omega
  have Hasc := Lib.hid hasc.1
  clear hms hasc hb1 hb3 hB hlv d0 d1
  go_wp2_with fail
  go_loopw [7, 8, 10] (fun o a i wr => ∃ (k y : Nat) (z : ByteArray), k ≤ ms.length ∧ i = .int .i64 k ∧ a = .int .i64 y ∧ o = .string z ∧ y ≤ s.size ∧ z.size ≤ 100 * k ∧ Below w3.heap.size w3 wr ∧ Hid (asc s.size y (ms.drop k)) ∧ Hid (repl D s x = rp s x (ms.drop k) y z)) (fun _ _ i _ => ms.length - (intOf i).toNat)
  case atStart => exact ⟨0, 0, ByteArray.empty, by omega, rfl, rfl, rfl, by omega, by simp, Below.refl _ _, Hasc.out, Hms.out⟩
  case round =>
    obtain ⟨k, y, z, hk, rfl, rfl, rfl, hy, hz, hb, Ha, Hr⟩ := hrel
    by_cases hlt : k < ms.length
    · have hpos : 0 < (ms.drop k).length := by simp; omega
      have e0 : (ms.drop k)[0] = ms[k] := by simp
      have ha := asc_drop Ha.out hpos
      have hr := rp_step (s := s) (x := x) (a := y) (o := z) hpos
      rw [e0, List.drop_drop] at ha hr
      obtain ⟨bb, ob, rfl, hc0, hc1⟩ := (Pairs.stay HR.out (kpB hb)).at hlt
      obtain ⟨⟨p, q⟩, hpq⟩ : ∃ pq, pq = ms[k] := ⟨_, rfl⟩
      rw [← hpq] at ha hr hc0 hc1
      have Hpq := Lib.hid hpq; clear hpq
      obtain ⟨ha1, ha2, ha3, ha4⟩ := ha
      simp only at ha1 ha2 ha3 ha4 hr hc0 hc1
      obtain ⟨p, rfl⟩ : ∃ k : Nat, p = (k : Int) := ⟨p.toNat, by omega⟩
      obtain ⟨q, rfl⟩ : ∃ k : Nat, q = (k : Int) := ⟨q.toNat, by omega⟩
      rw [Int.toNat_natCast] at ha4 hr
      rw [Int.toNat_natCast] at hr
      rw [← Hr.out] at hr
      have Ha4 := Lib.hid ha4; clear ha4
      have Hr4 := Lib.hid hr; clear hr e0 hpos
      have hex := extract_size_le s y p
      go_wp2_with fail
      go_roundw
      case rel => exact ⟨k + 1, q, z ++ s.extract y p ++ x, by omega, by go_num, rfl, rfl, by omega, by simp only [ByteArray.size_append]; omega, hb, Ha4.out, Hr4.out⟩
      case measure => simp [intOf]; omega
    · obtain rfl : k = ms.length := by omega
      have hr : Hid (repl D s x = z ++ s.extract y s.size) := by rw [Hr.out, List.drop_length]; rfl
      have hex := extract_size_le s y s.size
      have hB4 := hB3.trans (hb.mono hB3.size)
      clear hb Hr
      go_wp2
      go_ret
      exact ⟨by rw [hr.out]; rfl, hB4⟩
end Go.Proofs.Ytcbhfopabgiiiaa

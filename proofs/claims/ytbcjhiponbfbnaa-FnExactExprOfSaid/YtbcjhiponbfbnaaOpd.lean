/- The operands of the last part of an expression: the program's lists. -/
import Derived.Deep.RegionHeld3
import Derived.Test.YtbcjhiponbfbnaaLpl
set_option linter.unusedSimpArgs false
set_option linter.unusedVariables false
set_option linter.unusedSectionVars false
namespace Go.Proofs.Ytbcjhiponbfbnaa
open Go.RowKit
set_option maxRecDepth 100000
variable {S T : Nat → Prop}
/-- A list of one expression. -/
def Opd1 (S : Nat → Prop) (base : Nat) (e : List (Int × Int)) (v : Value) (w : World) : Prop :=
  ∃ x, w.ownsRow base 23 1 v 1 [x] ∧ Pairs S w x e
/-- A list of two expressions. -/
def Opd2 (S : Nat → Prop) (base : Nat) (e f : List (Int × Int)) (v : Value) (w : World) : Prop :=
  ∃ x y, w.ownsRow base 23 1 v 2 [x, y] ∧ Pairs S w x e ∧ Pairs S w y f
theorem Opd1.stay {base : Nat} {e : List (Int × Int)} {v : Value} {w w' : World} (h : Opd1 S base e v w) (k : Below w.heap.size w w') : Opd1 S base e v w' := let ⟨x, a, b⟩ := h; ⟨x, ownStay a k, b.stay (kpB k)⟩
theorem Opd2.stay {base : Nat} {e f : List (Int × Int)} {v : Value} {w w' : World} (h : Opd2 S base e f v w) (k : Below w.heap.size w w') : Opd2 S base e f v w' := let ⟨x, y, a, b, c⟩ := h; ⟨x, y, ownStay a k, b.stay (kpB k), c.stay (kpB k)⟩
theorem Opd1.at {base : Nat} {e : List (Int × Int)} {v : Value} {w : World} (h : Opd1 S base e v w) : ∃ b c ad cap, v = .slice (some ⟨b, 0, none⟩) 1 c ∧ base ≤ b ∧ b < w.heap.size ∧ w.cell? ⟨b, 0, none⟩ = some (.slice ad e.length cap) ∧ w.frozen? ⟨b, 0, none⟩ = false ∧ Pairs S w (.slice ad e.length cap) e := by
  obtain ⟨x, h, hx⟩ := h
  obtain ⟨ad, cap, rfl, _⟩ := hx.shape
  rcases h.2 with ⟨h1, h2⟩ | ⟨g, c, cur, rfl, hb, hh, hc, _⟩
  · omega
  · have hf := ownAt h
    obtain ⟨b, off, e, _, k, f⟩ := hf.at (i := 0) (by simp)
    cases e
    exact ⟨_, _, _, _, rfl, hb, (Array.getElem?_eq_some_iff.1 hh).1, k, f 0, hx⟩
theorem Opd2.at {base : Nat} {e f : List (Int × Int)} {v : Value} {w : World} (h : Opd2 S base e f v w) : ∃ b c ad cap ad2 cap2, v = .slice (some ⟨b, 0, none⟩) 2 c ∧ base ≤ b ∧ b < w.heap.size ∧ w.cell? ⟨b, 0, none⟩ = some (.slice ad e.length cap) ∧ w.cell? ⟨b, 1, none⟩ = some (.slice ad2 f.length cap2) ∧ Pairs S w (.slice ad e.length cap) e ∧ Pairs S w (.slice ad2 f.length cap2) f := by
  obtain ⟨x, y, h, hx, hy⟩ := h
  obtain ⟨ad, cap, rfl, _⟩ := hx.shape
  obtain ⟨ad2, cap2, rfl, _⟩ := hy.shape
  rcases h.2 with ⟨h1, h2⟩ | ⟨g, c, cur, rfl, hb, hh, hc, _⟩
  · omega
  · have hf := ownAt h
    obtain ⟨b, off, e, _, k, f⟩ := hf.at (i := 0) (by simp)
    cases e
    obtain ⟨b, off, e, _, k2, f⟩ := hf.at (i := 1) (by simp)
    cases e
    exact ⟨_, _, _, _, _, _, rfl, hb, (Array.getElem?_eq_some_iff.1 hh).1, k, k2, hx, hy⟩
theorem parse_snoc1 {a : Re} (ha : a.wf) {x y : Int} (hp : pOk x y) (h1 : pNeeds x = 1) : ∃ s, parse (a.flat ++ [(x, y)]) = some s := by
  rw [parse_snoc, parse_flat ha]
  exact push_ok hp (by rw [h1]; exact Nat.le_refl _)
theorem parse_two {a b : Re} (ha : a.wf) (hb : b.wf) : parse (a.flat ++ b.flat) = some [b, a] := by
  have := push_flat b hb [a]
  unfold parse
  rw [List.foldl_append]
  have h := parse_flat ha
  unfold parse at h
  rw [h]; exact this
theorem parse_snoc2 {a b : Re} (ha : a.wf) (hb : b.wf) {x y : Int} (hp : pOk x y) (h1 : pNeeds x = 2) : ∃ s, parse (a.flat ++ b.flat ++ [(x, y)]) = some s := by
  rw [parse_snoc, parse_two ha hb]
  exact push_ok hp (by rw [h1]; exact Nat.le_refl _)
theorem outs_mid {a b : Re} (ha : a.wf) (hb : b.wf) {p : Int × Int} {k : Nat} (hk : k + 1 = a.flat.length + b.flat.length) : outs (a.flat ++ b.flat ++ [p]) k = (a.flat.length : Int) := by
  unfold outs
  rw [List.take_append_of_le_length (by simp; omega), List.take_of_length_le (by simp; omega), parse_two ha hb]
  simp [topAt, flats]
theorem pairsSubB {w : World} {b off n m cap c : Nat} {pre mid rest : List (Int × Int)} (h : Pairs S w (.slice (some ⟨b, off, none⟩) n cap) (pre ++ mid ++ rest)) (hm : m = mid.length) (hc : m ≤ c) (hl : (pre ++ mid ++ rest).length ≤ 1000000) :
    Pairs S w (.slice (some ⟨b, off + pre.length * 2, none⟩) m c) mid := by
  obtain ⟨a, cp, e, hh, hcell⟩ := h
  cases e
  subst hm
  refine ⟨_, _, rfl, ⟨by unfold maxLen; simp at hl; omega, hc, nofun⟩, fun i hi => ?_⟩
  have hi2 : i < 2 * mid.length := by rw [length_cells2] at hi; exact hi
  obtain ⟨b', off', e, hs, hv⟩ := hcell (pre.length * 2 + i) (by rw [length_cells2]; simp; omega)
  cases e
  refine ⟨b, _, rfl, hs, ?_⟩
  rw [Nat.add_assoc, hv]
  congr 1
  have e1 : cells2 (pre ++ mid ++ rest) = cells2 pre ++ (cells2 mid ++ cells2 rest) := by simp [cells2]
  simp only [e1]
  rw [List.getElem_append_right (by rw [length_cells2]; omega)]
  rw [List.getElem_append_left (by rw [length_cells2, length_cells2]; omega)]
  congr 1
  rw [length_cells2]; omega
set_option maxHeartbeats 800000 in
theorem operands0_c (v : Value) (x y : Int) (w : World) (h : Pairs S w v [(x, y)]) (hp : pOk x y) (h0 : pNeeds x = 0) : Calls Try.prog 100 #[v] w (RO w (.slice none 0 0)) := by
  obtain ⟨a, cap, rfl, _⟩ := h.shape
  have H := Lib.hid h; clear h
  have HP := Lib.hid hp; clear hp
  have H0 := Lib.hid h0; clear h0
  go_enter Try.func100, Try.ntmps100
  go_wp2_with fail
  refine (starts_c _ [(x, y)] w H.out (by simp)).mono ?_
  rintro e w1 ⟨v, rfl, hb, hs⟩
  obtain ⟨vo, ok, rfl, _, _⟩ := hs.out
  clear hs
  obtain ⟨b, off, rfl, c0, c1⟩ := (H.out.stay (kpB hb)).at (k := 0) (by simp)
  simp at c0 c1
  go_wp2_with fail
  refine (needs_c x y _).mono ?_
  rintro e w2 ⟨m, rfl, hb2, hm⟩
  obtain ⟨hm1, _, _⟩ := hm.out
  rw [H0.out] at hm1
  subst hm1
  have hB := hb.trans (hb2.mono hb.size)
  clear hb2 hm hb c0 c1
  go_wp2
  go_ret
  exact ⟨rfl, hB⟩
set_option maxHeartbeats 1600000 in
theorem operands1_c (v : Value) (t : Re) (x y : Int) (w : World) (ht : t.wf) (h : Pairs S w v (t.flat ++ [(x, y)])) (hp : pOk x y) (h0 : pNeeds x = 1) (hl : t.flat.length ≤ 9999) : Calls Try.prog 100 #[v] w (RVn w (Opd1 S w.heap.size t.flat)) := by
  obtain ⟨a, cap, rfl, _⟩ := h.shape
  have hcap := Fl.cap h
  rw [List.length_append, List.length_singleton] at hcap
  have HA : Hid (Pairs S w (.slice a (t.flat ++ [(x, y)]).length cap) (t.flat ++ [(x, y)])) := h
  obtain ⟨b, off, rfl, _, _⟩ := h.at (k := t.flat.length) (by simp)
  have HC : Hid (∀ w', Below w.heap.size w w' → w'.cell? ⟨b, off + t.flat.length * 2, none⟩ = some (.int .i64 x) ∧ w'.cell? ⟨b, off + t.flat.length * 2 + 1, none⟩ = some (.int .i64 y)) := fun w' hb => by
    obtain ⟨b', off', e, c0, c1⟩ := (h.stay (kpB hb)).at (k := t.flat.length) (by simp)
    cases e
    simp at c0 c1
    exact ⟨c0, c1⟩
  have hsub : Pairs S w (.slice (some ⟨b, off, none⟩) t.flat.length cap) t.flat := by
    have := pairsSubB (pre := []) (mid := t.flat) (rest := [(x, y)]) (m := t.flat.length) (c := cap) (by simpa using h) rfl (by omega) (by simp; omega)
    simpa using this
  have HS := Lib.hid hsub; clear hsub h
  have HP := Lib.hid hp; clear hp
  have H0 := Lib.hid h0; clear h0
  have hf := t.flat_pos
  have HLen : Hid ((t.flat ++ [(x, y)]).length ≤ 10000) := Lib.hid (by simp; omega)
  obtain ⟨E, hE⟩ : ∃ E, E = t.flat ++ [(x, y)] := ⟨_, rfl⟩
  rw [← hE] at HA HLen
  obtain ⟨n, hn⟩ : ∃ n, n = t.flat.length := ⟨_, rfl⟩
  have hEl : (t.flat ++ [(x, y)]).length = n + 1 := by rw [hn]; simp
  rw [hEl]
  rw [show E.length = n + 1 from by rw [hE]; exact hEl] at HA
  rw [← hn] at hcap hl hf HC
  have Hn := Lib.hid hn; clear hn hEl
  have HE := Lib.hid hE; clear hE
  have hcne : ¬ cap = 0 := by omega
  have hn0 : (0 : Int) ≤ (n : Int) := by omega
  have hn1 : (n : Int) ≤ (cap : Int) := by omega
  go_enter Try.func100, Try.ntmps100
  go_wp2_with fail
  refine (starts_c _ E w HA.out HLen.out).mono ?_
  rintro e w1 ⟨v, rfl, hb, hs⟩
  obtain ⟨vo, ok, rfl, _, _⟩ := hs.out
  clear hs
  obtain ⟨c0, c1⟩ := HC.out w1 hb
  go_wp2_with fail
  refine (needs_c x y _).mono ?_
  rintro e w2 ⟨m, rfl, hb2, hm⟩
  obtain ⟨hm1, _, _⟩ := hm.out
  rw [H0.out] at hm1
  subst hm1
  have hB := hb.trans (hb2.mono hb.size)
  clear hb2 hm hb c0 c1
  have hbs := hB.size
  obtain ⟨w3, hw3⟩ : ∃ z, z = w2.alloc (.cells #[.slice (some ⟨b, off, none⟩) n cap] 23) := ⟨_, rfl⟩
  have HR : Hid (RVn w (Opd1 S w.heap.size t.flat) (.returned (.slice (some ⟨w2.heap.size, 0, none⟩) 1 1)) w3) := by
    rw [hw3]
    refine RVn.mk (hB.alloc hbs _) ⟨.slice (some ⟨b, off, none⟩) n cap, ?_, ?_⟩
    · exact ownLit (n := 1) [_] hbs (by omega) rfl
    · have := (HS.out.stay (kpB hB)).stay (kpAlloc (o := .cells #[.slice (some ⟨b, off, none⟩) n cap] 23))
      rw [← Hn.out] at this
      exact this
  have HW3 := Lib.hid hw3; clear hw3
  go_wp2
  rw [← HW3.out]
  go_ret
  exact HR.out
set_option maxHeartbeats 2000000 in
theorem operands2_c (v : Value) (t u : Re) (x y : Int) (w : World) (ht : t.wf) (hu : u.wf) (h : Pairs S w v (t.flat ++ u.flat ++ [(x, y)])) (hp : pOk x y) (h0 : pNeeds x = 2) (hl : (t.flat ++ u.flat).length ≤ 9999) : Calls Try.prog 100 #[v] w (RVn w (Opd2 S w.heap.size t.flat u.flat)) := by
  obtain ⟨a, cap, rfl, _⟩ := h.shape
  have hcap := Fl.cap h
  have HA : Hid (Pairs S w (.slice a (t.flat ++ u.flat ++ [(x, y)]).length cap) (t.flat ++ u.flat ++ [(x, y)])) := h
  obtain ⟨b, off, rfl, _, _⟩ := h.at (k := t.flat.length + u.flat.length) (by simp)
  have hlast : (t.flat ++ u.flat ++ [(x, y)])[t.flat.length + u.flat.length]'(by simp) = (x, y) := by
    rw [List.getElem_append_right (by simp)]; simp
  have HC : Hid (∀ w', Below w.heap.size w w' → w'.cell? ⟨b, off + (t.flat.length + u.flat.length) * 2, none⟩ = some (.int .i64 x) ∧ w'.cell? ⟨b, off + (t.flat.length + u.flat.length) * 2 + 1, none⟩ = some (.int .i64 y)) := fun w' hb => by
    obtain ⟨b', off', e, c0, c1⟩ := (h.stay (kpB hb)).at (k := t.flat.length + u.flat.length) (by simp)
    cases e
    rw [hlast] at c0 c1
    exact ⟨c0, c1⟩
  have hs1 : Pairs S w (.slice (some ⟨b, off, none⟩) t.flat.length cap) t.flat := by
    have := pairsSubB (pre := []) (mid := t.flat) (rest := u.flat ++ [(x, y)]) (m := t.flat.length) (c := cap) (by simpa using h) rfl (by simp at hcap; omega) (by simp at hl ⊢; omega)
    simpa using this
  have hs2 : ∀ c, u.flat.length ≤ c → Pairs S w (.slice (some ⟨b, off + t.flat.length * 2, none⟩) u.flat.length c) u.flat := fun c hc =>
    pairsSubB (pre := t.flat) (mid := u.flat) (rest := [(x, y)]) (m := u.flat.length) (c := c) h rfl hc (by simp at hl ⊢; omega)
  have HS1 := Lib.hid hs1; have HS2 := Lib.hid hs2; have HT := Lib.hid ht; have HU := Lib.hid hu
  clear hs1 hs2 h hlast ht hu
  have HPA := Lib.hid (parse_snoc2 HT.out HU.out hp h0)
  have HOM : Hid (∀ k, k + 1 = t.flat.length + u.flat.length → outs (t.flat ++ u.flat ++ [(x, y)]) k = (t.flat.length : Int)) := fun k hk => outs_mid HT.out HU.out hk
  have HP := Lib.hid hp; clear hp
  have H0 := Lib.hid h0; clear h0
  have hg := u.flat_pos
  have hf := t.flat_pos
  have hlen : (t.flat ++ u.flat ++ [(x, y)]).length = t.flat.length + u.flat.length + 1 := by simp; omega
  have hl2 : t.flat.length + u.flat.length ≤ 9999 := by simpa using hl
  have HL : Hid ((t.flat ++ u.flat ++ [(x, y)]).length ≤ 10000) := Lib.hid (by rw [hlen]; omega)
  have HLN : Hid ((t.flat ++ u.flat ++ [(x, y)]).length = t.flat.length + u.flat.length + 1) := Lib.hid hlen
  rw [hlen] at hcap ⊢
  rw [hlen] at HA
  obtain ⟨E, hE⟩ : ∃ E, E = t.flat ++ u.flat ++ [(x, y)] := ⟨_, rfl⟩
  rw [← hE] at HA HL HPA HOM HLN
  clear hE
  obtain ⟨n, hn⟩ : ∃ n, n = t.flat.length := ⟨_, rfl⟩
  obtain ⟨m, hm⟩ : ∃ m, m = u.flat.length := ⟨_, rfl⟩
  have Hn := Lib.hid hn; have Hm := Lib.hid hm
  rw [← hn] at hcap hl2 hf HS1 HS2 HA HC HOM HLN ⊢
  rw [← hm] at hcap hl2 hg HS2 HA HC HOM HLN ⊢
  clear hn hm hlen hl
  obtain ⟨N, hN⟩ : ∃ N, n + m = N := ⟨_, rfl⟩
  rw [hN] at hcap hl2 HA HC HOM HLN ⊢
  have hmN : Hid (N - n = m) := Lib.hid (by omega)
  have hnN : n < N := by omega
  have HN := Lib.hid hN; clear hN
  have hcne : ¬ cap = 0 := by omega
  have hcne2 : ¬ cap = n := by omega
  have hn0 : (0 : Int) ≤ (n : Int) := by omega
  have hn1 : (n : Int) ≤ (cap : Int) := by omega
  have hn2 : (n : Int) ≤ (N : Int) := by omega
  have hn3 : (N : Int) ≤ (cap : Int) := by omega
  have hn4 : (1 : Int) ≤ (N : Int) := by omega
  go_enter Try.func100, Try.ntmps100
  go_wp2_with fail
  refine (starts_c _ E w HA.out HL.out).mono ?_
  rintro e w1 ⟨v, rfl, hb, hs⟩
  obtain ⟨vo, ok, rfl, _, hs2⟩ := hs.out
  obtain ⟨s, hs3⟩ := HPA.out
  have hI := hs2 s hs3
  have HI := Lib.hid hI
  have HLr := Lib.hid (show ((List.range E.length).map (outs E)).length = N + 1 from by rw [List.length_map, List.length_range]; exact HLN.out)
  obtain ⟨ao, co, rfl, _⟩ := hI.shape
  rw [List.length_map, List.length_range, HLN.out] at HI
  clear hs hs2 hs3 hI
  obtain ⟨c0, c1⟩ := HC.out w1 hb
  rw [List.length_map, List.length_range, HLN.out]
  go_wp2_with fail
  refine (needs_c x y _).mono ?_
  rintro e w2 ⟨q, rfl, hb2, hm⟩
  obtain ⟨hm1, _, _⟩ := hm.out
  rw [H0.out] at hm1
  subst hm1
  have hB := hb.trans (hb2.mono hb.size)
  replace HI := Lib.hid (HI.out.stay (kpB hb2))
  clear hb2 hm hb c0 c1
  obtain ⟨N', hN'⟩ : ∃ N', N = N' + 1 := ⟨N - 1, by omega⟩
  obtain ⟨bo, oo, e1, k1⟩ := HI.out.at (k := N') (by rw [List.length_map, List.length_range]; omega)
  subst e1
  simp only [List.getElem_map, List.getElem_range] at k1
  rw [HOM.out N' (by omega)] at k1
  subst hN'
  have hbs := hB.size
  go_wp2_with fail
  have HR : Hid (RVn w (Opd2 S w.heap.size t.flat u.flat) (.returned (.slice (some ⟨w2.heap.size, 0, none⟩) 2 2)) (w2.alloc (.cells #[.slice (some ⟨b, off, none⟩) n cap, .slice (some ⟨b, off + n * 2, none⟩) (N' + 1 - n) (cap - n)] 23)).drew) := by
    have hB3 := (hB.alloc hbs (.cells #[.slice (some ⟨b, off, none⟩) n cap, .slice (some ⟨b, off + n * 2, none⟩) (N' + 1 - n) (cap - n)] 23)).drew
    refine RVn.mk hB3 ⟨.slice (some ⟨b, off, none⟩) n cap, .slice (some ⟨b, off + n * 2, none⟩) (N' + 1 - n) (cap - n), ?_, ?_, ?_⟩
    · exact ownStay (ownLit (n := 2) [_, _] hbs (by omega) rfl) (Below.refl _ _).drew
    · have := HS1.out.stay (kpB hB3)
      exact this
    · have := (HS2.out (cap - n) (by have := hmN.out; omega)).stay (kpB hB3)
      rw [← hmN.out] at this
      exact this
  go_region
  go_wp2
  go_ret
  exact HR.out
end Go.Proofs.Ytbcjhiponbfbnaa

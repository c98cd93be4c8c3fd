/- Whether the empty word is in the language: the program's answer. -/
import Derived.Deep.RegionLaw
import Derived.Deep.RegionHeld3
import Derived.Test.YtbcjhiponbfbnaaEmp
import Derived.Test.YtbcjhiponbfbnaaLpl
import Derived.Test.YtbcjhiponbfbnaaGF
set_option linter.unusedSimpArgs false
set_option linter.unusedVariables false
set_option linter.unusedSectionVars false
namespace Go.Proofs.Ytbcjhiponbfbnaa
open Go.RowKit
set_option maxRecDepth 100000
variable {S T : Nat → Prop}
/-- Whether the empty word is in each language, the first one first. -/
def nuls : List Re → List Bool
  | [] => []
  | t :: s => nuls s ++ [t.nul]
theorem nuls_len (s : List Re) : (nuls s).length = s.length := by induction s with
  | nil => rfl
  | cons t s ih => simp [nuls, ih]
theorem set_last {α : Type} (xs : List α) (x y : α) : (xs ++ [x]).set xs.length y = xs ++ [y] := by simp
theorem two0 (m : List Bool) (a b : Bool) (h : m.length < (m ++ [a, b]).length) : (m ++ [a, b])[m.length] = a := by simp
theorem two1 (m : List Bool) (a b : Bool) (h : m.length + 1 < (m ++ [a, b]).length) : (m ++ [a, b])[m.length + 1] = b := by simp
theorem map_snoc {α β : Type} (f : α → β) (xs : List α) (x : α) : (xs ++ [x]).map f = xs.map f ++ [f x] := by simp
/-- The next state of the stack. -/
theorem push_nuls {s s' : List Re} {x y : Int} (h : push (some s) (x, y) = some s') :
    (x = 1 ∧ nuls s' = nuls s ++ [false]) ∨ (x = 3 ∧ nuls s' = nuls s ++ [false]) ∨ (x = 2 ∧ nuls s' = nuls s ++ [true]) ∨
    (x = 7 ∧ ∃ (m : List Bool) (a : Bool), nuls s = m ++ [a] ∧ nuls s' = m ++ [!a]) ∨ (x = 8 ∧ ∃ (m : List Bool) (a : Bool), nuls s = m ++ [a] ∧ nuls s' = m ++ [true]) ∨
    (x = 5 ∧ ∃ (m : List Bool) (a b : Bool), nuls s = m ++ [a, b] ∧ nuls s' = m ++ [a || b]) ∨
    (x = 4 ∧ ∃ (m : List Bool) (a b : Bool), nuls s = m ++ [a, b] ∧ nuls s' = m ++ [a && b]) ∨
    (x = 6 ∧ ∃ (m : List Bool) (a b : Bool), nuls s = m ++ [a, b] ∧ nuls s' = m ++ [a && b]) := by
  obtain ⟨hok, h⟩ := push_some h
  rcases pNeeds_cases x y hok with ⟨rfl, _⟩ | ⟨rfl, _⟩ | ⟨rfl, _⟩ | ⟨rfl, _⟩ | ⟨rfl, _⟩ | ⟨rfl, _⟩ | ⟨rfl, _⟩ | ⟨rfl, _⟩
  all_goals
    rcases h with ⟨h0, h⟩ | ⟨h0, h⟩ | ⟨h0, h⟩
    all_goals first | (exfalso; simp [pNeeds] at h0; done) | skip
  · obtain ⟨rfl, _⟩ := h
    exact .inl ⟨rfl, rfl⟩
  · obtain ⟨rfl, _⟩ := h
    exact .inr (.inr (.inl ⟨rfl, rfl⟩))
  · obtain ⟨rfl, _⟩ := h
    exact .inr (.inl ⟨rfl, rfl⟩)
  · obtain ⟨a, b, r, rfl, rfl, _⟩ := h
    exact .inr (.inr (.inr (.inr (.inr (.inr (.inl ⟨rfl, nuls r, a.nul, b.nul, by simp [nuls], rfl⟩))))))
  · obtain ⟨a, b, r, rfl, rfl, _⟩ := h
    exact .inr (.inr (.inr (.inr (.inr (.inl ⟨rfl, nuls r, a.nul, b.nul, by simp [nuls], rfl⟩)))))
  · obtain ⟨a, b, r, rfl, rfl, _⟩ := h
    exact .inr (.inr (.inr (.inr (.inr (.inr (.inr ⟨rfl, nuls r, a.nul, b.nul, by simp [nuls], rfl⟩))))))
  · obtain ⟨a, r, rfl, rfl, _⟩ := h
    exact .inr (.inr (.inr (.inl ⟨rfl, nuls r, a.nul, rfl, rfl⟩)))
  · obtain ⟨a, r, rfl, rfl, _⟩ := h
    exact .inr (.inr (.inr (.inr (.inl ⟨rfl, nuls r, a.nul, rfl, rfl⟩))))
theorem ownB_set {w : World} {base g n cap : Nat} {xs : List Bool} (h : OwnB w base (.slice (some ⟨g, 0, none⟩) n cap) xs) (hn : n = xs.length) (i : Nat) (b : Bool) : OwnB (w.setCell ⟨g, i, none⟩ (.bool b)) base (.slice (some ⟨g, 0, none⟩) n cap) (xs.set i b) := by
  subst hn
  have := ownSetIn h i (.bool b)
  unfold OwnB
  rw [List.length_set, List.map_set]
  exact this
theorem OwnB.take {w : World} {base m : Nat} {a : Option Addr} {n cap : Nat} {xs : List Bool} (h : OwnB w base (.slice a n cap) xs) (hn : n = xs.length) (hm : m ≤ xs.length) : OwnB w base (.slice a m cap) (xs.take m) := by
  subst hn
  have := ownTake h hm
  unfold OwnB
  rw [List.length_take, Nat.min_eq_left hm, List.map_take]
  simpa using this
theorem OwnB.blk {w : World} {base : Nat} {v : Value} {xs : List Bool} (h : OwnB w base v xs) (hn : 0 < xs.length) : ∃ g cap, v = .slice (some ⟨g, 0, none⟩) xs.length cap ∧ base ≤ g ∧ g < w.heap.size ∧ xs.length ≤ cap := by
  have hr := h.rd
  obtain ⟨hl, ⟨h1, h2⟩ | ⟨g, cap, cur, hv, hb, hh, hc, _⟩⟩ := h
  · omega
  · exact ⟨g, cap, hv, hb, (Array.getElem?_eq_some_iff.1 hh).1, hc⟩

set_option maxHeartbeats 4000000 in
theorem hasEmpty_c (t : Re) (ht : t.wf) (hl : t.flat.length ≤ 60) (v : Value) (w : World) (h : Pairs S w v t.flat) : Calls Try.prog 48 #[v] w (RO w (.bool t.nul)) := by
  obtain ⟨e, he⟩ : ∃ e, e = t.flat := ⟨_, rfl⟩
  have hpe := parse_flat ht
  rw [← he] at hl h hpe
  clear he
  obtain ⟨a, cap, rfl, _⟩ := h.shape
  have H := Lib.hid h; clear h
  have HE := Lib.hid hpe; clear hpe
  go_enter Try.func48, Try.ntmps48
  go_wp2
  go_loopw [3, 9] (fun v i wr => ∃ (k : Nat) (s : List Re), k ≤ e.length ∧ i = .int .i64 k ∧ Hid (Below w.heap.size w wr) ∧ Hid (parse (e.take k) = some s) ∧ Hid (OwnB wr w.heap.size v (nuls s))) (fun _ i _ => e.length - (intOf i).toNat)
  case atStart => exact ⟨0, [], by omega, rfl, Below.refl _ _, rfl, OwnB.nil _ _⟩
  case round =>
    obtain ⟨k, s, hk, rfl, hb, hp, ho⟩ := hrel
    by_cases hlt : k < e.length
    · obtain ⟨b, off, rfl, c0, c1⟩ := (H.out.stay (kpB hb.out)).at hlt
      have htp := take_parse e k hlt
      obtain ⟨x, y, hxy⟩ : ∃ x y, e[k] = (x, y) := ⟨_, _, rfl⟩
      rw [hxy] at c0 c1 htp
      rw [hp.out] at htp
      clear hxy
      cases hs' : push (some s) (x, y) with
      | none => exact absurd HE.out (by rw [noParse (by rw [htp, hs'])]; nofun)
      | some s' =>
      rw [hs'] at htp
      have Hp' := Lib.hid htp; clear htp
      have hsl : s.length ≤ k := by have := len_flats s; rw [parse_flats hp.out, List.length_take] at this; omega
      have hnl := nuls_len s
      have hB1 : Below wr.heap.size wr (wr.alloc (.cells #[.int .i64 x, .int .i64 y] 67)) := (Below.refl _ _).alloc (Nat.le_refl _) _
      have HO1 := Lib.hid (ho.out.stay hB1)
      have hbs := hb.out.size
      have HB1 := Lib.hid (hb.out.trans (hB1.mono hbs))
      obtain ⟨w2, hw2⟩ : ∃ z, z = wr.alloc (.cells #[.int .i64 x, .int .i64 y] 67) := ⟨_, rfl⟩
      have K0 : Hid (w2.heap[wr.heap.size]? = some (.cells #[.int .i64 x, .int .i64 y] 67 (0, 0))) := by rw [hw2]; exact blkNew _ _ rfl
      rw [← hw2] at HO1 HB1
      have hbs2 := HB1.out.size
      have hz2 : w2.heap.size = wr.heap.size + 1 := by rw [hw2]; simp
      have HZ2 := Lib.hid hz2
      have HW2 := Lib.hid hw2; clear hw2 hB1 ho hb hz2
      have HPN := Lib.hid (push_nuls hs'); clear hs'
      obtain ⟨d0, d1, _, _⟩ := blk2 K0.out
      rcases HPN.out with ⟨rfl, hn⟩ | ⟨rfl, hn⟩ | ⟨rfl, hn⟩ | ⟨rfl, m, q, hm, hn⟩ | ⟨rfl, m, q, hm, hn⟩ | ⟨rfl, m, q1, q2, hm, hn⟩ | ⟨rfl, m, q1, q2, hm, hn⟩ | ⟨rfl, m, q1, q2, hm, hn⟩
      · have Hn := Lib.hid hn; clear hn HPN
        have hel := Lib.hid (show (nuls s).length ≤ 1000000000 from by rw [hnl]; omega)
        obtain ⟨aS, cS, hv, _⟩ := HO1.out.shape
        rw [hnl] at hv
        subst hv
        have Hnl := Lib.hid hnl; clear hnl hsl
        go_wp2_with (at_builtin; rw [← HW2.out]; refine appBool rfl (.tmp 38) (.tmp 39) rfl w.heap.size _ (nuls s) false w2 rfl (by rw [HW2.out, World.size_alloc]; rfl) HO1.out hel.out hbs2 ?_; intro v1 w6 h6 hg6)
        go_roundw
        case rel => exact ⟨k + 1, s', by omega, by go_num, HB1.out.grown hg6 hbs2 (fun k hk => (World.ownsRow.lt HO1.out k hk).1), Hp', by rw [Hn.out]; exact h6.out⟩
        case measure => simp [intOf]; omega
      · have Hn := Lib.hid hn; clear hn HPN
        have hel := Lib.hid (show (nuls s).length ≤ 1000000000 from by rw [hnl]; omega)
        obtain ⟨aS, cS, hv, _⟩ := HO1.out.shape
        rw [hnl] at hv
        subst hv
        have Hnl := Lib.hid hnl; clear hnl hsl
        go_wp2_with (at_builtin; rw [← HW2.out]; refine appBool rfl (.tmp 38) (.tmp 39) rfl w.heap.size _ (nuls s) false w2 rfl (by rw [HW2.out, World.size_alloc]; rfl) HO1.out hel.out hbs2 ?_; intro v1 w6 h6 hg6)
        go_roundw
        case rel => exact ⟨k + 1, s', by omega, by go_num, HB1.out.grown hg6 hbs2 (fun k hk => (World.ownsRow.lt HO1.out k hk).1), Hp', by rw [Hn.out]; exact h6.out⟩
        case measure => simp [intOf]; omega
      · have Hn := Lib.hid hn; clear hn HPN
        have hel := Lib.hid (show (nuls s).length ≤ 1000000000 from by rw [hnl]; omega)
        obtain ⟨aS, cS, hv, _⟩ := HO1.out.shape
        rw [hnl] at hv
        subst hv
        have Hnl := Lib.hid hnl; clear hnl hsl
        go_wp2_with (at_builtin; rw [← HW2.out]; refine appBool rfl (.tmp 43) (.tmp 44) rfl w.heap.size _ (nuls s) true w2 rfl (by rw [HW2.out, World.size_alloc]; rfl) HO1.out hel.out hbs2 ?_; intro v1 w6 h6 hg6)
        go_roundw
        case rel => exact ⟨k + 1, s', by omega, by go_num, HB1.out.grown hg6 hbs2 (fun k hk => (World.ownsRow.lt HO1.out k hk).1), Hp', by rw [Hn.out]; exact h6.out⟩
        case measure => simp [intOf]; omega
      · have Hn := Lib.hid hn; have Hm := Lib.hid hm; clear hn HPN
        rw [hm] at HO1
        have hml : s.length = m.length + 1 := by rw [← hnl, hm]; simp
        have Hml := Lib.hid hml
        clear hm hnl
        obtain ⟨g, cS, hv, hg0, hg1, hcS⟩ := HO1.out.blk (by simp)
        rw [List.length_append, List.length_singleton] at hv hcS
        subst hv
        have hc := ownCell (show w2.ownsRow w.heap.size 4 1 (.slice (some ⟨g, 0, none⟩) (m.length + 1) cS) (m.length + 1) ((m ++ [q]).map .bool) from by have := HO1.out; unfold OwnB at this; rw [List.length_append] at this; exact this) (i := m.length) (by simp)
        obtain ⟨hc, hf⟩ := hc
        simp only [List.getElem_map, List.getElem_concat_length] at hc
        obtain ⟨n, hnm⟩ : ∃ n, n = m.length := ⟨_, rfl⟩
        rw [← hnm] at hc hf hcS ⊢
        have hn60 : n ≤ 60 := by omega
        have hsz : s.length = n + 1 := by omega
        have HSET := Lib.hid (ownB_set HO1.out (by simp) n (!q))
        rw [hnm, set_last, ← hnm] at HSET
        have Hnm := Lib.hid hnm; clear hnm hml hsl HO1
        go_wp2_with (rw [← HW2.out])
        go_roundw
        case rel => exact ⟨k + 1, s', by omega, by go_num, HB1.out.setCell (by omega) _, Hp', by rw [Hn.out]; exact HSET.out⟩
        case measure => simp [intOf]; omega
      · have Hn := Lib.hid hn; have Hm := Lib.hid hm; clear hn HPN
        rw [hm] at HO1
        have hml : s.length = m.length + 1 := by rw [← hnl, hm]; simp
        have Hml := Lib.hid hml
        clear hm hnl
        obtain ⟨g, cS, hv, hg0, hg1, hcS⟩ := HO1.out.blk (by simp)
        rw [List.length_append, List.length_singleton] at hv hcS
        subst hv
        have hc := ownCell (show w2.ownsRow w.heap.size 4 1 (.slice (some ⟨g, 0, none⟩) (m.length + 1) cS) (m.length + 1) ((m ++ [q]).map .bool) from by have := HO1.out; unfold OwnB at this; rw [List.length_append] at this; exact this) (i := m.length) (by simp)
        obtain ⟨hc, hf⟩ := hc
        simp only [List.getElem_map, List.getElem_concat_length] at hc
        obtain ⟨n, hnm⟩ : ∃ n, n = m.length := ⟨_, rfl⟩
        rw [← hnm] at hc hf hcS ⊢
        have hn60 : n ≤ 60 := by omega
        have hsz : s.length = n + 1 := by omega
        have HSET := Lib.hid (ownB_set HO1.out (by simp) n (true))
        rw [hnm, set_last, ← hnm] at HSET
        have Hnm := Lib.hid hnm; clear hnm hml hsl HO1
        go_wp2_with (rw [← HW2.out])
        go_roundw
        case rel => exact ⟨k + 1, s', by omega, by go_num, HB1.out.setCell (by omega) _, Hp', by rw [Hn.out]; exact HSET.out⟩
        case measure => simp [intOf]; omega
      · have Hn := Lib.hid hn; clear hn HPN
        rw [hm] at HO1
        have hml : s.length = m.length + 1 + 1 := by rw [← hnl, hm]; simp
        clear hm hnl
        obtain ⟨g, cS, hv, hg0, hg1, hcS⟩ := HO1.out.blk (by simp)
        rw [show (m ++ [q1, q2]).length = m.length + 1 + 1 from by simp] at hv hcS
        subst hv
        have hc1 := HO1.out.rd.at (k := m.length) (by simp)
        have hc2 := HO1.out.rd.at (k := m.length + 1) (by simp)
        obtain ⟨b1, o1, e1, hc1⟩ := hc1; cases e1
        obtain ⟨b1, o1, e1, hc2⟩ := hc2; cases e1
        simp only [Nat.zero_add, two0, two1] at hc1 hc2
        have HT := HO1.out.take (m := m.length) (by simp) (by simp)
        rw [List.take_left] at HT
        replace HT := Lib.hid (HT.stay (Below.refl _ _).drew)
        obtain ⟨n, hnm⟩ : ∃ n, n = m.length := ⟨_, rfl⟩
        rw [← hnm] at hc1 hc2 hcS hml HT ⊢
        have hn60 : n ≤ 60 := by omega
        have Hnm := Lib.hid hnm; have Hml := Lib.hid hml; clear hnm hml hsl HO1
        have hnI : (n : Int) ≤ (cS : Int) := by omega
        have hcne : ¬ cS = 0 := by omega
        have hn0 : (0 : Int) ≤ (n : Int) := Int.natCast_nonneg _
        have hn1 : (n : Int) < (n : Int) + 1 + 1 := by omega
        have hn2 : (n : Int) + 1 < (n : Int) + 1 + 1 := by omega
        have hn3 : (0 : Int) ≤ (n : Int) + 1 := by omega
        have hwr : IntKind.i64.wrap (n : Int) = (n : Int) := IntWalk.i64_in _ (by omega)
        have hc1D : w2.drew.cell? ⟨g, n, none⟩ = some (.bool q1) := hc1
        have hc2D : w2.drew.cell? ⟨g, n + 1, none⟩ = some (.bool q2) := hc2
        obtain ⟨b, hbv⟩ : ∃ b : Bool, b = (q1 || q2) := ⟨_, rfl⟩
        rw [← hbv] at Hn
        have Hbv := Lib.hid hbv; clear hbv
        cases q1
        · obtain rfl : b = q2 := by rw [Hbv.out]; simp
          go_wp2_with (rw [← HW2.out])
          first | (go_region_law
            (refine stepAppAt elBool (by decide) rfl (.tmp 66) (.tmp 78) rfl w.heap.size _ _ _ [.bool b] _ w2.heap.size rfl rfl (HT.out.alloc _) (by exact blkNew _ _ rfl) rfl (by simp [Value.oneCell']) (by have := Hnm.out; omega) (by simp; omega) ?_
             intro g7 cap7 w7 ho7 hg7 hat7)) | fail
          all_goals (
            have hg8 : w2.drew.grownBy w7 _ := grownTrans (grownBel ((Below.refl _ _).alloc (Nat.le_refl _) _)) hg7
            have hB7 := HB1.out.drew.grown hg8 hbs2 (fun k hk => (World.ownsRow.lt HT.out k hk).1)
            have HO8 : Hid (OwnB w7 w.heap.size (.slice (some ⟨g7, 0, none⟩) (m.length + 1) cap7) (nuls s')) := Lib.hid (by rw [Hn.out]; unfold OwnB; rw [List.length_append, map_snoc]; exact ho7.out)
            clear hg8 hg7 ho7 hat7 hc1 hc2 hc1D hc2D HT
            go_wp2
            go_roundw
            case rel => exact ⟨k + 1, s', by omega, by go_num, hB7, Hp', HO8⟩
            case measure => simp [intOf]; omega)
        · obtain rfl : b = true := by rw [Hbv.out]; simp
          go_wp2_with (rw [← HW2.out])
          first | (go_region_law
            (refine stepAppAt elBool (by decide) rfl (.tmp 66) (.tmp 78) rfl w.heap.size _ _ _ [.bool true] _ w2.heap.size rfl rfl (HT.out.alloc _) (by exact blkNew _ _ rfl) rfl (by simp [Value.oneCell']) (by have := Hnm.out; omega) (by simp; omega) ?_
             intro g7 cap7 w7 ho7 hg7 hat7)) | fail
          all_goals (
            have hg8 : w2.drew.grownBy w7 _ := grownTrans (grownBel ((Below.refl _ _).alloc (Nat.le_refl _) _)) hg7
            have hB7 := HB1.out.drew.grown hg8 hbs2 (fun k hk => (World.ownsRow.lt HT.out k hk).1)
            have HO8 : Hid (OwnB w7 w.heap.size (.slice (some ⟨g7, 0, none⟩) (m.length + 1) cap7) (nuls s')) := Lib.hid (by rw [Hn.out]; unfold OwnB; rw [List.length_append, map_snoc]; exact ho7.out)
            clear hg8 hg7 ho7 hat7 hc1 hc2 hc1D hc2D HT
            go_wp2
            go_roundw
            case rel => exact ⟨k + 1, s', by omega, by go_num, hB7, Hp', HO8⟩
            case measure => simp [intOf]; omega)
      · have Hn := Lib.hid hn; clear hn HPN
        rw [hm] at HO1
        have hml : s.length = m.length + 1 + 1 := by rw [← hnl, hm]; simp
        clear hm hnl
        obtain ⟨g, cS, hv, hg0, hg1, hcS⟩ := HO1.out.blk (by simp)
        rw [show (m ++ [q1, q2]).length = m.length + 1 + 1 from by simp] at hv hcS
        subst hv
        have hc1 := HO1.out.rd.at (k := m.length) (by simp)
        have hc2 := HO1.out.rd.at (k := m.length + 1) (by simp)
        obtain ⟨b1, o1, e1, hc1⟩ := hc1; cases e1
        obtain ⟨b1, o1, e1, hc2⟩ := hc2; cases e1
        simp only [Nat.zero_add, two0, two1] at hc1 hc2
        have HT := HO1.out.take (m := m.length) (by simp) (by simp)
        rw [List.take_left] at HT
        replace HT := Lib.hid (HT.stay (Below.refl _ _).drew)
        obtain ⟨n, hnm⟩ : ∃ n, n = m.length := ⟨_, rfl⟩
        rw [← hnm] at hc1 hc2 hcS hml HT ⊢
        have hn60 : n ≤ 60 := by omega
        have Hnm := Lib.hid hnm; have Hml := Lib.hid hml; clear hnm hml hsl HO1
        have hnI : (n : Int) ≤ (cS : Int) := by omega
        have hcne : ¬ cS = 0 := by omega
        have hn0 : (0 : Int) ≤ (n : Int) := Int.natCast_nonneg _
        have hn1 : (n : Int) < (n : Int) + 1 + 1 := by omega
        have hn2 : (n : Int) + 1 < (n : Int) + 1 + 1 := by omega
        have hn3 : (0 : Int) ≤ (n : Int) + 1 := by omega
        have hwr : IntKind.i64.wrap (n : Int) = (n : Int) := IntWalk.i64_in _ (by omega)
        have hc1D : w2.drew.cell? ⟨g, n, none⟩ = some (.bool q1) := hc1
        have hc2D : w2.drew.cell? ⟨g, n + 1, none⟩ = some (.bool q2) := hc2
        obtain ⟨b, hbv⟩ : ∃ b : Bool, b = (q1 && q2) := ⟨_, rfl⟩
        rw [← hbv] at Hn
        have Hbv := Lib.hid hbv; clear hbv
        cases q1
        · obtain rfl : b = false := by rw [Hbv.out]; simp
          go_wp2_with (rw [← HW2.out])
          first | (go_region_law
            (refine stepAppAt elBool (by decide) rfl (.tmp 21) (.tmp 33) rfl w.heap.size _ _ _ [.bool false] _ w2.heap.size rfl rfl (HT.out.alloc _) (by exact blkNew _ _ rfl) rfl (by simp [Value.oneCell']) (by have := Hnm.out; omega) (by simp; omega) ?_
             intro g7 cap7 w7 ho7 hg7 hat7)) | fail
          all_goals (
            have hg8 : w2.drew.grownBy w7 _ := grownTrans (grownBel ((Below.refl _ _).alloc (Nat.le_refl _) _)) hg7
            have hB7 := HB1.out.drew.grown hg8 hbs2 (fun k hk => (World.ownsRow.lt HT.out k hk).1)
            have HO8 : Hid (OwnB w7 w.heap.size (.slice (some ⟨g7, 0, none⟩) (m.length + 1) cap7) (nuls s')) := Lib.hid (by rw [Hn.out]; unfold OwnB; rw [List.length_append, map_snoc]; exact ho7.out)
            clear hg8 hg7 ho7 hat7 hc1 hc2 hc1D hc2D HT
            go_wp2
            go_roundw
            case rel => exact ⟨k + 1, s', by omega, by go_num, hB7, Hp', HO8⟩
            case measure => simp [intOf]; omega)
        · obtain rfl : b = q2 := by rw [Hbv.out]; simp
          go_wp2_with (rw [← HW2.out])
          first | (go_region_law
            (refine stepAppAt elBool (by decide) rfl (.tmp 21) (.tmp 33) rfl w.heap.size _ _ _ [.bool b] _ w2.heap.size rfl rfl (HT.out.alloc _) (by exact blkNew _ _ rfl) rfl (by simp [Value.oneCell']) (by have := Hnm.out; omega) (by simp; omega) ?_
             intro g7 cap7 w7 ho7 hg7 hat7)) | fail
          all_goals (
            have hg8 : w2.drew.grownBy w7 _ := grownTrans (grownBel ((Below.refl _ _).alloc (Nat.le_refl _) _)) hg7
            have hB7 := HB1.out.drew.grown hg8 hbs2 (fun k hk => (World.ownsRow.lt HT.out k hk).1)
            have HO8 : Hid (OwnB w7 w.heap.size (.slice (some ⟨g7, 0, none⟩) (m.length + 1) cap7) (nuls s')) := Lib.hid (by rw [Hn.out]; unfold OwnB; rw [List.length_append, map_snoc]; exact ho7.out)
            clear hg8 hg7 ho7 hat7 hc1 hc2 hc1D hc2D HT
            go_wp2
            go_roundw
            case rel => exact ⟨k + 1, s', by omega, by go_num, hB7, Hp', HO8⟩
            case measure => simp [intOf]; omega)
      · have Hn := Lib.hid hn; clear hn HPN
        rw [hm] at HO1
        have hml : s.length = m.length + 1 + 1 := by rw [← hnl, hm]; simp
        clear hm hnl
        obtain ⟨g, cS, hv, hg0, hg1, hcS⟩ := HO1.out.blk (by simp)
        rw [show (m ++ [q1, q2]).length = m.length + 1 + 1 from by simp] at hv hcS
        subst hv
        have hc1 := HO1.out.rd.at (k := m.length) (by simp)
        have hc2 := HO1.out.rd.at (k := m.length + 1) (by simp)
        obtain ⟨b1, o1, e1, hc1⟩ := hc1; cases e1
        obtain ⟨b1, o1, e1, hc2⟩ := hc2; cases e1
        simp only [Nat.zero_add, two0, two1] at hc1 hc2
        have HT := HO1.out.take (m := m.length) (by simp) (by simp)
        rw [List.take_left] at HT
        replace HT := Lib.hid (HT.stay (Below.refl _ _).drew)
        obtain ⟨n, hnm⟩ : ∃ n, n = m.length := ⟨_, rfl⟩
        rw [← hnm] at hc1 hc2 hcS hml HT ⊢
        have hn60 : n ≤ 60 := by omega
        have Hnm := Lib.hid hnm; have Hml := Lib.hid hml; clear hnm hml hsl HO1
        have hnI : (n : Int) ≤ (cS : Int) := by omega
        have hcne : ¬ cS = 0 := by omega
        have hn0 : (0 : Int) ≤ (n : Int) := Int.natCast_nonneg _
        have hn1 : (n : Int) < (n : Int) + 1 + 1 := by omega
        have hn2 : (n : Int) + 1 < (n : Int) + 1 + 1 := by omega
        have hn3 : (0 : Int) ≤ (n : Int) + 1 := by omega
        have hwr : IntKind.i64.wrap (n : Int) = (n : Int) := IntWalk.i64_in _ (by omega)
        have hc1D : w2.drew.cell? ⟨g, n, none⟩ = some (.bool q1) := hc1
        have hc2D : w2.drew.cell? ⟨g, n + 1, none⟩ = some (.bool q2) := hc2
        obtain ⟨b, hbv⟩ : ∃ b : Bool, b = (q1 && q2) := ⟨_, rfl⟩
        rw [← hbv] at Hn
        have Hbv := Lib.hid hbv; clear hbv
        cases q1
        · obtain rfl : b = false := by rw [Hbv.out]; simp
          go_wp2_with (rw [← HW2.out])
          first | (go_region_law
            (refine stepAppAt elBool (by decide) rfl (.tmp 21) (.tmp 33) rfl w.heap.size _ _ _ [.bool false] _ w2.heap.size rfl rfl (HT.out.alloc _) (by exact blkNew _ _ rfl) rfl (by simp [Value.oneCell']) (by have := Hnm.out; omega) (by simp; omega) ?_
             intro g7 cap7 w7 ho7 hg7 hat7)) | fail
          all_goals (
            have hg8 : w2.drew.grownBy w7 _ := grownTrans (grownBel ((Below.refl _ _).alloc (Nat.le_refl _) _)) hg7
            have hB7 := HB1.out.drew.grown hg8 hbs2 (fun k hk => (World.ownsRow.lt HT.out k hk).1)
            have HO8 : Hid (OwnB w7 w.heap.size (.slice (some ⟨g7, 0, none⟩) (m.length + 1) cap7) (nuls s')) := Lib.hid (by rw [Hn.out]; unfold OwnB; rw [List.length_append, map_snoc]; exact ho7.out)
            clear hg8 hg7 ho7 hat7 hc1 hc2 hc1D hc2D HT
            go_wp2
            go_roundw
            case rel => exact ⟨k + 1, s', by omega, by go_num, hB7, Hp', HO8⟩
            case measure => simp [intOf]; omega)
        · obtain rfl : b = q2 := by rw [Hbv.out]; simp
          go_wp2_with (rw [← HW2.out])
          first | (go_region_law
            (refine stepAppAt elBool (by decide) rfl (.tmp 21) (.tmp 33) rfl w.heap.size _ _ _ [.bool b] _ w2.heap.size rfl rfl (HT.out.alloc _) (by exact blkNew _ _ rfl) rfl (by simp [Value.oneCell']) (by have := Hnm.out; omega) (by simp; omega) ?_
             intro g7 cap7 w7 ho7 hg7 hat7)) | fail
          all_goals (
            have hg8 : w2.drew.grownBy w7 _ := grownTrans (grownBel ((Below.refl _ _).alloc (Nat.le_refl _) _)) hg7
            have hB7 := HB1.out.drew.grown hg8 hbs2 (fun k hk => (World.ownsRow.lt HT.out k hk).1)
            have HO8 : Hid (OwnB w7 w.heap.size (.slice (some ⟨g7, 0, none⟩) (m.length + 1) cap7) (nuls s')) := Lib.hid (by rw [Hn.out]; unfold OwnB; rw [List.length_append, map_snoc]; exact ho7.out)
            clear hg8 hg7 ho7 hat7 hc1 hc2 hc1D hc2D HT
            go_wp2
            go_roundw
            case rel => exact ⟨k + 1, s', by omega, by go_num, hB7, Hp', HO8⟩
            case measure => simp [intOf]; omega)
    · obtain rfl : k = e.length := by omega
      rw [List.take_length, HE.out] at hp
      obtain rfl : [t] = s := by have := hp.out; cases this; rfl
      obtain ⟨g, cS, hv, hg0, hg1, hcS⟩ := ho.out.blk (by simp [nuls])
      change _ = Value.slice (some ⟨g, 0, none⟩) 1 cS at hv
      subst hv
      have hc := ho.out.rd.at (k := 0) (by simp [nuls])
      obtain ⟨b, off, e1, hc⟩ := hc
      cases e1
      simp [nuls] at hc
      go_wp2
      go_ret
      exact ⟨rfl, hb.out⟩
end Go.Proofs.Ytbcjhiponbfbnaa

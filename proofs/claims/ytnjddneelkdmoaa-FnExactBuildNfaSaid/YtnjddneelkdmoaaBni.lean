/- BuildNfa: the program's answer. -/
import Derived.Deep.RegionHeld3
import Derived.Test.YtnjddneelkdmoaaBnq
import Derived.Test.YtnjddneelkdmoaaNsk
import Derived.Test.YtnjddneelkdmoaaIpl
import Derived.Test.YtnjddneelkdmoaaBnv
import Derived.Test.YtnjddneelkdmoaaEiw
import Derived.Test.YtnjddneelkdmoaaJnw
set_option linter.unusedSimpArgs false
set_option linter.unusedVariables false
set_option linter.unusedSectionVars false
namespace Go.Proofs.Ytnjddneelkdmoaa
open Go.RowKit
set_option maxRecDepth 100000
variable {S T : Nat → Prop}
/-- The four cells behind an append: one automaton more. -/
theorem NStk.push2 {base n' cap' g' : Nat} {w w' : World} {v vm vf ve : Value} {ps : List (NfaD × Value × Value × Value)} {ds : List NfaD} {D : NfaD} (hd : ps.map (·.1) = ds) (h : w.ownsRow base 36 4 v ps.length (ps.flatMap nfCells))
    (ho : ∀ p ∈ ps, NfaO base w p.2.1 p.2.2.1 p.2.2.2 p.1) (hO : NfaO base w vm vf ve D) (hg : w.grownBy w' v.ownBlock)
    (hv : w'.ownsRow base 36 4 (.slice (some ⟨g', 0, none⟩) n' cap') (ps.length + 1) (ps.flatMap nfCells ++ [.int .i64 D.states, vm, vf, ve])) :
    NStk base w' (.slice (some ⟨g', 0, none⟩) n' cap') (ds ++ [D]) := by
  subst hd
  have key : ∀ {a b c : Value} {E : NfaD}, NfaO base w a b c E → NfaO base w' a b c E := fun k =>
    ⟨World.ownsRow.kept k.1 hg (ownOr k.1 h (ownNe2 k.1 h (by decide))), World.ownsRow.kept k.2.1 hg (ownOr k.2.1 h (ownNe2 k.2.1 h (by decide))), World.ownsRow.kept k.2.2.1 hg (ownOr k.2.2.1 h (ownNe2 k.2.2.1 h (by decide))), k.2.2.2⟩
  refine ⟨ps ++ [(D, vm, vf, ve)], by simp, ?_, fun p hp => ?_⟩
  · rw [List.length_append, List.flatMap_append]
    simpa [nfCells] using hv
  · rcases List.mem_append.1 hp with h1 | h1
    · exact key (ho p h1)
    · rw [List.mem_singleton] at h1; subst h1; exact key hO
theorem NStk.two {base M : Nat} {w : World} {a : Option Addr} {n cap : Nat} {ds : List NfaD} (h : NStk base w (.slice a n cap) ds) (hM : ds.length = M) : (Value.slice a n cap = .slice none 0 0 ∧ M = 0) ∨ ∃ g cg, Value.slice a n cap = .slice (some ⟨g, 0, none⟩) M cg ∧ M ≤ cg ∧ g < w.heap.size := by
  obtain ⟨ps, rfl, h, _⟩ := h
  rw [List.length_map] at hM
  subst hM
  obtain ⟨hl, ⟨h1, h2⟩ | ⟨g, cap', cur, hv, hb, hh, hc, _⟩⟩ := h
  · exact .inl ⟨h1, h2⟩
  · exact .inr ⟨g, cap', hv, hc, (Array.getElem?_eq_some_iff.1 hh).1⟩
theorem allocAny {w : World} {o o' : Obj} {b f : Nat} {v : Value} (h : (w.alloc o').cell? ⟨b, f, none⟩ = some v) (hb : b < w.heap.size) : (w.alloc o).cell? ⟨b, f, none⟩ = some v := by
  rw [World.cell?_of_block (w := w) (Below.heap_alloc w o b hb)]
  rw [World.cell?_of_block (w := w) (Below.heap_alloc w o' b hb)] at h
  exact h
theorem NStk.blk {base : Nat} {w : World} {a : Option Addr} {n cap : Nat} {ds : List NfaD} (h : NStk base w (.slice a n cap) ds) (h0 : 0 < ds.length) (hn : n = ds.length) : ∃ g, a = some ⟨g, 0, none⟩ ∧ n ≤ cap ∧ g < w.heap.size := by
  rcases h.two rfl with ⟨_, h2⟩ | ⟨g, cg, hv, hc, hl⟩
  · omega
  · cases hv; exact ⟨g, rfl, by omega, hl⟩
theorem two0N (m : List NfaD) (a b : NfaD) (h : m.length < (m ++ [a, b]).length) : (m ++ [a, b])[m.length] = a := by simp
theorem two1N (m : List NfaD) (a b : NfaD) (h : m.length + 1 < (m ++ [a, b]).length) : (m ++ [a, b])[m.length + 1] = b := by simp
/-- The next state of the stack, the leaves together. -/
theorem push_leaf {s s' : List Re} {x y : Int} (h : push (some s) (x, y) = some s') (hs : ∀ t ∈ s, bB t = true) (hpl : x ≠ 6 ∧ x ≠ 7) :
    ((x = 1 ∨ x = 2 ∨ x = 3) ∧ nst s' = nst s ++ [leafD x y] ∧ ∀ t ∈ s', bB t = true) ∨
    (x = 8 ∧ ∃ (m : List NfaD) (A : NfaD) (u : Re), nst s = m ++ [A] ∧ nst s' = m ++ [stN A] ∧ u ∈ s' ∧ bB u = stB A ∧ (stB A = true → ∀ t ∈ s', bB t = true)) ∨
    (x = 4 ∧ ∃ (m : List NfaD) (A B : NfaD) (u : Re), nst s = m ++ [A, B] ∧ nst s' = m ++ [jnN A B] ∧ u ∈ s' ∧ bB u = jnB A B ∧ (jnB A B = true → ∀ t ∈ s', bB t = true)) ∨
    (x = 5 ∧ ∃ (m : List NfaD) (A B : NfaD) (u : Re), nst s = m ++ [A, B] ∧ nst s' = m ++ [eiN A B] ∧ u ∈ s' ∧ bB u = eiB A B ∧ (eiB A B = true → ∀ t ∈ s', bB t = true)) := by
  rcases push_nst h hs hpl with ⟨rfl, rfl, h1, h2⟩ | ⟨rfl, rfl, h1, h2⟩ | ⟨rfl, h1, h2⟩ | ⟨rfl, _, h1⟩ | ⟨rfl, _, h1⟩ | ⟨rfl, _, h1⟩
  · exact .inl ⟨.inl rfl, h1, h2⟩
  · exact .inl ⟨.inr (.inl rfl), h1, h2⟩
  · exact .inl ⟨.inr (.inr rfl), h1, h2⟩
  · exact .inr (.inl ⟨rfl, h1⟩)
  · exact .inr (.inr (.inl ⟨rfl, h1⟩))
  · exact .inr (.inr (.inr ⟨rfl, h1⟩))
theorem elNfa : ElemT 102 36 4 80 := ElemT.of (z := .agg #[.int .i64 0, .slice none 0 0, .slice none 0 0, .slice none 0 0]) Try.underlying102 (by kernel_rfl) rfl (by decide)
set_option maxHeartbeats 4000000 in
theorem BuildNfa_c (v : Value) (e : List (Int × Int)) (w : World) (h : Pairs S w v e) : Calls Try.prog 44 #[v] w (RNb w (bvN e) (bvB e)) := by
  obtain ⟨a, cap, rfl, _⟩ := h.shape
  obtain ⟨W, hW⟩ : ∃ W, W = w.alloc (.cells #[.int .i64 0, .slice none 0 0, .slice none 0 0, .slice none 0 0] 36) := ⟨_, rfl⟩
  have Hb : Hid (Below w.heap.size w W) := by rw [hW]; exact (Below.refl _ _).alloc (Nat.le_refl _) _
  have k2 : Hid (W.heap[w.heap.size]? = some (.cells #[.int .i64 0, .slice none 0 0, .slice none 0 0, .slice none 0 0] 36 (0, 0))) := by rw [hW]; exact blkNew _ _ rfl
  have HW := Lib.hid hW; clear hW
  have H := Lib.hid h; clear h
  go_enter Try.func44, Try.ntmps44
  go_wp2_with fail
  rw [← HW.out]
  clear HW
  refine (isPlain_c _ e W (H.out.stay (kpB Hb.out))).mono ?_
  rintro x w1 ⟨b1, rfl, hb, hv⟩
  replace Hb := Lib.hid (Hb.out.trans (hb.mono Hb.out.size))
  replace k2 := Lib.hid (blkBel hb k2.out)
  have hz1 : w.heap.size < w1.heap.size := (Array.getElem?_eq_some_iff.1 k2.out).1
  clear hb
  cases b1
  · have HN := Lib.hid (bv_none (plT_no (hbF hv))); clear hv
    obtain ⟨e0, e1, e2, e3⟩ := blk4 k2.out
    have g1 := blkFz k2.out
    go_wp2
    refine bodyPost_ret (v := .tuple #[.agg #[.int .i64 0, .slice none 0 0, .slice none 0 0, .slice none 0 0], .bool false]) (by simp [results, Try.results44, go_sem, e0, e1, e2, e3, g1]) rfl ⟨_, _, _, by rw [HN.out.1, HN.out.2]; rfl, bel4 Hb.out (Nat.le_refl _) _ _ _ _, by rw [HN.out.1]; exact NfaO.nil _ _⟩
  obtain ⟨t, ht, he, hl, hT⟩ := plT_yes (hbT hv).1 (hbT hv).2
  have HPl := Lib.hid (hbT hv).2; clear hv
  have HV := Lib.hid (bv_some hT); clear hT
  have HE : Hid (parse e = some [t]) := Lib.hid (by rw [← he]; exact parse_flat ht)
  have hlen : e.length ≤ 60 := by rw [← he]; exact hl
  clear he hl ht
  go_wp2_with fail
  go_loopw [4, 16] (fun v i wr => ∃ (k : Nat) (s : List Re), k ≤ e.length ∧ i = .int .i64 k ∧ Hid (Below w.heap.size w wr) ∧ Hid (wr.heap[w.heap.size]? = some (.cells #[.int .i64 0, .slice none 0 0, .slice none 0 0, .slice none 0 0] 36 (0, 0))) ∧ Hid (parse (e.take k) = some s) ∧ Hid (∀ u ∈ s, bB u = true) ∧ Hid (NStk (w.heap.size + 1) wr v (nst s))) (fun _ i _ => e.length - (intOf i).toNat)
  case atStart => exact ⟨0, [], by omega, rfl, Hb, k2, rfl, fun u hu => absurd hu List.not_mem_nil, NStk.nil _ _⟩
  case round =>
    obtain ⟨k, s, hk, rfl, hb, h2, hp, hs, ho⟩ := hrel
    by_cases hlt : k < e.length
    · obtain ⟨b, off, rfl, c0, c1⟩ := (H.out.stay (kpB hb.out)).at hlt
      have htp := take_parse e k hlt
      obtain ⟨x, y, hxy⟩ : ∃ x y, e[k] = (x, y) := ⟨_, _, rfl⟩
      have hpl := HPl.out (x, y) (by rw [← hxy]; exact List.getElem_mem hlt)
      rw [hxy] at c0 c1 htp
      rw [hp.out] at htp
      clear hxy
      cases hs' : push (some s) (x, y) with
      | none => exact absurd HE.out (by rw [noParse (by rw [htp, hs'])]; nofun)
      | some s' =>
      rw [hs'] at htp
      have Hp' := Lib.hid htp; clear htp
      have hsl : s.length ≤ k := by have := len_flats s; rw [parse_flats hp.out, List.length_take] at this; omega
      have hs60 : s.length ≤ 60 := by omega
      have hnl := nst_len s
      obtain ⟨aS, cS, hv, _⟩ := ho.out.shape
      rw [hnl] at hv
      subst hv
      have HPN := Lib.hid (push_leaf hs' hs.out hpl); clear hs' hpl
      have hbs := hb.out.size
      have hb12 : Below wr.heap.size wr (wr.alloc (.cells #[.int .i64 x, .int .i64 y] 52)) := (Below.refl _ _).alloc (Nat.le_refl _) _
      obtain ⟨w2, hw2⟩ : ∃ z, z = wr.alloc (.cells #[.int .i64 x, .int .i64 y] 52) := ⟨_, rfl⟩
      rw [← hw2] at hb12
      have KP : Hid (w2.heap[wr.heap.size]? = some (.cells #[.int .i64 x, .int .i64 y] 52 (0, 0))) := by rw [hw2]; exact blkNew _ _ rfl
      have HB2 := Lib.hid (hb.out.trans (hb12.mono hbs))
      have HR2 := Lib.hid (blkBel hb12 h2.out)
      have HS2 := Lib.hid (ho.out.stay hb12)
      have HW2 := Lib.hid hw2; clear hw2 hb12 hb h2 ho hbs hsl hp hs
      obtain ⟨d0, d1, _, _⟩ := blk2 KP.out
      go_wp2_with fail
      rw [← HW2.out]
      refine (needs_c x y w2).mono ?_
      rintro e2 w3 ⟨n, rfl, hb3, hn3⟩
      clear c0 c1 d0 d1 HW2
      have HN3 := Lib.hid hn3.out.1; clear hn3
      replace KP := Lib.hid (blkBel hb3 KP.out)
      have hz3 : wr.heap.size < w3.heap.size := (Array.getElem?_eq_some_iff.1 KP.out).1
      have HB3 := Lib.hid (HB2.out.trans (hb3.mono HB2.out.size))
      have HR3 := Lib.hid (blkBel hb3 HR2.out)
      have HS3 := Lib.hid (HS2.out.stay hb3); clear HB2 HR2 HS2 hb3
      have hz0 : w.heap.size < w3.heap.size := (Array.getElem?_eq_some_iff.1 HR3.out).1
      have HB34 : Hid (Below w3.heap.size w3 (w3.alloc (.cells #[.int .i64 0, .slice none 0 0, .slice none 0 0, .slice none 0 0] 36))) := Lib.hid ((Below.refl _ _).alloc (Nat.le_refl _) _)
      obtain ⟨w4, hw4⟩ : ∃ z, z = w3.alloc (.cells #[.int .i64 0, .slice none 0 0, .slice none 0 0, .slice none 0 0] 36) := ⟨_, rfl⟩
      rw [← hw4] at HB34
      have K8 : Hid (w4.heap[w3.heap.size]? = some (.cells #[.int .i64 0, .slice none 0 0, .slice none 0 0, .slice none 0 0] 36 (0, 0))) := by rw [hw4]; exact blkNew _ _ rfl
      have KP3 := KP
      clear KP
      have HW4 := Lib.hid hw4; clear hw4
      have d0 : ∀ o, (w3.alloc o).cell? ⟨wr.heap.size, 0, none⟩ = some (.int .i64 x) := fun o => (blk2 (blkOld KP3.out)).1
      have d1 : ∀ o, (w3.alloc o).cell? ⟨wr.heap.size, 1, none⟩ = some (.int .i64 y) := fun o => (blk2 (blkOld KP3.out)).2.1
      rcases HPN.out with ⟨hx, hn, hall⟩ | ⟨rfl, m, A, u, hm, hn, hu, hbu, hall⟩ | ⟨rfl, m, A, B, u, hm, hn, hu, hbu, hall⟩ | ⟨rfl, m, A, B, u, hm, hn, hu, hbu, hall⟩
      · obtain rfl : n = 0 := by rw [HN3.out]; rcases hx with rfl | rfl | rfl <;> rfl
        have e5 : (x == 5) = false := by rcases hx with rfl | rfl | rfl <;> rfl
        have e4 : (x == 4) = false := by rcases hx with rfl | rfl | rfl <;> rfl
        have e8 : (x == 8) = false := by rcases hx with rfl | rfl | rfl <;> rfl
        have HALL := Lib.hid hall; have Hn := Lib.hid hn; clear hall hn hx HPN HN3
        obtain ⟨M, hM⟩ : ∃ M, M = s.length := ⟨_, rfl⟩
        rw [← hM] at hnl hs60 HS3 ⊢
        have HML : Hid ((nst s).length = M) := Lib.hid hnl
        have hwr : IntKind.i64.wrap (M : Int) = (M : Int) := IntWalk.i64_in _ (by omega)
        have hM0 : (0 : Int) ≤ (M : Int) := Int.natCast_nonneg _
        obtain ⟨x9, hx9⟩ : ∃ z, Hid ((leafD x y).states = z) := ⟨_, rfl⟩
        have HM := Lib.hid hM; clear hM hnl
        have HT3 := HS3
        rcases HS3.out.two HML.out with ⟨hv, h0⟩ | ⟨g, cg, hv, hle, _⟩
        · obtain ⟨rfl, rfl, rfl⟩ : aS = none ∧ M = 0 ∧ cS = 0 := by cases hv; exact ⟨rfl, rfl, rfl⟩
          clear h0 hv
          go_wp2_with fail
          rw [← HW4.out]
          refine (leafNfa_c x y w4).mono ?_
          rintro e5' w5 ⟨vm, vf, ve, rfl, hb5, ho5⟩
          rw [hx9.out]
          clear d0 d1 HW4
          obtain ⟨a1, n1, c1, rfl⟩ := ho5.out.1.sl
          obtain ⟨a2, n2, c2, rfl⟩ := ho5.out.2.1.sl
          obtain ⟨a3, n3, c3, rfl⟩ := ho5.out.2.2.1.sl
          have K5 := Lib.hid (blkBel hb5 K8.out)
          have HB35 := Lib.hid (HB34.out.trans (hb5.mono HB34.out.size))
          obtain ⟨w6, hw6⟩ : ∃ z, z = (((w5.setCell ⟨w3.heap.size, 0, none⟩ (.int .i64 x9)).setCell ⟨w3.heap.size, 1, none⟩ (.slice a1 n1 c1)).setCell ⟨w3.heap.size, 2, none⟩ (.slice a2 n2 c2)).setCell ⟨w3.heap.size, 3, none⟩ (.slice a3 n3 c3) := ⟨_, rfl⟩
          have HB36 : Hid (Below w3.heap.size w3 w6) := Lib.hid (by rw [hw6]; exact bel4 HB35.out (Nat.le_refl _) _ _ _ _)
          have K6 : Hid (w6.heap[w3.heap.size]? = some (.cells #[.int .i64 x9, .slice a1 n1 c1, .slice a2 n2 c2, .slice a3 n3 c3] 36 (0, 0))) := Lib.hid (by rw [hw6]; exact blk4s K5.out)
          have hz34 : w.heap.size + 1 ≤ w4.heap.size := by have := HB34.out.size; omega
          have HO6 : Hid (NfaO (w.heap.size + 1) w6 (.slice a1 n1 c1) (.slice a2 n2 c2) (.slice a3 n3 c3) _) := Lib.hid (by rw [hw6]; exact (ho5.out.base hz34).set4 _ (by omega) K5.out (by decide) _ _ _ _)
          have HW6 := Lib.hid hw6; clear hw6 ho5 hb5
          have hz60 : w.heap.size < w6.heap.size := (Array.getElem?_eq_some_iff.1 (blkBel HB36.out HR3.out)).1
          have HT6 := HT3.out.stay HB36.out.drew
          obtain ⟨ps, hps, hown, hpo⟩ := HT6
          have hpl : ps.length = 0 := by rw [← List.length_map (f := fun p : NfaD × Value × Value × Value => p.1), hps]; exact HML.out
          have hps60 : ps.length ≤ 60 := by omega
          have HPS := Lib.hid hps; have HOWN := Lib.hid hown; have HPO := Lib.hid hpo; have HPL := Lib.hid hpl; have HPS60 := Lib.hid hps60; clear hps hown hpo hpl hps60
          obtain ⟨k0, k1, k2, k3⟩ := blk4 K6.out
          obtain ⟨q0, q1, q2, q3⟩ := blk4 K5.out
          have qf := blkFz K5.out
          have hz6 : w3.heap.size < w6.heap.size := (Array.getElem?_eq_some_iff.1 K6.out).1
          go_wp2_with (rw [← HW6.out])
          first | (go_region_law
            (refine stepAppAt elNfa (by decide) rfl (.tmp 75) (.tmp 77) rfl (w.heap.size + 1) _ ps.length (ps.flatMap nfCells) [.int .i64 x9, .slice a1 n1 c1, .slice a2 n2 c2, .slice a3 n3 c3] _ w6.heap.size rfl rfl (HOWN.out.alloc _) (by exact blkNew _ _ rfl) rfl (by simp [Value.oneCell']) (by have := HPS60.out; omega) (by simp; omega) ?_
             intro g7 cap7 w7 ho7 hg7 hat7)) | fail
          all_goals (
            have hg8 : w6.drew.grownBy w7 _ := grownTrans (grownBel ((Below.refl _ _).alloc (Nat.le_refl _) _)) hg7
            have hB7 := (HB3.out.trans (HB36.out.drew.mono HB3.out.size)).grown hg8 (Nat.le_of_lt hz60) (fun k hk => by have := (World.ownsRow.lt HOWN.out k hk).1; omega)
            have hS7 : Hid (NStk (w.heap.size + 1) w7 (.slice (some ⟨g7, 0, none⟩) (ps.length + 1) cap7) (nst s')) := Lib.hid (by
              rw [Hn.out]
              have h := NStk.push2 HPS.out HOWN.out HPO.out (HO6.out.stay (Below.refl _ _).drew) hg8 (by rw [hx9.out]; exact ho7.out)
              exact h)
            have hR7 := Lib.hid (blkGrow hg8 (blkBel HB36.out.drew HR3.out) (fun e => by have := (World.ownsRow.lt HOWN.out _ e.symm).1; omega))
            clear hg8 hg7 ho7 hat7 k0 k1 k2 k3 q0 q1 q2 q3 qf
            go_wp2
            go_roundw
            case rel => exact ⟨k + 1, s', by omega, by go_num, hB7, hR7, Hp', HALL, hS7⟩
            case measure => simp [intOf]; omega)
        · obtain ⟨rfl, rfl⟩ : aS = some ⟨g, 0, none⟩ ∧ cS = cg := by cases hv; exact ⟨rfl, rfl⟩
          have hnI : (M : Int) ≤ (cS : Int) := by omega
          clear hv
          go_wp2_with fail
          rw [← HW4.out]
          refine (leafNfa_c x y w4).mono ?_
          rintro e5' w5 ⟨vm, vf, ve, rfl, hb5, ho5⟩
          rw [hx9.out]
          clear d0 d1 HW4
          obtain ⟨a1, n1, c1, rfl⟩ := ho5.out.1.sl
          obtain ⟨a2, n2, c2, rfl⟩ := ho5.out.2.1.sl
          obtain ⟨a3, n3, c3, rfl⟩ := ho5.out.2.2.1.sl
          have K5 := Lib.hid (blkBel hb5 K8.out)
          have HB35 := Lib.hid (HB34.out.trans (hb5.mono HB34.out.size))
          obtain ⟨w6, hw6⟩ : ∃ z, z = (((w5.setCell ⟨w3.heap.size, 0, none⟩ (.int .i64 x9)).setCell ⟨w3.heap.size, 1, none⟩ (.slice a1 n1 c1)).setCell ⟨w3.heap.size, 2, none⟩ (.slice a2 n2 c2)).setCell ⟨w3.heap.size, 3, none⟩ (.slice a3 n3 c3) := ⟨_, rfl⟩
          have HB36 : Hid (Below w3.heap.size w3 w6) := Lib.hid (by rw [hw6]; exact bel4 HB35.out (Nat.le_refl _) _ _ _ _)
          have K6 : Hid (w6.heap[w3.heap.size]? = some (.cells #[.int .i64 x9, .slice a1 n1 c1, .slice a2 n2 c2, .slice a3 n3 c3] 36 (0, 0))) := Lib.hid (by rw [hw6]; exact blk4s K5.out)
          have hz34 : w.heap.size + 1 ≤ w4.heap.size := by have := HB34.out.size; omega
          have HO6 : Hid (NfaO (w.heap.size + 1) w6 (.slice a1 n1 c1) (.slice a2 n2 c2) (.slice a3 n3 c3) _) := Lib.hid (by rw [hw6]; exact (ho5.out.base hz34).set4 _ (by omega) K5.out (by decide) _ _ _ _)
          have HW6 := Lib.hid hw6; clear hw6 ho5 hb5
          have hz60 : w.heap.size < w6.heap.size := (Array.getElem?_eq_some_iff.1 (blkBel HB36.out HR3.out)).1
          have HT6 := HT3.out.stay HB36.out.drew
          obtain ⟨ps, hps, hown, hpo⟩ := HT6
          have hpl : ps.length = M := by rw [← List.length_map (f := fun p : NfaD × Value × Value × Value => p.1), hps]; exact HML.out
          have hps60 : ps.length ≤ 60 := by omega
          have HPS := Lib.hid hps; have HOWN := Lib.hid hown; have HPO := Lib.hid hpo; have HPL := Lib.hid hpl; have HPS60 := Lib.hid hps60; clear hps hown hpo hpl hps60
          obtain ⟨k0, k1, k2, k3⟩ := blk4 K6.out
          obtain ⟨q0, q1, q2, q3⟩ := blk4 K5.out
          have qf := blkFz K5.out
          have hz6 : w3.heap.size < w6.heap.size := (Array.getElem?_eq_some_iff.1 K6.out).1
          go_wp2_with (rw [← HW6.out])
          first | (go_region_law
            (refine stepAppAt elNfa (by decide) rfl (.tmp 75) (.tmp 77) rfl (w.heap.size + 1) _ ps.length (ps.flatMap nfCells) [.int .i64 x9, .slice a1 n1 c1, .slice a2 n2 c2, .slice a3 n3 c3] _ w6.heap.size rfl rfl (HOWN.out.alloc _) (by exact blkNew _ _ rfl) rfl (by simp [Value.oneCell']) (by have := HPS60.out; omega) (by simp; omega) ?_
             intro g7 cap7 w7 ho7 hg7 hat7)) | fail
          all_goals (
            have hg8 : w6.drew.grownBy w7 _ := grownTrans (grownBel ((Below.refl _ _).alloc (Nat.le_refl _) _)) hg7
            have hB7 := (HB3.out.trans (HB36.out.drew.mono HB3.out.size)).grown hg8 (Nat.le_of_lt hz60) (fun k hk => by have := (World.ownsRow.lt HOWN.out k hk).1; omega)
            have hS7 : Hid (NStk (w.heap.size + 1) w7 (.slice (some ⟨g7, 0, none⟩) (ps.length + 1) cap7) (nst s')) := Lib.hid (by
              rw [Hn.out]
              have h := NStk.push2 HPS.out HOWN.out HPO.out (HO6.out.stay (Below.refl _ _).drew) hg8 (by rw [hx9.out]; exact ho7.out)
              exact h)
            have hR7 := Lib.hid (blkGrow hg8 (blkBel HB36.out.drew HR3.out) (fun e => by have := (World.ownsRow.lt HOWN.out _ e.symm).1; omega))
            clear hg8 hg7 ho7 hat7 k0 k1 k2 k3 q0 q1 q2 q3 qf
            go_wp2
            go_roundw
            case rel => exact ⟨k + 1, s', by omega, by go_num, hB7, hR7, Hp', HALL, hS7⟩
            case measure => simp [intOf]; omega)
      · obtain rfl : n = 1 := by rw [HN3.out]; rfl
        have Hn := Lib.hid hn; have HALL0 := Lib.hid hall; have HU := Lib.hid hu; have HBU := Lib.hid hbu; clear hn hall hu hbu HPN HN3
        rw [hm] at HS3
        obtain ⟨M, hM⟩ : ∃ M, M = m.length := ⟨_, rfl⟩
        have hsM : s.length = M + 1 := by rw [← hnl, hm, hM]; simp
        rw [hsM] at HS3 hs60 ⊢
        have HML : Hid (m.length = M) := Lib.hid hM.symm
        have hwr : IntKind.i64.wrap (M : Int) = (M : Int) := IntWalk.i64_in _ (by omega)
        have hM0 : (0 : Int) ≤ (M : Int) := Int.natCast_nonneg _
        have hM1 : (M : Int) < (M : Int) + 1 := by omega
        have HT3 : Hid (NStk (w.heap.size + 1) w3 (.slice aS M cS) m) := Lib.hid (by have h := HS3.out.take (m := M) (by simp [hM]) (by simp [hM]); rw [hM, List.take_left] at h; rw [hM]; exact h)
        obtain ⟨g, hvg, hle, hg3⟩ := HS3.out.blk (by simp) (by simp [hM])
        subst hvg
        have hnI : (M : Int) ≤ (cS : Int) := by omega
        have hcne : ¬ cS = 0 := by omega
        obtain ⟨bS, oS, vma, vfa, vea, hE, m0, m1, m2, m3, hOA⟩ := (HS3.out.stay HB34.out).at (k := M) (by simp [hM])
        cases hE
        simp only [hM, List.getElem_concat_length] at hOA m0
        simp only [Nat.zero_add] at m0 m1 m2 m3
        rw [← hM] at m0
        obtain ⟨a1a, n1a, c1a, rfl⟩ := hOA.1.sl
        obtain ⟨a2a, n2a, c2a, rfl⟩ := hOA.2.1.sl
        obtain ⟨a3a, n3a, c3a, rfl⟩ := hOA.2.2.1.sl
        have HOA := Lib.hid hOA; clear hOA
        obtain ⟨xA, hxA⟩ : ∃ z, z = A.states := ⟨_, rfl⟩
        rw [← hxA] at m0
        have HXA := Lib.hid hxA; clear hxA
        have n0 : ∀ o, (w3.alloc o).cell? ⟨g, M * 4, none⟩ = some (.int .i64 xA) := fun o => by rw [HW4.out] at m0; exact allocAny m0 hg3
        have n1 : ∀ o, (w3.alloc o).cell? ⟨g, M * 4 + 1, none⟩ = some (.slice a1a n1a c1a) := fun o => by rw [HW4.out] at m1; exact allocAny m1 hg3
        have n2 : ∀ o, (w3.alloc o).cell? ⟨g, M * 4 + 2, none⟩ = some (.slice a2a n2a c2a) := fun o => by rw [HW4.out] at m2; exact allocAny m2 hg3
        have n3 : ∀ o, (w3.alloc o).cell? ⟨g, M * 4 + 3, none⟩ = some (.slice a3a n3a c3a) := fun o => by rw [HW4.out] at m3; exact allocAny m3 hg3
        clear m0 m1 m2 m3
        obtain ⟨x9, hx9⟩ : ∃ z, Hid ((stN A).states = z) := ⟨_, rfl⟩
        obtain ⟨zb, hzb⟩ : ∃ z, Hid (stB A = z) := ⟨_, rfl⟩
        have HM := Lib.hid hM; have HsM := Lib.hid hsM; clear hM hsM hnl hm
        go_wp2_with fail
        rw [← HW4.out]
        rw [HXA.out]
        refine (NfaStar_c _ _ _ A w4 HOA.out.w.rd).mono ?_
        rintro e5' w5 ⟨vm, vf, ve, rfl, hb5, ho5⟩
        rw [hx9.out, hzb.out]
        clear d0 d1 HW4 n0 n1 n2 n3 HOA
        obtain ⟨a1, n1, c1, rfl⟩ := ho5.out.1.sl
        obtain ⟨a2, n2, c2, rfl⟩ := ho5.out.2.1.sl
        obtain ⟨a3, n3, c3, rfl⟩ := ho5.out.2.2.1.sl
        have K5 := Lib.hid (blkBel hb5 K8.out)
        have HB35 := Lib.hid (HB34.out.trans (hb5.mono HB34.out.size))
        obtain ⟨w6, hw6⟩ : ∃ z, z = (((w5.setCell ⟨w3.heap.size, 0, none⟩ (.int .i64 x9)).setCell ⟨w3.heap.size, 1, none⟩ (.slice a1 n1 c1)).setCell ⟨w3.heap.size, 2, none⟩ (.slice a2 n2 c2)).setCell ⟨w3.heap.size, 3, none⟩ (.slice a3 n3 c3) := ⟨_, rfl⟩
        have HB36 : Hid (Below w3.heap.size w3 w6) := Lib.hid (by rw [hw6]; exact bel4 HB35.out (Nat.le_refl _) _ _ _ _)
        have K6 : Hid (w6.heap[w3.heap.size]? = some (.cells #[.int .i64 x9, .slice a1 n1 c1, .slice a2 n2 c2, .slice a3 n3 c3] 36 (0, 0))) := Lib.hid (by rw [hw6]; exact blk4s K5.out)
        have hz34 : w.heap.size + 1 ≤ w4.heap.size := by have := HB34.out.size; omega
        have HO6 : Hid (NfaO (w.heap.size + 1) w6 (.slice a1 n1 c1) (.slice a2 n2 c2) (.slice a3 n3 c3) _) := Lib.hid (by rw [hw6]; exact (ho5.out.base hz34).set4 _ (by omega) K5.out (by decide) _ _ _ _)
        have HW6 := Lib.hid hw6; clear hw6 ho5 hb5
        have hz60 : w.heap.size < w6.heap.size := (Array.getElem?_eq_some_iff.1 (blkBel HB36.out HR3.out)).1
        cases zb
        · have HNo := Lib.hid (prefix_no HE.out Hp'.out HU.out (by rw [HBU.out]; exact hzb.out))
          obtain ⟨e0, e1, e2, e3⟩ := blk4 (blkBel HB36.out HR3.out)
          have g1 := blkFz (blkBel HB36.out HR3.out)
          obtain ⟨q0, q1, q2, q3⟩ := blk4 K5.out
          have qf := blkFz K5.out
          go_wp2_with (rw [← HW6.out])
          refine bodyPost_ret (v := .tuple #[.agg #[.int .i64 0, .slice none 0 0, .slice none 0 0, .slice none 0 0], .bool false]) (by simp [results, Try.results44, go_sem, e0, e1, e2, e3, g1]) rfl ⟨_, _, _, by rw [HV.out.1, HV.out.2, HNo.out.1, HNo.out.2]; rfl, bel4 (HB3.out.trans (HB36.out.mono HB3.out.size)) (Nat.le_refl _) _ _ _ _, by rw [HV.out.1, HNo.out.1]; exact NfaO.nil _ _⟩
        have HALL := Lib.hid (HALL0.out hzb.out)
        have HT6 := HT3.out.stay HB36.out.drew
        obtain ⟨ps, hps, hown, hpo⟩ := HT6
        have hpl : ps.length = M := by rw [← List.length_map (f := fun p : NfaD × Value × Value × Value => p.1), hps]; exact HML.out
        have hps60 : ps.length ≤ 60 := by omega
        have HPS := Lib.hid hps; have HOWN := Lib.hid hown; have HPO := Lib.hid hpo; have HPL := Lib.hid hpl; have HPS60 := Lib.hid hps60; clear hps hown hpo hpl hps60
        obtain ⟨k0, k1, k2, k3⟩ := blk4 K6.out
        obtain ⟨q0, q1, q2, q3⟩ := blk4 K5.out
        have qf := blkFz K5.out
        have hz6 : w3.heap.size < w6.heap.size := (Array.getElem?_eq_some_iff.1 K6.out).1
        go_wp2_with (rw [← HW6.out])
        first | (go_region_law
          (refine stepAppAt elNfa (by decide) rfl (.tmp 75) (.tmp 77) rfl (w.heap.size + 1) _ ps.length (ps.flatMap nfCells) [.int .i64 x9, .slice a1 n1 c1, .slice a2 n2 c2, .slice a3 n3 c3] _ w6.heap.size rfl rfl (HOWN.out.alloc _) (by exact blkNew _ _ rfl) rfl (by simp [Value.oneCell']) (by have := HPS60.out; omega) (by simp; omega) ?_
           intro g7 cap7 w7 ho7 hg7 hat7)) | fail
        all_goals (
          have hg8 : w6.drew.grownBy w7 _ := grownTrans (grownBel ((Below.refl _ _).alloc (Nat.le_refl _) _)) hg7
          have hB7 := (HB3.out.trans (HB36.out.drew.mono HB3.out.size)).grown hg8 (Nat.le_of_lt hz60) (fun k hk => by have := (World.ownsRow.lt HOWN.out k hk).1; omega)
          have hS7 : Hid (NStk (w.heap.size + 1) w7 (.slice (some ⟨g7, 0, none⟩) (ps.length + 1) cap7) (nst s')) := Lib.hid (by
            rw [Hn.out]
            have h := NStk.push2 HPS.out HOWN.out HPO.out (HO6.out.stay (Below.refl _ _).drew) hg8 (by rw [hx9.out]; exact ho7.out)
            exact h)
          have hR7 := Lib.hid (blkGrow hg8 (blkBel HB36.out.drew HR3.out) (fun e => by have := (World.ownsRow.lt HOWN.out _ e.symm).1; omega))
          clear hg8 hg7 ho7 hat7 k0 k1 k2 k3 q0 q1 q2 q3 qf
          go_wp2
          go_roundw
          case rel => exact ⟨k + 1, s', by omega, by go_num, hB7, hR7, Hp', HALL, hS7⟩
          case measure => simp [intOf]; omega)
      · obtain rfl : n = 2 := by rw [HN3.out]; rfl
        have Hn := Lib.hid hn; have HALL0 := Lib.hid hall; have HU := Lib.hid hu; have HBU := Lib.hid hbu; clear hn hall hu hbu HPN HN3
        rw [hm] at HS3
        obtain ⟨M, hM⟩ : ∃ M, M = m.length := ⟨_, rfl⟩
        have hsM : s.length = M + 1 + 1 := by rw [← hnl, hm, hM]; simp
        obtain ⟨N, hN⟩ : ∃ N, N = s.length := ⟨_, rfl⟩
        rw [← hN] at HS3 hs60 hsM ⊢
        have HML : Hid (m.length = M) := Lib.hid hM.symm
        have hwr : IntKind.i64.wrap (M : Int) = (M : Int) := IntWalk.i64_in _ (by omega)
        have hwr1 : IntKind.i64.wrap ((M : Int) + 1) = (M : Int) + 1 := IntWalk.i64_in _ (by omega)
        have hM0 : (0 : Int) ≤ (M : Int) := Int.natCast_nonneg _
        have hM1 : (M : Int) < (N : Int) := by omega
        have hM2 : (M : Int) + 1 < (N : Int) := by omega
        have hwrN : IntKind.i64.wrap ((N : Int) - 2) = (M : Int) := by rw [show (N : Int) - 2 = (M : Int) by omega]; exact hwr
        have hM3 : (0 : Int) ≤ (M : Int) + 1 := by omega
        have HT3 : Hid (NStk (w.heap.size + 1) w3 (.slice aS M cS) m) := Lib.hid (by have h := HS3.out.take (m := M) (by rw [hsM, hM]; simp) (by simp [hM]); rw [hM, List.take_left] at h; rw [hM]; exact h)
        obtain ⟨g, hvg, hle, hg3⟩ := HS3.out.blk (by simp) (by rw [hsM, hM]; simp)
        subst hvg
        have hnI : (M : Int) ≤ (cS : Int) := by omega
        have hcne : ¬ cS = 0 := by omega
        obtain ⟨bS, oS, vma, vfa, vea, hE, m0, m1, m2, m3, hOA⟩ := HS3.out.at (k := M) (by simp [hM])
        cases hE
        obtain ⟨bS, oS, vmb, vfb, veb, hE, q0, q1, q2, q3, hOB⟩ := HS3.out.at (k := M + 1) (by simp [hM])
        cases hE
        simp only [hM, two0N, two1N] at hOA m0 hOB q0
        simp only [Nat.zero_add] at m0 m1 m2 m3 q0 q1 q2 q3
        rw [← hM] at m0 q0
        obtain ⟨a1a, n1a, c1a, rfl⟩ := hOA.1.sl
        obtain ⟨a2a, n2a, c2a, rfl⟩ := hOA.2.1.sl
        obtain ⟨a3a, n3a, c3a, rfl⟩ := hOA.2.2.1.sl
        obtain ⟨a1b, n1b, c1b, rfl⟩ := hOB.1.sl
        obtain ⟨a2b, n2b, c2b, rfl⟩ := hOB.2.1.sl
        obtain ⟨a3b, n3b, c3b, rfl⟩ := hOB.2.2.1.sl
        have hb0 : Below w3.heap.size w3 w4.drew := HB34.out.drew
        have HOA := Lib.hid (hOA.w.rd.stay (kpB hb0)); have HOB := Lib.hid (hOB.w.rd.stay (kpB hb0)); clear hOA hOB
        obtain ⟨xA, hxA⟩ : ∃ z, z = A.states := ⟨_, rfl⟩
        rw [← hxA] at m0
        obtain ⟨xB, hxB⟩ : ∃ z, z = B.states := ⟨_, rfl⟩
        rw [← hxB] at q0
        have HXA := Lib.hid hxA; have HXB := Lib.hid hxB; clear hxA hxB
        obtain ⟨x9, hx9⟩ : ∃ z, Hid ((jnN A B).states = z) := ⟨_, rfl⟩
        obtain ⟨zb, hzb⟩ : ∃ z, Hid (jnB A B = z) := ⟨_, rfl⟩
        have HM := Lib.hid hM; have HsM := Lib.hid hsM; clear hM hsM hnl hm hN
        have KD : Hid (w3.cell? ⟨g, M * 4, none⟩ = some (.int .i64 xA) ∧ w3.cell? ⟨g, M * 4 + 1, none⟩ = some (.slice a1a n1a c1a) ∧ w3.cell? ⟨g, M * 4 + 2, none⟩ = some (.slice a2a n2a c2a) ∧ w3.cell? ⟨g, M * 4 + 3, none⟩ = some (.slice a3a n3a c3a) ∧ w3.cell? ⟨g, (M + 1) * 4, none⟩ = some (.int .i64 xB) ∧ w3.cell? ⟨g, (M + 1) * 4 + 1, none⟩ = some (.slice a1b n1b c1b) ∧ w3.cell? ⟨g, (M + 1) * 4 + 2, none⟩ = some (.slice a2b n2b c2b) ∧ w3.cell? ⟨g, (M + 1) * 4 + 3, none⟩ = some (.slice a3b n3b c3b)) := Lib.hid ⟨m0, m1, m2, m3, q0, q1, q2, q3⟩
        have hS : Hid (∀ w', Below w3.heap.size w3 w' → w'.cell? ⟨g, M * 4, none⟩ = some (.int .i64 xA) ∧ w'.cell? ⟨g, M * 4 + 1, none⟩ = some (.slice a1a n1a c1a) ∧ w'.cell? ⟨g, M * 4 + 2, none⟩ = some (.slice a2a n2a c2a) ∧ w'.cell? ⟨g, M * 4 + 3, none⟩ = some (.slice a3a n3a c3a) ∧ w'.cell? ⟨g, (M + 1) * 4, none⟩ = some (.int .i64 xB) ∧ w'.cell? ⟨g, (M + 1) * 4 + 1, none⟩ = some (.slice a1b n1b c1b) ∧ w'.cell? ⟨g, (M + 1) * 4 + 2, none⟩ = some (.slice a2b n2b c2b) ∧ w'.cell? ⟨g, (M + 1) * 4 + 3, none⟩ = some (.slice a3b n3b c3b)) := Lib.hid (fun w' hb => ⟨kpB (S := fun _ => True) hb _ _ trivial KD.out.1, kpB (S := fun _ => True) hb _ _ trivial KD.out.2.1, kpB (S := fun _ => True) hb _ _ trivial KD.out.2.2.1, kpB (S := fun _ => True) hb _ _ trivial KD.out.2.2.2.1, kpB (S := fun _ => True) hb _ _ trivial KD.out.2.2.2.2.1, kpB (S := fun _ => True) hb _ _ trivial KD.out.2.2.2.2.2.1, kpB (S := fun _ => True) hb _ _ trivial KD.out.2.2.2.2.2.2.1, kpB (S := fun _ => True) hb _ _ trivial KD.out.2.2.2.2.2.2.2⟩)
        go_wp2_with fail
        rw [← HW4.out]
        go_region_held3 (fun w' => w'.cell? ⟨g, M * 4, none⟩ = some (.int .i64 xA) ∧ w'.cell? ⟨g, M * 4 + 1, none⟩ = some (.slice a1a n1a c1a) ∧ w'.cell? ⟨g, M * 4 + 2, none⟩ = some (.slice a2a n2a c2a) ∧ w'.cell? ⟨g, M * 4 + 3, none⟩ = some (.slice a3a n3a c3a) ∧ w'.cell? ⟨g, (M + 1) * 4, none⟩ = some (.int .i64 xB) ∧ w'.cell? ⟨g, (M + 1) * 4 + 1, none⟩ = some (.slice a1b n1b c1b) ∧ w'.cell? ⟨g, (M + 1) * 4 + 2, none⟩ = some (.slice a2b n2b c2b) ∧ w'.cell? ⟨g, (M + 1) * 4 + 3, none⟩ = some (.slice a3b n3b c3b))
          (first | exact hS.out _ (by assumption) | exact hS.out _ (bel4 hc5 (Nat.le_refl _) _ _ _ _))
          (first | (go_at_call 103; rw [HXA.out, HXB.out]; refine (NfaJoin_c _ _ _ _ _ _ A B w4.drew HOA.out HOB.out).mono ?_; rintro e5' w5 ⟨vm, vf, ve, rfl, hb5, ho5⟩; rw [hx9.out, hzb.out]; obtain ⟨a1, n1, c1, rfl⟩ := ho5.out.1.sl; obtain ⟨a2, n2, c2, rfl⟩ := ho5.out.2.1.sl; obtain ⟨a3, n3, c3, rfl⟩ := ho5.out.2.2.1.sl; have hc5 := hb0.trans (hb5.mono hb0.size); have K5 := Lib.hid (blkBel (w := w4) ((Below.refl w4.heap.size w4).drew.trans hb5) K8.out); obtain ⟨q0, q1, q2, q3⟩ := blk4 K5.out; have qf := blkFz K5.out))
        clear d0 d1 HW4 m0 m1 m2 m3 q0 q1 q2 q3 HOA HOB KD hS
        have HB35 := Lib.hid hc5
        obtain ⟨w6, hw6⟩ : ∃ z, z = (((w5.setCell ⟨w3.heap.size, 0, none⟩ (.int .i64 x9)).setCell ⟨w3.heap.size, 1, none⟩ (.slice a1 n1 c1)).setCell ⟨w3.heap.size, 2, none⟩ (.slice a2 n2 c2)).setCell ⟨w3.heap.size, 3, none⟩ (.slice a3 n3 c3) := ⟨_, rfl⟩
        have HB36 : Hid (Below w3.heap.size w3 w6) := Lib.hid (by rw [hw6]; exact bel4 HB35.out (Nat.le_refl _) _ _ _ _)
        have K6 : Hid (w6.heap[w3.heap.size]? = some (.cells #[.int .i64 x9, .slice a1 n1 c1, .slice a2 n2 c2, .slice a3 n3 c3] 36 (0, 0))) := Lib.hid (by rw [hw6]; exact blk4s K5.out)
        have hz34 : w.heap.size + 1 ≤ w4.heap.size := by have := HB34.out.size; omega
        have HO6 : Hid (NfaO (w.heap.size + 1) w6 (.slice a1 n1 c1) (.slice a2 n2 c2) (.slice a3 n3 c3) _) := Lib.hid (by rw [hw6]; exact (ho5.out.base hz34).set4 _ (by omega) K5.out (by decide) _ _ _ _)
        rw [← hw6]
        have HW6 := Lib.hid hw6; clear hw6 ho5 hb5 hc5 hb0
        have hz60 : w.heap.size < w6.heap.size := (Array.getElem?_eq_some_iff.1 (blkBel HB36.out HR3.out)).1
        cases zb
        · have HNo := Lib.hid (prefix_no HE.out Hp'.out HU.out (by rw [HBU.out]; exact hzb.out))
          obtain ⟨e0, e1, e2, e3⟩ := blk4 (blkBel HB36.out HR3.out)
          have g1 := blkFz (blkBel HB36.out HR3.out)
          obtain ⟨q0, q1, q2, q3⟩ := blk4 K5.out
          have qf := blkFz K5.out
          go_wp2_with (rw [← HW6.out])
          refine bodyPost_ret (v := .tuple #[.agg #[.int .i64 0, .slice none 0 0, .slice none 0 0, .slice none 0 0], .bool false]) (by simp [results, Try.results44, go_sem, e0, e1, e2, e3, g1]) rfl ⟨_, _, _, by rw [HV.out.1, HV.out.2, HNo.out.1, HNo.out.2]; rfl, bel4 (HB3.out.trans (HB36.out.mono HB3.out.size)) (Nat.le_refl _) _ _ _ _, by rw [HV.out.1, HNo.out.1]; exact NfaO.nil _ _⟩
        have HALL := Lib.hid (HALL0.out hzb.out)
        have HT6 := HT3.out.stay HB36.out.drew
        obtain ⟨ps, hps, hown, hpo⟩ := HT6
        have hpl : ps.length = M := by rw [← List.length_map (f := fun p : NfaD × Value × Value × Value => p.1), hps]; exact HML.out
        have hps60 : ps.length ≤ 60 := by omega
        have HPS := Lib.hid hps; have HOWN := Lib.hid hown; have HPO := Lib.hid hpo; have HPL := Lib.hid hpl; have HPS60 := Lib.hid hps60; clear hps hown hpo hpl hps60
        obtain ⟨k0, k1, k2, k3⟩ := blk4 K6.out
        obtain ⟨q0, q1, q2, q3⟩ := blk4 K5.out
        have qf := blkFz K5.out
        have hz6 : w3.heap.size < w6.heap.size := (Array.getElem?_eq_some_iff.1 K6.out).1
        go_wp2_with (rw [← HW6.out])
        first | (go_region_law
          (refine stepAppAt elNfa (by decide) rfl (.tmp 75) (.tmp 77) rfl (w.heap.size + 1) _ ps.length (ps.flatMap nfCells) [.int .i64 x9, .slice a1 n1 c1, .slice a2 n2 c2, .slice a3 n3 c3] _ w6.heap.size rfl rfl (HOWN.out.alloc _) (by exact blkNew _ _ rfl) rfl (by simp [Value.oneCell']) (by have := HPS60.out; omega) (by simp; omega) ?_
           intro g7 cap7 w7 ho7 hg7 hat7)) | fail
        all_goals (
          have hg8 : w6.drew.grownBy w7 _ := grownTrans (grownBel ((Below.refl _ _).alloc (Nat.le_refl _) _)) hg7
          have hB7 := (HB3.out.trans (HB36.out.drew.mono HB3.out.size)).grown hg8 (Nat.le_of_lt hz60) (fun k hk => by have := (World.ownsRow.lt HOWN.out k hk).1; omega)
          have hS7 : Hid (NStk (w.heap.size + 1) w7 (.slice (some ⟨g7, 0, none⟩) (ps.length + 1) cap7) (nst s')) := Lib.hid (by
            rw [Hn.out]
            have h := NStk.push2 HPS.out HOWN.out HPO.out (HO6.out.stay (Below.refl _ _).drew) hg8 (by rw [hx9.out]; exact ho7.out)
            exact h)
          have hR7 := Lib.hid (blkGrow hg8 (blkBel HB36.out.drew HR3.out) (fun e => by have := (World.ownsRow.lt HOWN.out _ e.symm).1; omega))
          clear hg8 hg7 ho7 hat7 k0 k1 k2 k3 q0 q1 q2 q3 qf
          go_wp2
          go_roundw
          case rel => exact ⟨k + 1, s', by omega, by go_num, hB7, hR7, Hp', HALL, hS7⟩
          case measure => simp [intOf]; omega)
      · obtain rfl : n = 2 := by rw [HN3.out]; rfl
        have Hn := Lib.hid hn; have HALL0 := Lib.hid hall; have HU := Lib.hid hu; have HBU := Lib.hid hbu; clear hn hall hu hbu HPN HN3
        rw [hm] at HS3
        obtain ⟨M, hM⟩ : ∃ M, M = m.length := ⟨_, rfl⟩
        have hsM : s.length = M + 1 + 1 := by rw [← hnl, hm, hM]; simp
        obtain ⟨N, hN⟩ : ∃ N, N = s.length := ⟨_, rfl⟩
        rw [← hN] at HS3 hs60 hsM ⊢
        have HML : Hid (m.length = M) := Lib.hid hM.symm
        have hwr : IntKind.i64.wrap (M : Int) = (M : Int) := IntWalk.i64_in _ (by omega)
        have hwr1 : IntKind.i64.wrap ((M : Int) + 1) = (M : Int) + 1 := IntWalk.i64_in _ (by omega)
        have hM0 : (0 : Int) ≤ (M : Int) := Int.natCast_nonneg _
        have hM1 : (M : Int) < (N : Int) := by omega
        have hM2 : (M : Int) + 1 < (N : Int) := by omega
        have hwrN : IntKind.i64.wrap ((N : Int) - 2) = (M : Int) := by rw [show (N : Int) - 2 = (M : Int) by omega]; exact hwr
        have hM3 : (0 : Int) ≤ (M : Int) + 1 := by omega
        have HT3 : Hid (NStk (w.heap.size + 1) w3 (.slice aS M cS) m) := Lib.hid (by have h := HS3.out.take (m := M) (by rw [hsM, hM]; simp) (by simp [hM]); rw [hM, List.take_left] at h; rw [hM]; exact h)
        obtain ⟨g, hvg, hle, hg3⟩ := HS3.out.blk (by simp) (by rw [hsM, hM]; simp)
        subst hvg
        have hnI : (M : Int) ≤ (cS : Int) := by omega
        have hcne : ¬ cS = 0 := by omega
        obtain ⟨bS, oS, vma, vfa, vea, hE, m0, m1, m2, m3, hOA⟩ := HS3.out.at (k := M) (by simp [hM])
        cases hE
        obtain ⟨bS, oS, vmb, vfb, veb, hE, q0, q1, q2, q3, hOB⟩ := HS3.out.at (k := M + 1) (by simp [hM])
        cases hE
        simp only [hM, two0N, two1N] at hOA m0 hOB q0
        simp only [Nat.zero_add] at m0 m1 m2 m3 q0 q1 q2 q3
        rw [← hM] at m0 q0
        obtain ⟨a1a, n1a, c1a, rfl⟩ := hOA.1.sl
        obtain ⟨a2a, n2a, c2a, rfl⟩ := hOA.2.1.sl
        obtain ⟨a3a, n3a, c3a, rfl⟩ := hOA.2.2.1.sl
        obtain ⟨a1b, n1b, c1b, rfl⟩ := hOB.1.sl
        obtain ⟨a2b, n2b, c2b, rfl⟩ := hOB.2.1.sl
        obtain ⟨a3b, n3b, c3b, rfl⟩ := hOB.2.2.1.sl
        have hb0 : Below w3.heap.size w3 w4.drew := HB34.out.drew
        have HOA := Lib.hid (hOA.w.rd.stay (kpB hb0)); have HOB := Lib.hid (hOB.w.rd.stay (kpB hb0)); clear hOA hOB
        obtain ⟨xA, hxA⟩ : ∃ z, z = A.states := ⟨_, rfl⟩
        rw [← hxA] at m0
        obtain ⟨xB, hxB⟩ : ∃ z, z = B.states := ⟨_, rfl⟩
        rw [← hxB] at q0
        have HXA := Lib.hid hxA; have HXB := Lib.hid hxB; clear hxA hxB
        obtain ⟨x9, hx9⟩ : ∃ z, Hid ((eiN A B).states = z) := ⟨_, rfl⟩
        obtain ⟨zb, hzb⟩ : ∃ z, Hid (eiB A B = z) := ⟨_, rfl⟩
        have HM := Lib.hid hM; have HsM := Lib.hid hsM; clear hM hsM hnl hm hN
        have KD : Hid (w3.cell? ⟨g, M * 4, none⟩ = some (.int .i64 xA) ∧ w3.cell? ⟨g, M * 4 + 1, none⟩ = some (.slice a1a n1a c1a) ∧ w3.cell? ⟨g, M * 4 + 2, none⟩ = some (.slice a2a n2a c2a) ∧ w3.cell? ⟨g, M * 4 + 3, none⟩ = some (.slice a3a n3a c3a) ∧ w3.cell? ⟨g, (M + 1) * 4, none⟩ = some (.int .i64 xB) ∧ w3.cell? ⟨g, (M + 1) * 4 + 1, none⟩ = some (.slice a1b n1b c1b) ∧ w3.cell? ⟨g, (M + 1) * 4 + 2, none⟩ = some (.slice a2b n2b c2b) ∧ w3.cell? ⟨g, (M + 1) * 4 + 3, none⟩ = some (.slice a3b n3b c3b)) := Lib.hid ⟨m0, m1, m2, m3, q0, q1, q2, q3⟩
        have hS : Hid (∀ w', Below w3.heap.size w3 w' → w'.cell? ⟨g, M * 4, none⟩ = some (.int .i64 xA) ∧ w'.cell? ⟨g, M * 4 + 1, none⟩ = some (.slice a1a n1a c1a) ∧ w'.cell? ⟨g, M * 4 + 2, none⟩ = some (.slice a2a n2a c2a) ∧ w'.cell? ⟨g, M * 4 + 3, none⟩ = some (.slice a3a n3a c3a) ∧ w'.cell? ⟨g, (M + 1) * 4, none⟩ = some (.int .i64 xB) ∧ w'.cell? ⟨g, (M + 1) * 4 + 1, none⟩ = some (.slice a1b n1b c1b) ∧ w'.cell? ⟨g, (M + 1) * 4 + 2, none⟩ = some (.slice a2b n2b c2b) ∧ w'.cell? ⟨g, (M + 1) * 4 + 3, none⟩ = some (.slice a3b n3b c3b)) := Lib.hid (fun w' hb => ⟨kpB (S := fun _ => True) hb _ _ trivial KD.out.1, kpB (S := fun _ => True) hb _ _ trivial KD.out.2.1, kpB (S := fun _ => True) hb _ _ trivial KD.out.2.2.1, kpB (S := fun _ => True) hb _ _ trivial KD.out.2.2.2.1, kpB (S := fun _ => True) hb _ _ trivial KD.out.2.2.2.2.1, kpB (S := fun _ => True) hb _ _ trivial KD.out.2.2.2.2.2.1, kpB (S := fun _ => True) hb _ _ trivial KD.out.2.2.2.2.2.2.1, kpB (S := fun _ => True) hb _ _ trivial KD.out.2.2.2.2.2.2.2⟩)
        go_wp2_with fail
        rw [← HW4.out]
        go_region_held3 (fun w' => w'.cell? ⟨g, M * 4, none⟩ = some (.int .i64 xA) ∧ w'.cell? ⟨g, M * 4 + 1, none⟩ = some (.slice a1a n1a c1a) ∧ w'.cell? ⟨g, M * 4 + 2, none⟩ = some (.slice a2a n2a c2a) ∧ w'.cell? ⟨g, M * 4 + 3, none⟩ = some (.slice a3a n3a c3a) ∧ w'.cell? ⟨g, (M + 1) * 4, none⟩ = some (.int .i64 xB) ∧ w'.cell? ⟨g, (M + 1) * 4 + 1, none⟩ = some (.slice a1b n1b c1b) ∧ w'.cell? ⟨g, (M + 1) * 4 + 2, none⟩ = some (.slice a2b n2b c2b) ∧ w'.cell? ⟨g, (M + 1) * 4 + 3, none⟩ = some (.slice a3b n3b c3b))
          (first | exact hS.out _ (by assumption) | exact hS.out _ (bel4 hc5 (Nat.le_refl _) _ _ _ _))
          (first | (go_at_call 102; rw [HXA.out, HXB.out]; refine (NfaEither_c _ _ _ _ _ _ A B w4.drew HOA.out HOB.out).mono ?_; rintro e5' w5 ⟨vm, vf, ve, rfl, hb5, ho5⟩; rw [hx9.out, hzb.out]; obtain ⟨a1, n1, c1, rfl⟩ := ho5.out.1.sl; obtain ⟨a2, n2, c2, rfl⟩ := ho5.out.2.1.sl; obtain ⟨a3, n3, c3, rfl⟩ := ho5.out.2.2.1.sl; have hc5 := hb0.trans (hb5.mono hb0.size); have K5 := Lib.hid (blkBel (w := w4) ((Below.refl w4.heap.size w4).drew.trans hb5) K8.out); obtain ⟨q0, q1, q2, q3⟩ := blk4 K5.out; have qf := blkFz K5.out))
        clear d0 d1 HW4 m0 m1 m2 m3 q0 q1 q2 q3 HOA HOB KD hS
        have HB35 := Lib.hid hc5
        obtain ⟨w6, hw6⟩ : ∃ z, z = (((w5.setCell ⟨w3.heap.size, 0, none⟩ (.int .i64 x9)).setCell ⟨w3.heap.size, 1, none⟩ (.slice a1 n1 c1)).setCell ⟨w3.heap.size, 2, none⟩ (.slice a2 n2 c2)).setCell ⟨w3.heap.size, 3, none⟩ (.slice a3 n3 c3) := ⟨_, rfl⟩
        have HB36 : Hid (Below w3.heap.size w3 w6) := Lib.hid (by rw [hw6]; exact bel4 HB35.out (Nat.le_refl _) _ _ _ _)
        have K6 : Hid (w6.heap[w3.heap.size]? = some (.cells #[.int .i64 x9, .slice a1 n1 c1, .slice a2 n2 c2, .slice a3 n3 c3] 36 (0, 0))) := Lib.hid (by rw [hw6]; exact blk4s K5.out)
        have hz34 : w.heap.size + 1 ≤ w4.heap.size := by have := HB34.out.size; omega
        have HO6 : Hid (NfaO (w.heap.size + 1) w6 (.slice a1 n1 c1) (.slice a2 n2 c2) (.slice a3 n3 c3) _) := Lib.hid (by rw [hw6]; exact (ho5.out.base hz34).set4 _ (by omega) K5.out (by decide) _ _ _ _)
        rw [← hw6]
        have HW6 := Lib.hid hw6; clear hw6 ho5 hb5 hc5 hb0
        have hz60 : w.heap.size < w6.heap.size := (Array.getElem?_eq_some_iff.1 (blkBel HB36.out HR3.out)).1
        cases zb
        · have HNo := Lib.hid (prefix_no HE.out Hp'.out HU.out (by rw [HBU.out]; exact hzb.out))
          obtain ⟨e0, e1, e2, e3⟩ := blk4 (blkBel HB36.out HR3.out)
          have g1 := blkFz (blkBel HB36.out HR3.out)
          obtain ⟨q0, q1, q2, q3⟩ := blk4 K5.out
          have qf := blkFz K5.out
          go_wp2_with (rw [← HW6.out])
          refine bodyPost_ret (v := .tuple #[.agg #[.int .i64 0, .slice none 0 0, .slice none 0 0, .slice none 0 0], .bool false]) (by simp [results, Try.results44, go_sem, e0, e1, e2, e3, g1]) rfl ⟨_, _, _, by rw [HV.out.1, HV.out.2, HNo.out.1, HNo.out.2]; rfl, bel4 (HB3.out.trans (HB36.out.mono HB3.out.size)) (Nat.le_refl _) _ _ _ _, by rw [HV.out.1, HNo.out.1]; exact NfaO.nil _ _⟩
        have HALL := Lib.hid (HALL0.out hzb.out)
        have HT6 := HT3.out.stay HB36.out.drew
        obtain ⟨ps, hps, hown, hpo⟩ := HT6
        have hpl : ps.length = M := by rw [← List.length_map (f := fun p : NfaD × Value × Value × Value => p.1), hps]; exact HML.out
        have hps60 : ps.length ≤ 60 := by omega
        have HPS := Lib.hid hps; have HOWN := Lib.hid hown; have HPO := Lib.hid hpo; have HPL := Lib.hid hpl; have HPS60 := Lib.hid hps60; clear hps hown hpo hpl hps60
        obtain ⟨k0, k1, k2, k3⟩ := blk4 K6.out
        obtain ⟨q0, q1, q2, q3⟩ := blk4 K5.out
        have qf := blkFz K5.out
        have hz6 : w3.heap.size < w6.heap.size := (Array.getElem?_eq_some_iff.1 K6.out).1
        go_wp2_with (rw [← HW6.out])
        first | (go_region_law
          (refine stepAppAt elNfa (by decide) rfl (.tmp 75) (.tmp 77) rfl (w.heap.size + 1) _ ps.length (ps.flatMap nfCells) [.int .i64 x9, .slice a1 n1 c1, .slice a2 n2 c2, .slice a3 n3 c3] _ w6.heap.size rfl rfl (HOWN.out.alloc _) (by exact blkNew _ _ rfl) rfl (by simp [Value.oneCell']) (by have := HPS60.out; omega) (by simp; omega) ?_
           intro g7 cap7 w7 ho7 hg7 hat7)) | fail
        all_goals (
          have hg8 : w6.drew.grownBy w7 _ := grownTrans (grownBel ((Below.refl _ _).alloc (Nat.le_refl _) _)) hg7
          have hB7 := (HB3.out.trans (HB36.out.drew.mono HB3.out.size)).grown hg8 (Nat.le_of_lt hz60) (fun k hk => by have := (World.ownsRow.lt HOWN.out k hk).1; omega)
          have hS7 : Hid (NStk (w.heap.size + 1) w7 (.slice (some ⟨g7, 0, none⟩) (ps.length + 1) cap7) (nst s')) := Lib.hid (by
            rw [Hn.out]
            have h := NStk.push2 HPS.out HOWN.out HPO.out (HO6.out.stay (Below.refl _ _).drew) hg8 (by rw [hx9.out]; exact ho7.out)
            exact h)
          have hR7 := Lib.hid (blkGrow hg8 (blkBel HB36.out.drew HR3.out) (fun e => by have := (World.ownsRow.lt HOWN.out _ e.symm).1; omega))
          clear hg8 hg7 ho7 hat7 k0 k1 k2 k3 q0 q1 q2 q3 qf
          go_wp2
          go_roundw
          case rel => exact ⟨k + 1, s', by omega, by go_num, hB7, hR7, Hp', HALL, hS7⟩
          case measure => simp [intOf]; omega)
    · obtain rfl : k = e.length := by omega
      rw [List.take_length, HE.out] at hp
      obtain rfl : [t] = s := by have := hp.out; cases this; rfl
      have htb := Lib.hid (hs.out t (by simp))
      have ho1 : NStk (w.heap.size + 1) wr _ [bN t] := ho.out
      obtain ⟨aS, cS, hv, _⟩ := ho1.shape
      change _ = Value.slice aS 1 cS at hv
      subst hv
      obtain ⟨bS, oS, vm, vf, ve, rfl, m0, m1, m2, m3, hO⟩ := ho1.at (k := 0) (by simp)
      simp only [Nat.zero_mul, Nat.add_zero, List.getElem_cons_zero] at m0 m1 m2 m3 hO
      have HO := Lib.hid (hO.base (base' := w.heap.size) (by omega)); clear hO ho1 ho
      obtain ⟨a1', n1, ca1, rfl⟩ := HO.out.1.sl
      obtain ⟨a2', n2, ca2, rfl⟩ := HO.out.2.1.sl
      obtain ⟨a3', n3, ca3, rfl⟩ := HO.out.2.2.1.sl
      obtain ⟨x9, hx9⟩ : ∃ z, Hid ((bN t).states = z) := ⟨_, rfl⟩
      rw [hx9.out] at m0
      obtain ⟨e0, e1, e2, e3⟩ := blk4 h2.out
      have g1 := blkFz h2.out
      go_wp2
      refine bodyPost_ret (v := .tuple #[.agg #[.int .i64 x9, .slice a1' n1 ca1, .slice a2' n2 ca2, .slice a3' n3 ca3], .bool true]) (by simp [results, Try.results44, go_sem, e0, e1, e2, e3, g1]) rfl ⟨_, _, _, by rw [HV.out.1, HV.out.2, htb.out, hx9.out], bel4 hb.out (Nat.le_refl _) _ _ _ _, ?_⟩
      rw [HV.out.1]
      exact HO.out.set4 _ (by omega) h2.out (by decide) _ _ _ _
theorem bvSmall (e : List (Int × Int)) : smallW (bvN e) := by
  have hs0 : smallW nfa0 := by unfold smallW nfa0; simp
  have hs : ∀ t : Re, smallW (bN t) := fun t => by
    cases t with
    | none => exact hs0
    | empty => show smallW ⟨1, [], [0], [0]⟩; unfold smallW; simp
    | letter c => show smallW ⟨2, [(0, c, 1)], [0], [1]⟩; unfold smallW; simp
    | join a b =>
      cases ha : bB a
      · rw [(bJoin_noA ha).1]; exact hs0
      · cases hb : bB b
        · rw [(bJoin_noB hb).1]; exact hs0
        · rw [(bJoin_yes ha hb).1]; exact jnSmall _ _
    | either a b =>
      cases ha : bB a
      · rw [(bEither_noA ha).1]; exact hs0
      · cases hb : bB b
        · rw [(bEither_noB hb).1]; exact hs0
        · rw [(bEither_yes ha hb).1]; exact eiSmall _ _
    | both a b => exact hs0
    | not a => exact hs0
    | star a =>
      cases ha : bB a
      · rw [(bStar_no ha).1]; exact hs0
      · rw [(bStar_yes ha).1]; exact stSmall _
  cases h : plT e with
  | none => rw [(bv_none h).1]; exact hs0
  | some t => rw [(bv_some h).1]; exact hs t
end Go.Proofs.Ytnjddneelkdmoaa

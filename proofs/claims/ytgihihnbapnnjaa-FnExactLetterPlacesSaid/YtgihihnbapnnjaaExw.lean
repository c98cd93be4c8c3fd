/- Expressions: which are valid (the reference's). Lists of at most 2^20 parts. -/
import Derived.Test.YtgihihnbapnnjaaExv
namespace Go.Proofs.Ytgihihnbapnnjaa
open Go.RowKit
set_option maxRecDepth 100000
variable {S : Nat → Prop}

theorem take_dep (e : List (Int × Int)) (k : Nat) (h : k < e.length) : dep (e.take (k + 1)) = dstep (dep (e.take k)) e[k] := by
  rw [List.take_succ_eq_append_getElem h, dep_snoc]
theorem dstep_yes {d : Nat} {p : Int × Int} (h : pOk p.1 p.2) (k : pNeeds p.1 ≤ d) : dstep (some d) p = some (d - pNeeds p.1 + 1) := by simp [dstep, h, k]
theorem dstep_no {d : Nat} {p : Int × Int} (h : ¬ (pOk p.1 p.2 ∧ pNeeds p.1 ≤ d)) : dstep (some d) p = none := by simp only [dstep, Option.bind_some, if_neg h]
theorem not_of_take {e : List (Int × Int)} {k : Nat} (h : dep (e.take k) = none) : ¬ ExprOk e := fun h' => by have := h'.1; rw [dep_take_none h] at this; cases this

set_option maxHeartbeats 800000 in
theorem sExprValid_c (v : Value) (e : List (Int × Int)) (w : World) (h : Pairs S w v e) (hn : e.length ≤ 1048576) :
    Calls Try.prog 60 #[v] w (RBn w (ExprOk e)) := by
  obtain ⟨a, cap, rfl, _⟩ := h.shape
  have H := Lib.hid h; clear h
  go_enter Try.func60, Try.ntmps60
  go_wp2_with fail
  go_loopw [3, 4] (fun d i wr => ∃ k n : Nat, k ≤ e.length ∧ i = .int .i64 k ∧ d = .int .i64 n ∧ n ≤ k ∧ Below w.heap.size w wr ∧ Hid (dep (e.take k) = some n)) (fun _ i _ => e.length - (intOf i).toNat)
  case atStart => exact ⟨0, 0, by omega, rfl, rfl, by omega, Below.refl _ _, rfl⟩
  case round =>
    obtain ⟨k, n, hk, rfl, rfl, hnk, hb, hd⟩ := hrel
    by_cases hlt : k < e.length
    · obtain ⟨b, off, rfl, c0, c1⟩ := (H.out.stay (kpB hb)).at hlt
      have ht := Lib.hid (take_dep e k hlt)
      go_wp2_with fail
      refine (sPartNeeds_c e[k].1 e[k].2 wr).mono ?_
      rintro x w1 ⟨m, rfl, hb1, hm⟩
      rcases hm.out with ⟨hok, hm, hm0, hm2⟩ | ⟨hok, hm⟩
      · have Hok := Lib.hid hok
        by_cases hle : m ≤ (n : Int)
        · have hst := Lib.hid (dstep_yes hok (d := n) (by omega))
          have hm' : ((n - pNeeds e[k].1 + 1 : Nat) : Int) = n - m + 1 := by omega
          have Hm := Lib.hid hm'; clear hm' hm hok
          go_wp2
          go_roundw
          case rel => exact ⟨k + 1, _, by omega, by go_num, by rw [Hm.out], by have := Hm.out; omega, hb.trans (hb1.mono hb.size), Lib.hid (by rw [ht.out, hd.out, hst.out])⟩
          case measure => simp [intOf]; omega
        · have hst := Lib.hid (dstep_no (d := n) (p := e[k]) (fun h => by have := h.2; omega))
          clear hm hok
          go_wp2
          go_ret
          exact RBn.mk (hb.trans (hb1.mono hb.size)) ⟨nofun, fun h => (not_of_take (by rw [ht.out, hd.out, hst.out]) h).elim⟩
      · subst hm
        have hst := Lib.hid (dstep_no (d := n) (p := e[k]) (fun h => hok h.1))
        clear hok
        go_wp2
        go_ret
        exact RBn.mk (hb.trans (hb1.mono hb.size)) ⟨nofun, fun h => (not_of_take (by rw [ht.out, hd.out, hst.out]) h).elim⟩
    · obtain rfl : k = e.length := by omega
      rw [List.take_length] at hd
      have hE : ExprOk e ↔ (n = 1 ∧ e.length ≤ 60) := by unfold ExprOk; rw [hd.out]; simp
      have HE := Lib.hid hE; clear hE
      by_cases h1 : n = 1
      · subst h1
        go_wp2
        go_ret
        exact RBn.mk hb (by rw [HE.out]; simp <;> omega)
      · have e1 : ((n : Int) == 1) = false := by simp; omega
        go_wp2
        go_ret
        exact RBn.mk hb ⟨nofun, fun h => (h1 (HE.out.1 h).1).elim⟩
end Go.Proofs.Ytgihihnbapnnjaa

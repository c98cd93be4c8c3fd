/- Lists of places joined: where they ascend, the second behind the first. -/
import Derived.Test.YtnjddneelkdmoaaGG
set_option linter.unusedSimpArgs false
set_option linter.unusedVariables false
set_option linter.unusedSectionVars false
namespace Go.Proofs.Ytnjddneelkdmoaa
open Go.RowKit
set_option maxRecDepth 100000
variable {S T : Nat → Prop}
set_option maxHeartbeats 400000 in
theorem l7NameNo_c (v : Value) (xs : List Int) (x : Int) (w : World) (h : Ints S w v xs) (hx : ∀ y ∈ xs, y ≠ x) :
    Calls Try.prog 120 #[v, .int .i64 x] w (fun e w' => e = .returned (.int .i64 (-1)) ∧ w' = w) := by
  obtain ⟨a, cap, rfl, hn⟩ := h.shape
  have H := Lib.hid h; clear h
  have HX := Lib.hid hx; clear hx
  go_enter Try.func120, Try.ntmps120
  go_wp2
  go_loop [5] (fun i => ∃ j : Nat, j ≤ xs.length ∧ i = .int .i64 j) (fun i => xs.length - (intOf i).toNat)
  case atStart => exact ⟨0, by omega, rfl⟩
  case round =>
    obtain ⟨j, hj, rfl⟩ := hrel
    by_cases hlt : j < xs.length
    · obtain ⟨b, off, rfl, hc⟩ := H.out.at (k := j) hlt
      have hjI : (j : Int) < (xs.length : Int) := by omega
      have hne : (xs[j] == x) = false := by
        have := HX.out _ (List.getElem_mem hlt)
        simpa using this
      generalize xs[j] = y at *
      go_wp2
      go_round
      case rel => exact ⟨j + 1, by omega, by go_num⟩
      case measure => simp [intOf]; omega
    · obtain rfl : j = xs.length := by omega
      go_wp2
      go_ret
      exact ⟨rfl, rfl⟩
theorem growBel {B : Nat} {a b : World} {row : Option Nat} (h : a.grownBy b row) (hs : B ≤ a.heap.size) (hr : ∀ k, row = some k → B ≤ k) : Below B a b :=
  ⟨h.os, h.tape, h.output, h.size, fun k hk => h.block k (by omega) (fun e => by have := hr k (by first | exact e | exact e.symm); omega)⟩
set_option maxHeartbeats 2000000 in
theorem l12Join_c (v u : Value) (xs ys : List Int) (w : World) (hv : Ints S w v xs) (hu : Ints T w u ys) (hs : (xs ++ ys).Pairwise (· < ·)) (hl : (xs ++ ys).length ≤ 100000) :
    Calls Try.prog 160 #[v, u] w (RVn w fun v w' => OwnI w' w.heap.size v (xs ++ ys)) := by
  obtain ⟨a, ca, rfl, hna⟩ := hv.shape
  obtain ⟨b, cb, rfl, hnb⟩ := hu.shape
  obtain ⟨W, hW⟩ : ∃ W, W = w.alloc (.cells #[] 3) := ⟨_, rfl⟩
  have Hb0 : Hid (Below w.heap.size w W) := by rw [hW]; exact (Below.refl _ _).alloc (Nat.le_refl _) _
  have HO : Hid (OwnI W w.heap.size (.slice (some ⟨w.heap.size, 0, none⟩) 0 0) []) := by rw [hW]; exact ownLit (n := 0) [] (Nat.le_refl _) (by omega) rfl
  have HV := Lib.hid (hv.stay (kpB Hb0.out))
  have HU := Lib.hid hu
  have HS := Lib.hid hs
  have hl2 : xs.length + ys.length ≤ 100000 := by rw [List.length_append] at hl; exact hl
  have hbs := Hb0.out.size
  clear hv hu hs hl
  subst hW
  go_enter Try.func160, Try.ntmps160
  go_wp2_with (at_builtin; refine appMany elInt (by decide) rfl (.tmp 10) (.tmp 11) rfl w.heap.size _ _ 0 xs.length [] (xs.map (.int .i64 ·)) _ rfl rfl HO.out HV.out (by simp) (by simp [Value.oneCell']) (by omega) hbs ?_; intro v1 w1 h1 hg1)
  have hb1 : Below w.heap.size w w1 := (Below.refl _ _ |>.alloc (Nat.le_refl _) _).trans (growBel hg1 (by simp) (fun k e => by have e2 : some w.heap.size = some k := e; injection e2 with e3; omega))
  have ho1 : Hid (OwnI w1 w.heap.size v1 xs) := Lib.hid (by have h := h1.out; rw [Nat.zero_add, List.nil_append] at h; exact h)
  clear h1 hg1 HO HV Hb0
  have HB1 := Lib.hid hb1
  clear hb1
  go_loopw [5, 6] (fun v i wr => ∃ k : Nat, k ≤ ys.length ∧ i = .int .i64 k ∧ Hid (Below w.heap.size w wr) ∧ Hid (OwnI wr w.heap.size v (xs ++ ys.take k))) (fun _ i _ => ys.length - (intOf i).toNat)
  case atStart => exact ⟨0, by omega, rfl, HB1, Lib.hid (by rw [List.take_zero, List.append_nil]; exact ho1.out)⟩
  case round =>
    obtain ⟨k, hk, rfl, hb, ho⟩ := hrel
    clear ho1 HB1
    obtain ⟨av, cv, rfl, _⟩ := ho.out.shape
    have hbs2 := hb.out.size
    by_cases hlt : k < ys.length
    · have hkI : (k : Int) < (ys.length : Int) := by omega
      obtain ⟨bb, ob, rfl, hc⟩ := (HU.out.stay (kpB hb.out)).at hlt
      have hno : Hid (∀ y ∈ xs ++ ys.take k, y ≠ ys[k]) := Lib.hid (by
        have e : xs ++ ys = (xs ++ ys.take k) ++ ys.drop k := by rw [List.append_assoc, List.take_append_drop]
        have h := HS.out
        rw [e, List.drop_eq_getElem_cons hlt, List.pairwise_append] at h
        intro y hy
        have := h.2.2 y hy ys[k] List.mem_cons_self
        omega)
      have hstep : Hid (xs ++ ys.take (k + 1) = (xs ++ ys.take k) ++ [ys[k]]) := Lib.hid (by rw [List.take_succ_eq_append_getElem hlt, List.append_assoc])
      have hlen : Hid ((xs ++ ys.take k).length ≤ 1000000000) := Lib.hid (by rw [List.length_append, List.length_take]; omega)
      obtain ⟨zs, hzs⟩ : ∃ z, z = xs ++ ys.take k := ⟨_, rfl⟩
      rw [← hzs] at hno hstep hlen ho ⊢
      generalize ys[k] = y at *
      replace hzs := Lib.hid hzs
      go_wp2_with fail
      refine (l7NameNo_c _ zs y wr ho.out.rd hno.out).mono ?_
      rintro e w5 ⟨rfl, rfl⟩
      go_wp2_with (at_builtin; refine appInt rfl (.tmp 26) (.tmp 31) rfl w.heap.size _ zs _ _ rfl rfl ho.out hlen.out hbs2 ?_; intro v8 w8 h8 hg8)
      go_roundw
      case rel => exact ⟨k + 1, by omega, by go_num, Lib.hid (hb.out.trans (growBel hg8 hbs2 (fun g e => (World.ownsRow.lt ho.out g e).1))), by rw [hstep.out]; exact h8⟩
      case measure => simp [intOf]; omega
    · obtain rfl : k = ys.length := by omega
      have ho2 : Hid (OwnI wr w.heap.size (.slice av (xs ++ ys).length cv) (xs ++ ys)) := Lib.hid (by have h := ho.out; rw [List.take_length] at h; exact h)
      have hsl : (xs ++ ys.take ys.length).length = (xs ++ ys).length := by rw [List.take_length]
      rw [hsl]
      have hzl : (xs ++ ys).length ≤ 100000 := by rw [List.length_append]; exact hl2
      clear hsl ho hk
      obtain ⟨zs, hz⟩ : ∃ z, z = xs ++ ys := ⟨_, rfl⟩
      rw [← hz] at ho2 HS hzl ⊢
      replace hz := Lib.hid hz
      have HB := Lib.hid hb.out
      clear hb
      go_wp2
      go_loopw [7] (fun i wq => ∃ k : Nat, 1 ≤ k ∧ k ≤ zs.length + 1 ∧ i = .int .i64 k ∧ Hid (Below w.heap.size w wq) ∧ Hid (OwnI wq w.heap.size (.slice av zs.length cv) zs)) (fun i _ => zs.length + 1 - (intOf i).toNat)
      case atStart => exact ⟨1, by omega, by omega, rfl, HB, ho2⟩
      case round =>
        obtain ⟨k, hk1, hk2, rfl, hb, ho⟩ := hrel
        clear ho2 HB
        generalize wr = wq at *
        by_cases hlt : k < zs.length
        · have hkI : (k : Int) < (zs.length : Int) := by omega
          obtain ⟨m, rfl⟩ : ∃ m, k = m + 1 := ⟨k - 1, by omega⟩
          have hm : m < zs.length := by omega
          obtain ⟨bb, ob, rfl, hc⟩ := ho.out.rd.at hlt
          obtain ⟨b2, o2, e2, hc2⟩ := ho.out.rd.at hm
          cases e2
          have hord : zs[m] < zs[m + 1] := List.pairwise_iff_getElem.1 HS.out m (m + 1) hm hlt (by omega)
          generalize zs[m] = y1 at *
          generalize zs[m + 1] = y2 at *
          have hordd : decide (y2 < y1) = false := by simp; omega
          have hk0 : (0 : Int) < ((m + 1 : Nat) : Int) := by omega
          have hm1 : ((m + 1 : Nat) : Int) - 1 = (m : Int) := by omega
          have hmI : (m : Int) < (zs.length : Int) := by omega
          go_wp2
          go_loopw [8] (fun j wp => j = .int .i64 ((m + 1 : Nat) : Int) ∧ wp = wq) (fun _ _ => 0)
          case atStart => exact ⟨rfl, rfl⟩
          case round =>
            obtain ⟨rfl, rfl⟩ := hrel
            go_wp2_with fail
            go_quiet (fail)
            go_wp2
            go_roundw
            case rel => exact ⟨m + 1 + 1, by omega, by omega, by go_num, Lib.hid (belDrewN hb.out _), ho⟩
            case measure => simp [intOf]; omega
        · have hge : (zs.length : Int) ≤ (k : Int) := by omega
          go_wp2
          go_ret
          exact RVn.mk hb.out (by show OwnI _ _ _ (xs ++ ys); rw [← hz.out]; exact ho.out)
end Go.Proofs.Ytnjddneelkdmoaa

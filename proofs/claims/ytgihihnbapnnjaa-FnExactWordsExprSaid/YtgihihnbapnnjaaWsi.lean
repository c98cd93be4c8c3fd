/- WordsExpr: the program's. -/
import Derived.Test.YtgihihnbapnnjaaWss
import Derived.Test.YtgihihnbapnnjaaNfv
namespace Go.Proofs.Ytgihihnbapnnjaa
open Go.RowKit
set_option maxRecDepth 100000
variable {S T : Nat → Prop}
theorem idxFuncStr_c (v : Value) (xs : List ByteArray) (w : World) (h : Strs S w v xs) (f : FuncId) (cs : Array Value) (p : ByteArray → Prop) (hcf : HasBody f)
    (hf : ∀ x ∈ xs, ∀ w', Below w.heap.size w w' → Calls Try.prog f (#[.string x] ++ cs) w' (RBn w' (p x))) :
    Calls Try.prog 123 #[v, .func (.func f) #[] cs] w (RIn w fun n => (n = -1 ∧ ∀ x ∈ xs, ¬ p x) ∨ (0 ≤ n ∧ ∃ x ∈ xs, p x)) := by
  obtain ⟨a, cap, rfl, hn⟩ := h.shape
  have H := Lib.hid h; clear h
  have HF := Lib.hid hf; clear hf
  have HC := Lib.hid hcf; clear hcf
  go_enter Try.func123, Try.ntmps123
  go_wp2
  go_loopw [8] (fun i wr => ∃ k : Nat, k ≤ xs.length ∧ i = .int .i64 k ∧ Below w.heap.size w wr ∧ Hid (∀ j (hj : j < xs.length), j < k → ¬ p xs[j])) (fun i _ => xs.length - (intOf i).toNat)
  case atStart => exact ⟨0, by omega, rfl, Below.refl _ _, fun j _ hj => absurd hj (Nat.not_lt_zero _)⟩
  case round =>
    obtain ⟨k, hk, rfl, hb, hr⟩ := hrel
    by_cases hlt : k < xs.length
    · obtain ⟨b, off, rfl, h0⟩ := (Strs.stay H.out (kpB hb)).at hlt
      have Hf := Lib.hid (HF.out _ (List.getElem_mem hlt) wr hb)
      obtain ⟨x, hx⟩ : ∃ x, x = xs[k] := ⟨_, rfl⟩
      rw [← hx] at h0 Hf
      have Hx := Lib.hid hx; clear hx
      go_wp2_with fail
      rw [HC.out, Oper.upon_enter]
      refine Hf.out.mono ?_
      rintro e w' ⟨b, rfl, hb2, hbp⟩
      have hB := hb.trans (hb2.mono hb.size)
      clear h0 hb hb2
      cases b
      · have hp := Lib.hid (hbF hbp); clear hbp
        go_wp2
        go_roundw
        case rel => exact ⟨k + 1, by omega, by go_num, hB, fun j hj hjk => by
          rcases Nat.lt_succ_iff_lt_or_eq.1 hjk with h | rfl
          · exact hr.out j hj h
          · rw [← Hx.out]; exact hp.out⟩
        case measure => simp [intOf]; omega
      · have hp := Lib.hid (hbT hbp); clear hbp
        go_wp2
        go_ret
        exact RIn.mk hB (.inr ⟨by omega, x, by rw [Hx.out]; exact List.getElem_mem hlt, hp.out⟩)
    · go_wp2
      go_ret
      exact RIn.mk hb (.inl ⟨rfl, fun x hx => by
        obtain ⟨j, hj, rfl⟩ := List.getElem_of_mem hx
        exact hr.out j hj (by omega)⟩)
theorem contFuncStr_c (v : Value) (xs : List ByteArray) (w : World) (h : Strs S w v xs) (f : FuncId) (cs : Array Value) (p : ByteArray → Prop) (hcf : HasBody f)
    (hf : ∀ x ∈ xs, ∀ w', Below w.heap.size w w' → Calls Try.prog f (#[.string x] ++ cs) w' (RBn w' (p x))) :
    Calls Try.prog 65 #[v, .func (.func f) #[] cs] w (RBn w (∃ x ∈ xs, p x)) := by
  have H := Lib.hid (idxFuncStr_c v xs w h f cs p hcf hf)
  clear h hf hcf
  go_enter Try.func65, Try.ntmps65
  go_wp2_with fail
  refine H.out.mono ?_
  rintro e w' ⟨n, rfl, hb, hn⟩
  rcases hn.out with ⟨rfl, h⟩ | ⟨h0, h⟩
  · have h' := Lib.hid h
    clear hn h
    go_wp2
    go_ret
    exact RBn.mk hb ⟨nofun, fun ⟨x, hx, hp⟩ => (h'.out x hx hp).elim⟩
  · have h' := Lib.hid h
    clear hn h
    go_wp2
    go_ret
    exact RBn.mk hb ⟨fun _ => h'.out, fun _ => rfl⟩
theorem notWord_c (s : ByteArray) (w : World) (hs : s.size ≤ maxLen) : Calls Try.prog 66 (#[.string s] ++ #[]) w (RBn w (¬ wOk s)) := by
  go_enter Try.func66, Try.ntmps66
  go_wp2_with fail
  refine (WordValid_c _ _ hs).mono ?_
  rintro e w' ⟨b, rfl, rfl, hb⟩
  cases b
  · have h := Lib.hid (hbF hb); clear hb
    go_wp2
    go_ret
    exact RBn.mk (Below.refl _ _) ⟨fun _ => h.out, fun _ => rfl⟩
  · have h := Lib.hid (hbT hb); clear hb
    go_wp2
    go_ret
    exact RBn.mk (Below.refl _ _) ⟨nofun, fun k => (k h.out).elim⟩
theorem body_notWord : HasBody 66 := by
  intro args w
  kernel_rfl
theorem WordsExpr_nil (v : Value) (w : World) (h : Strs S w v []) : Calls Try.prog 27 #[v] w (RPb w (wsP []) (wsv [])) := by
  obtain ⟨a, cap, rfl, hn⟩ := h.shape
  have H := Lib.hid h; clear h
  have HP : Hid (wsP []) := ⟨nofun, by simp [wsf]⟩
  have Ho : Hid (wsv [] = [(1, 0)]) := wsv_yes HP.out
  go_enter Try.func27, Try.ntmps27
  go_wp2_with fail
  refine (contFuncStr_c _ [] w H.out _ #[] (fun s => ¬ wOk s) body_notWord (fun s hs w' _ => notWord_c s w' (H.out.2 s hs))).mono ?_
  rintro e w1 ⟨b1, rfl, hb, hv⟩
  have Hb := Lib.hid hb; clear hb
  cases b1
  rotate_left
  · obtain ⟨s, hs, _⟩ := hbT hv
    cases hs
  clear hv
  go_wp2_with fail
  refine (leaf_c 1 w1).mono ?_
  rintro e w2 ⟨v2, rfl, hb2, ho2⟩
  have hB := Hb.out.trans (hb2.mono Hb.out.size)
  have hO := Lib.hid (ownBase ho2.out Hb.out.size)
  go_wp2
  exact bodyPost_ret (results_tmp2 rfl _ _ _) rfl ⟨_, _, rfl, hB, ⟨fun _ => HP.out, fun _ => rfl⟩, by rw [Ho.out]; exact hO.out⟩
theorem noWords {ss : List ByteArray} {k : Nat} (h : k ≤ ss.length) (hb : 60 < (wsf ss k).length) : ¬ wsP ss := fun hp => by
  have := wsf_mono ss h
  have := hp.2
  omega
set_option maxHeartbeats 2000000 in
theorem WordsExpr_cons (v : Value) (ss : List ByteArray) (m : Nat) (w : World) (h : Strs S w v ss) (hm : ss.length = m + 1) : Calls Try.prog 27 #[v] w (RPb w (wsP ss) (wsv ss)) := by
  obtain ⟨a, cap, rfl, hn⟩ := h.shape
  have hcap : ss.length ≤ cap := Fl.cap h.1
  have hp0 : 0 < ss.length := by omega
  obtain ⟨b, off, rfl, hc0⟩ := h.at hp0
  rw [hm] at h hn hcap ⊢
  have H := Lib.hid h; clear h
  have Hm := Lib.hid hm; clear hm
  have hg : ∀ k (h : k < ss.length), ss.getD k ByteArray.empty = ss[k] := fun k h => by rw [List.getD_eq_getElem?_getD, List.getElem?_eq_getElem h]; rfl
  have Hg := Lib.hid hg; clear hg
  go_enter Try.func27, Try.ntmps27
  go_wp2_with fail
  refine (contFuncStr_c _ ss w H.out _ #[] (fun s => ¬ wOk s) body_notWord (fun s hs w' _ => notWord_c s w' (H.out.2 s hs))).mono ?_
  rintro e w1 ⟨b1, rfl, hb, hv⟩
  have Hb := Lib.hid hb; clear hb
  cases b1
  rotate_left
  · have HN : Hid (¬ wsP ss) := fun h => by
      obtain ⟨s, hs, hn⟩ := hbT hv
      exact hn (h.1 s hs)
    have Ho := Lib.hid (wsv_no HN.out); clear hv
    go_wp2
    exact bodyPost_ret (results_tmp2 rfl _ _ _) rfl ⟨_, _, rfl, Hb.out, ⟨nofun, fun h => (HN.out h).elim⟩, by rw [Ho.out]; exact World.ownsRow_nil _ _ _ _⟩
  have hall : Hid (∀ s ∈ ss, wOk s) := fun s hs => Classical.byContradiction fun h => hbF hv ⟨s, hs, h⟩
  clear hv
  have hpos : 0 < ss.length := by have := Hm.out; omega
  have hw0 : Hid (wOk ss[0]) := hall.out _ (List.getElem_mem hpos)
  have hst1 : Hid (wsf ss 1 = weX ss[0].data.toList) := Lib.hid (by rw [wsf, if_pos rfl, Hg.out 0 hpos])
  have hlen1 : (wsf ss 1).length ≤ 17 := by
    rw [hst1.out]; have := weX_len ss[0].data.toList; have h8 := hw0.out.2
    have : ss[0].data.toList.length ≤ 8 := by simpa using h8
    omega
  rw [Nat.add_zero] at hc0
  replace hc0 := kpB (S := fun _ => True) Hb.out _ _ trivial hc0
  generalize hs0 : ss[0] = s0 at *
  go_wp2_with fail
  refine (wordExpr_c s0 w1 hw0.out).mono ?_
  rintro e w2 ⟨v2, rfl, hb2, ho2⟩
  have HB := Lib.hid (Hb.out.trans (hb2.mono Hb.out.size))
  have HO : Hid (OwnP w2 w.heap.size v2 (wsf ss 1)) := Lib.hid (by rw [hst1.out]; exact ownBase ho2.out Hb.out.size)
  clear hb2 ho2 hc0 Hb hs0 hst1 hw0 hpos hp0
  have HL1 := Lib.hid hlen1; clear hlen1
  by_cases hcp : cap = 1
  · subst hcp
    obtain rfl : m = 0 := by omega
    go_wp2_with fail
    go_loopw [4, 20] (fun v i wr => v = v2 ∧ i = .int .i64 0 ∧ wr = w2) (fun _ _ _ => 0)
    case atStart => exact ⟨rfl, rfl, rfl⟩
    case round =>
      obtain ⟨rfl, rfl, rfl⟩ := hrel
      have HP : Hid (wsP ss) := ⟨hall.out, by rw [Hm.out]; have := HL1.out; show (wsf ss 1).length ≤ 60; omega⟩
      have Ho : Hid (wsv ss = wsf ss 1) := Lib.hid (by rw [wsv_yes HP.out, Hm.out])
      go_wp2
      exact bodyPost_ret (results_tmp2 rfl _ _ _) rfl ⟨_, _, rfl, HB.out, ⟨fun _ => HP.out, fun _ => rfl⟩, by rw [Ho.out]; exact HO.out⟩
  go_wp2_with fail
  go_loopw [4, 20] (fun v i wr => ∃ k : Nat, k ≤ m ∧ i = .int .i64 k ∧ (wsf ss (k + 1)).length ≤ 60 ∧ Hid (Below w.heap.size w wr) ∧ Hid (OwnP wr w.heap.size v (wsf ss (k + 1)))) (fun _ i _ => m - (intOf i).toNat)
  case atStart => exact ⟨0, by omega, rfl, by have := HL1.out; show (wsf ss 1).length ≤ 60; omega, HB, HO⟩
  case round =>
    clear HB HO
    obtain ⟨k, hk, rfl, hlen, hb, ho⟩ := hrel
    by_cases hlt : k < m
    · have hk1 : k + 1 < ss.length := by have := Hm.out; omega
      obtain ⟨b', off', e1, hc⟩ := (H.out.stay (kpB hb.out)).at hk1
      cases e1
      rw [show off + (k + 1) = off + 1 + k by omega] at hc
      have hw : Hid (wOk ss[k + 1]) := hall.out _ (List.getElem_mem hk1)
      have hst : Hid (wsf ss (k + 1 + 1) = wsf ss (k + 1) ++ weX ss[k + 1].data.toList ++ [(5, 0)]) := Lib.hid (by rw [wsf, if_neg (by omega), Hg.out _ hk1])
      have h8 : ss[k + 1].data.toList.length ≤ 8 := by have := hw.out.2; simpa using this
      have hwl := weX_len ss[k + 1].data.toList
      have Hk1 : Hid (k + 1 + 1 ≤ ss.length) := Lib.hid (by omega)
      generalize hs0 : ss[k + 1] = s at *
      clear hk1
      obtain ⟨ae, ce, hsh, _⟩ := (ownFl ho.out).shape
      subst hsh
      go_wp2_with fail
      refine (wordExpr_c s wr hw.out).mono ?_
      rintro e w3 ⟨v3, rfl, hb3, ho3⟩
      obtain ⟨a3, c3, hsh, _⟩ := (ownFl ho3.out).shape
      subst hsh
      have ho' := Lib.hid (ho.out.stay hb3)
      have hbs := Nat.le_trans hb.out.size hb3.size
      have hb' := Lib.hid (hb.out.trans (hb3.mono hb.out.size))
      have hbs3 := hb3.size
      clear hb3 hc ho hb
      generalize weX s.data.toList = X at *
      have hl60 : (wsf ss (k + 1)).length ≤ 60 := hlen
      have hlX : X.length ≤ 17 := by omega
      have HlS : Hid ((wsf ss (k + 1 + 1)).length = (wsf ss (k + 1)).length + X.length + 1) := Lib.hid (by rw [hst.out]; simp; omega)
      generalize hE : wsf ss (k + 1) = E at *
      have HE := Lib.hid hE; clear hE
      have hN : Hid (Nest (Pairs fun _ => True) (fun _ => True) (w3.alloc (.cells #[.slice ae E.length ce, .slice a3 X.length c3] 26)) (.slice (some ⟨w3.heap.size, 0, none⟩) 2 2) [E, X]) :=
        nestTwo rfl trivial (Pairs.stay (Fl.mono ho'.out.rd (fun _ _ => trivial)) kpAlloc) (Pairs.stay (Fl.mono ho3.out.rd (fun _ _ => trivial)) kpAlloc)
      obtain ⟨ny, hny⟩ : ∃ n, n = (wsf ss (k + 1 + 1)).length := ⟨_, rfl⟩
      have hny78 : (ny : Int) ≤ 78 := by rw [hny, HlS.out]; omega
      have Hny := Lib.hid hny; clear hny
      go_wp2_with fail
      (with_reducible refine (operation_c 5 _ _ _ hN.out (fun _ _ => trivial) ?_).mono ?_)
      · simp; omega
      rintro e w4 ⟨v4, rfl, hb4, ho4⟩
      have hB : Hid (Below w.heap.size w w4) := Lib.hid ((hb'.out.alloc (by omega) _).trans (hb4.mono (by simp; omega)))
      have hO : Hid (OwnP w4 w.heap.size v4 (wsf ss (k + 1 + 1))) := Lib.hid (by
        have := ownBase ho4.out (base' := w.heap.size) (by simp; omega)
        rw [hst.out]
        simpa [OwnP] using this)
      obtain ⟨a4, c4, hsh, _⟩ := (ownFl hO.out).shape
      subst hsh
      rw [← Hny.out] at hO ⊢
      clear hb4 ho4 hN ho3 ho' hb' hst
      rcases Nat.lt_or_ge 60 ny with hbig | hle
      · have HN : Hid (¬ wsP ss) := noWords Hk1.out (by have := Hny.out; omega)
        have Ho := Lib.hid (wsv_no HN.out)
        go_wp2
        exact bodyPost_ret (results_tmp2 rfl _ _ _) rfl ⟨_, _, rfl, hB.out, ⟨nofun, fun h => (HN.out h).elim⟩, by rw [Ho.out]; exact World.ownsRow_nil _ _ _ _⟩
      · go_wp2
        go_roundw
        case rel => exact ⟨k + 1, by omega, by go_num, by rw [← Hny.out]; omega, hB, hO⟩
        case measure => simp [intOf]; omega
    · obtain rfl : k = m := by omega
      have HP : Hid (wsP ss) := ⟨hall.out, by rw [Hm.out]; exact hlen⟩
      have Ho : Hid (wsv ss = wsf ss (k + 1)) := Lib.hid (by rw [wsv_yes HP.out, Hm.out])
      have Hlen := Lib.hid hlen; clear hlen
      go_wp2
      exact bodyPost_ret (results_tmp2 rfl _ _ _) rfl ⟨_, _, rfl, hb.out, ⟨fun _ => HP.out, fun _ => rfl⟩, by rw [Ho.out]; exact ho.out⟩
theorem WordsExpr_c (v : Value) (ss : List ByteArray) (w : World) (h : Strs S w v ss) : Calls Try.prog 27 #[v] w (RPb w (wsP ss) (wsv ss)) := by
  rcases Nat.eq_zero_or_pos ss.length with h0 | h0
  · obtain rfl : ss = [] := List.eq_nil_of_length_eq_zero h0
    exact WordsExpr_nil v w h
  · obtain ⟨m, hm⟩ : ∃ m, ss.length = m + 1 := ⟨ss.length - 1, by omega⟩
    exact WordsExpr_cons v ss m w h hm
end Go.Proofs.Ytgihihnbapnnjaa

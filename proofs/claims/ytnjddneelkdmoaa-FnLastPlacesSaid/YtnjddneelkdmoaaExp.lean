/- Plain expressions drawn. -/
import Derived.Test.YtnjddneelkdmoaaExd
set_option linter.unusedSimpArgs false
set_option linter.unusedVariables false
set_option linter.unusedSectionVars false
namespace Go.Proofs.Ytnjddneelkdmoaa
open Go.RowKit
set_option maxRecDepth 100000
variable {S T : Nat → Prop}
set_option maxHeartbeats 400000 in
theorem l20Plain_x (rb p : Nat) (n : Int) (w : World) (h : Rdx w rb p) (hp : p ≤ 500000) (hn1 : -9223372036854775808 < n) :
    Calls Try.prog 88 #[.pointer (some ⟨rb, 0, none⟩), .int .i64 n] w (DxE rb p 110 61 w) := by
  have hlt0 := h.lt
  have H := Lib.hid h; clear h
  go_enter Try.func88, Try.ntmps88
  go_wp2_with fail
  refine (odd_x rb p _ _ H.out (by omega) hn1).mono ?_
  rintro e w1 ⟨b, p1, rfl, hp1, hd1, hr1, hzz⟩; clear hzz
  have hs1 := hd1.size
  have HD1 := Lib.hid hd1
  clear hd1 H
  cases b
  · go_wp2_with fail
    refine (pick_x rb p1 _ w1 hr1.out (by omega)).mono ?_
    rintro e w2 ⟨k, rfl, hk0, hk1, hd2, hr2, hzz⟩; clear hzz
    have hk2 : k ≤ 2 := by omega
    clear hk1
    have Hmk : Hid (Calls Try.prog 139 #[.pointer (some ⟨rb, 0, none⟩), .int .i64 (1 + k), .bool true] w2 (DrP rb (p1 + 1) 60 15 w2)) := Lib.hid (by
      rcases (by omega : k = 0 ∨ k = 1 ∨ k = 2) with rfl | rfl | rfl
      · exact l20Make_c 1 (by omega) rb (p1 + 1) true w2 hr2.out (by omega)
      · exact l20Make_c 2 (by omega) rb (p1 + 1) true w2 hr2.out (by omega)
      · exact l20Make_c 3 (by omega) rb (p1 + 1) true w2 hr2.out (by omega))
    have HD2 := Lib.hid (HD1.out.trans hd2)
    have hs2 := HD2.out.size
    clear hd2 hr2 HD1 hr1
    go_wp2_with fail
    refine Hmk.out.mono ?_
    rintro e w3 ⟨v3, xs, p3, rfl, ⟨hx1, hx15⟩, hp3, hd3, hr3, ho3'⟩
    have ho3 : Hid (Own2 w3 w.heap.size 52 v3 xs) := Lib.hid (ownBase ho3'.out hs2)
    have HD3 := Lib.hid (HD2.out.trans hd3)
    clear hd3 ho3' Hmk HD2
    obtain ⟨a3, c3, rfl, _⟩ := ho3.out.shape
    go_wp2
    go_ret
    exact ⟨_, xs, p3, rfl, by omega, by omega, HD3.out, hr3, Lib.hid ho3.out.rd⟩
  · go_wp2_with fail
    refine (l20Expr_x rb p1 3 w1 hr1.out (by omega) (by omega)).mono ?_
    rintro e w3 ⟨v, xs, p3, rfl, hx, hp3, hd3, hr3, ho⟩
    obtain ⟨a, c, rfl, _⟩ := ho.out.shape
    have HD3 := Lib.hid (HD1.out.trans hd3)
    clear hd3 HD1 hr1
    go_wp2
    go_ret
    exact ⟨_, xs, p3, rfl, hx, by omega, HD3.out, hr3, Lib.hid (ho.out.mono fun b h => Nat.le_trans hs1 h)⟩
theorem DrawFirstPlaces_c (v : Value) (bs : List UInt8) (w : World) (h : Bytes S w v bs) : Calls Try.prog 30 #[v] w (RDp w) := by
  have H := Lib.hid h; clear h
  go_enter Try.func30, Try.ntmps30
  go_wp2_with fail
  refine (open_x _ _ w H.out).mono ?_
  rintro e w2 ⟨rb, rfl, hrb, hb2, hr2⟩
  have hs2 := hb2.size
  go_wp2_with fail
  refine (l20Plain_x rb 0 _ w2 hr2.out (by omega) (by omega)).mono ?_
  rintro e w3 ⟨v, xs, p3, rfl, hx, hp3, hd3, hr3, ho⟩
  obtain ⟨a, c, rfl, _⟩ := ho.out.shape
  go_wp2
  go_ret
  exact ⟨_, xs, rfl, hx, hb2.trans (hd3.bel hrb hs2), Lib.hid (ho.out.mono fun b h => Nat.le_trans hs2 h)⟩
theorem DrawLastPlaces_c (v : Value) (bs : List UInt8) (w : World) (h : Bytes S w v bs) : Calls Try.prog 37 #[v] w (RDp w) := by
  have H := Lib.hid h; clear h
  go_enter Try.func37, Try.ntmps37
  go_wp2_with fail
  refine (open_x _ _ w H.out).mono ?_
  rintro e w2 ⟨rb, rfl, hrb, hb2, hr2⟩
  have hs2 := hb2.size
  go_wp2_with fail
  refine (l20Plain_x rb 0 _ w2 hr2.out (by omega) (by omega)).mono ?_
  rintro e w3 ⟨v, xs, p3, rfl, hx, hp3, hd3, hr3, ho⟩
  obtain ⟨a, c, rfl, _⟩ := ho.out.shape
  go_wp2
  go_ret
  exact ⟨_, xs, rfl, hx, hb2.trans (hd3.bel hrb hs2), Lib.hid (ho.out.mono fun b h => Nat.le_trans hs2 h)⟩
end Go.Proofs.Ytnjddneelkdmoaa

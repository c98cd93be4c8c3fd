/- FnExactTextValid answers true: the walk. Strings of at most maxLen bytes. -/
import Derived.Test.YtdkneilgaoaajaaWrd
namespace Go.Proofs.Ytdkneilgaoaajaa.fnExactTextValid
open Go.RowKit

theorem walk (a0 : ByteArray) (w0 : a0.size ≤ maxLen) (w : World) :
    Calls Try.prog 3 #[.string a0] w (Yes w) := by
  have w0' := w0
  unfold maxLen at w0
  by_cases h20 : a0.size ≤ 1048576
  · go_enter Try.func3, Try.ntmps3
    go_wp2_with fail
    refine (sTextValid_c _ _ w0').mono ?_
    rintro e w' ⟨b, rfl, rfl, hb⟩
    go_wp2_with fail
    refine (TextValid_c _ _ w0').mono ?_
    rintro e w' ⟨c, rfl, rfl, hc⟩
    obtain rfl : b = c := boolEq hb hc
    have hbb := bneSelf b
    go_wp2
    go_ret
    exact ⟨rfl, Below.refl _ _⟩
  · go_enter Try.func3, Try.ntmps3
    go_wp2
    go_ret
    exact ⟨rfl, Below.refl _ _⟩
end Go.Proofs.Ytdkneilgaoaajaa.fnExactTextValid

/- The first word of two automata side by side: words for the reference's. -/
import Derived.Deep.LoopGhost
import Derived.Laws.IdiomStrings
import Derived.Test.YtebcnamfpajneaaGK
import Derived.Test.YtebcnamfpajneaaPsa
set_option linter.unusedSimpArgs false
set_option linter.unusedVariables false
set_option linter.unusedSectionVars false
namespace Go.Proofs.Ytebcnamfpajneaa
open Go.RowKit
set_option maxRecDepth 100000
variable {S T : Nat → Prop}
def gFst (x _ : Bool) : Bool := x
/-- The cells of the first words. -/
noncomputable def wcl (nx : Nat × Nat → Nat → Nat × Nat) (M : List (Nat × Nat)) : List Value := M.map fun s => .string (wS (fk nx (0, 0) s))
theorem wcl_zero (nx : Nat × Nat → Nat → Nat × Nat) : wcl nx [(0, 0)] = [.string ⟨#[]⟩] := by simp [wcl, fk_zero, wS_zero]; rfl
theorem wcl_at (nx : Nat × Nat → Nat → Nat × Nat) (M : List (Nat × Nat)) (k : Nat) : (wcl nx M)[k]? = M[k]?.map fun s => .string (wS (fk nx (0, 0) s)) := by simp [wcl]
theorem wcl_add (nx : Nat × Nat → Nat → Nat × Nat) (M : List (Nat × Nat)) (t : Nat × Nat) : wcl nx (M ++ [t]) = wcl nx M ++ [.string (wS (fk nx (0, 0) t))] := by simp [wcl]
theorem bneF {a b : Nat} (h : a ≠ b) : ((((a : Nat) : Int) != ((b : Nat) : Int)) = true) := by simp; omega
theorem bneT (a : Nat) : ((((a : Nat) : Int) != ((a : Nat) : Int)) = false) := by simp
/-- Whether t is none of the first j. -/
def frs (M : List (Nat × Nat)) (t : Nat × Nat) (j : Nat) (b : Bool) : Prop := b = true ↔ ∀ i (h : i < M.length), i < j → M[i] ≠ t
theorem frs_start (M : List (Nat × Nat)) (t : Nat × Nat) : frs M t 0 true := ⟨fun _ i _ h => absurd h (Nat.not_lt_zero _), fun _ => rfl⟩
theorem frs_off {M : List (Nat × Nat)} {t : Nat × Nat} {j : Nat} (h : frs M t j false) : frs M t (j + 1) false := ⟨nofun, fun hh => h.2 fun i hi hij => hh i hi (by omega)⟩
theorem frs_no {M : List (Nat × Nat)} {t : Nat × Nat} {j : Nat} (h : frs M t j true) (hj : j < M.length) (hn : M[j] ≠ t) : frs M t (j + 1) true := ⟨fun _ i hi hij => by
    rcases Nat.lt_succ_iff_lt_or_eq.1 hij with h1 | rfl
    · exact h.1 rfl i hi h1
    · exact hn, fun _ => rfl⟩
theorem frs_hit {M : List (Nat × Nat)} {t : Nat × Nat} {j : Nat} (hj : j < M.length) (hy : M[j] = t) : frs M t (j + 1) false := ⟨nofun, fun hh => absurd hy (hh j hj (by omega))⟩
theorem frs_end {M : List (Nat × Nat)} {t : Nat × Nat} {b : Bool} (h : frs M t M.length b) : b = true ↔ t ∉ M :=
  ⟨fun hb hm => by
    obtain ⟨i, hi, he⟩ := List.getElem_of_mem hm
    exact h.1 hb i hi hi he, fun hn => h.2 fun i hi _ he => hn (he ▸ List.getElem_mem hi)⟩
theorem byteLt (w : World) (c : Nat) (hc : c < 3) :
    (convert 22 9 (.slice (some ⟨w.heap.size, 0, none⟩) 1 1)).run Try.prog ((w.alloc (.cells #[.int .u8 (97 + (c : Int))] 5)).drew) = .ok (.string (lt c)) ((w.alloc (.cells #[.int .u8 (97 + (c : Int))] 5)).drew) := by
  have hz : (97 + (c : Int)) = (UInt8.ofNat (97 + c)).toNat := by rw [UInt8.toNat_ofNat']; omega
  rw [hz]
  refine run_convert_bytes_back ((w.alloc (.cells #[.int .u8 (UInt8.ofNat (97 + c)).toNat] 5)).drew) 22 9 5 ⟨w.heap.size, 0, none⟩ 1 [UInt8.ofNat (97 + c)] Try.underlying22 Try.underlying5 Try.underlying9 (fun j hj => ?_)
  have : j = 0 := by simpa using hj
  subst this
  show (w.alloc _).cell? _ = _
  simp [Addr.add, World.cell?_alloc_mark]
theorem u8w (c : Nat) (hc : c < 3) : IntKind.u8.wrap (97 + (c : Int)) = 97 + (c : Int) := by
  rcases (by omega : c = 0 ∨ c = 1 ∨ c = 2) with rfl | rfl | rfl <;> rfl
theorem elStr : ElemT 85 9 1 16 := ElemT.of (z := .string ByteArray.empty) Try.underlying85 (by kernel_rfl) rfl (by decide)
end Go.Proofs.Ytebcnamfpajneaa

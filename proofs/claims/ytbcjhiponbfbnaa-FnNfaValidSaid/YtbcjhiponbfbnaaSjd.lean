/- An automaton with choices under way, of which the Ends are older. -/
import Derived.Test.YtbcjhiponbfbnaaShs
import Derived.Test.YtbcjhiponbfbnaaRgv
set_option linter.unusedSimpArgs false
set_option linter.unusedVariables false
set_option linter.unusedSectionVars false
namespace Go.Proofs.Ytbcjhiponbfbnaa
open Go.RowKit
set_option maxRecDepth 100000
variable {S T : Nat → Prop}
/-- As NSt; the list of Ends may be older than the world w. -/
structure NSx (w wr : World) (g BE : Nat) (n : Int) (vm vf ve : Value) (ms : List (Int × Int × Int)) (fs es : List Int) : Prop where
  bel : Below w.heap.size w wr
  gB : w.heap.size ≤ g
  hd : wr.heap[g]? = some (.cells #[.int .i64 n, vm, vf, ve] 36 (0, 0))
  mv : Own3 wr w.heap.size 40 vm ms
  fs : OwnI wr w.heap.size vf fs
  en : OwnI wr BE ve es
  ne : ∀ b, vf.ownBlock = some b → ve.ownBlock ≠ some b
section
variable {w wr w' : World} {g BE : Nat} {n : Int} {vm vf ve v' : Value} {ms ms' : List (Int × Int × Int)} {fs es : List Int}
theorem NSx.sz (h : NSx w wr g BE n vm vf ve ms fs es) : w.heap.size ≤ wr.heap.size := h.bel.size
theorem NSx.stay (h : NSx w wr g BE n vm vf ve ms fs es) (k : Below wr.heap.size wr w') : NSx w w' g BE n vm vf ve ms fs es :=
  ⟨h.bel.trans (k.mono h.sz), h.gB, blkBel k h.hd, h.mv.stay k, h.fs.stay k, h.en.stay k, h.ne⟩
theorem NSx.o {b0 : Nat} (h : NSx w wr g BE n vm vf ve ms fs es) (h1 : b0 ≤ w.heap.size) (h2 : b0 ≤ BE) : NfaO b0 wr vm vf ve ⟨n, ms, fs, es⟩ :=
  ⟨ownBase h.mv h1, ownBase h.fs h1, ownBase h.en h2, h.ne⟩
theorem NSx.hdM (h : NSx w wr g BE n vm vf ve ms fs es) (hg : wr.grownBy w' vm.ownBlock) : w'.heap[g]? = some (.cells #[.int .i64 n, vm, vf, ve] 36 (0, 0)) :=
  blkGrow hg h.hd (fun e => ownNe h.mv h.hd nfNe.1 e.symm)
theorem NSx.addM (h : NSx w wr g BE n vm vf ve ms fs es) (hg : wr.grownBy w' vm.ownBlock) (hv : Own3 w' w.heap.size 40 v' ms') :
    NSx w (w'.setCell ⟨g, 1, none⟩ v') g BE n v' vf ve ms' fs es := by
  have hh := h.hdM hg
  have hfs := World.ownsRow.kept h.fs hg (ownOr h.fs h.mv (ownNe2 h.fs h.mv nfNe.2.2.symm))
  have hen := World.ownsRow.kept h.en hg (ownOr h.en h.mv (ownNe2 h.en h.mv nfNe.2.2.symm))
  exact ⟨(h.bel.grown hg h.sz (fun k hk => (World.ownsRow.lt h.mv k hk).1)).setCell h.gB _, h.gB, heap_set hh 1 _, ownSetNe hv (ownNe hv hh nfNe.1) _, ownSetNe hfs (ownNe hfs hh nfNe.2.1) _, ownSetNe hen (ownNe hen hh nfNe.2.1) _, h.ne⟩
end
theorem Sr.nstE {W w' : World} {g BE : Nat} {z0 z1 z2 z3 : Value} {l : List (Option Rw)} (H : Sr W w' (some (g, .cells #[z0, z1, z2, z3] 36 (0, 0))) l) (n : Int) {vm vf ve : Value} {ms : List (Int × Int × Int)} {fs es : List Int}
    (hm : some ⟨40, 3, vm, ms.length, cells3 ms⟩ ∈ l) (hf : some ⟨3, 1, vf, fs.length, fs.map (.int .i64 ·)⟩ ∈ l) (he : OwnI W BE ve es) :
    NSx W ((((w'.setCell ⟨g, 0, none⟩ (.int .i64 n)).setCell ⟨g, 1, none⟩ vm).setCell ⟨g, 2, none⟩ vf).setCell ⟨g, 3, none⟩ ve) g BE n vm vf ve ms fs es := by
  obtain ⟨h1, h2, h3⟩ := H.hd _ _ rfl
  have e0 := h3 _ hm
  have e1 := h3 _ hf
  have e2 : ve.ownBlock ≠ some g := fun e => by have := (World.ownsRow.lt he _ e).2; omega
  refine ⟨bel4 H.bel h2 _ _ _ _, h2, blk4s h1, ?_, ?_, ?_, fun b hb hb2 => ?_⟩
  · exact ownSetNe (ownSetNe (ownSetNe (ownSetNe (H.own _ hm) e0 _) e0 _) e0 _) e0 _
  · exact ownSetNe (ownSetNe (ownSetNe (ownSetNe (H.own _ hf) e1 _) e1 _) e1 _) e1 _
  · exact ownSetNe (ownSetNe (ownSetNe (ownSetNe (ownStay he H.bel) e2 _) e2 _) e2 _) e2 _
  · have k1 := (World.ownsRow.lt (H.own _ hf) _ hb).1
    have k2 := (World.ownsRow.lt he _ hb2).2
    omega
theorem cells3_two (xs ys : List (Int × Int × Int)) : cells3 xs ++ cells3 ys = cells3 (xs ++ ys) := by simp [cells3]
end Go.Proofs.Ytbcjhiponbfbnaa

/- An automaton with choices that is drawn: its state under way. -/
import Derived.Test.YtbcjhiponbfbnaaGE
import Derived.Test.YtbcjhiponbfbnaaGD
set_option linter.unusedSimpArgs false
set_option linter.unusedVariables false
set_option linter.unusedSectionVars false
namespace Go.Proofs.Ytbcjhiponbfbnaa
open Go.RowKit
set_option maxRecDepth 100000
variable {S T : Nat → Prop}
/-- The reader, the header's block, the lists. -/
structure NDr (w wr : World) (rb g p : Nat) (n : Int) (vm vf ve : Value) (ms : List (Int × Int × Int)) (fs es : List Int) : Prop where
  dr : Dr rb w wr
  rd : Rdx wr rb p
  rl : rb < w.heap.size
  gB : w.heap.size ≤ g
  hd : wr.heap[g]? = some (.cells #[.int .i64 n, vm, vf, ve] 36 (0, 0))
  mv : Own3 wr w.heap.size 40 vm ms
  fs : OwnI wr w.heap.size vf fs
  en : OwnI wr w.heap.size ve es
  ne : ∀ b, vf.ownBlock = some b → ve.ownBlock ≠ some b
section
variable {w wr w' : World} {rb g p p' : Nat} {n : Int} {vm vf ve v' : Value} {ms ms' : List (Int × Int × Int)} {fs es xs : List Int}
theorem NDr.stay (h : NDr w wr rb g p n vm vf ve ms fs es) (k : Below wr.heap.size wr w') : NDr w w' rb g p n vm vf ve ms fs es :=
  ⟨h.dr.trans (Dr.below k), h.rd.stay k, h.rl, h.gB, blkBel k h.hd, h.mv.stay k, h.fs.stay k, h.en.stay k, h.ne⟩
theorem NDr.pick (h : NDr w wr rb g p n vm vf ve ms fs es) (hd : Dr rb wr w') (hr : Rdx w' rb p') : NDr w w' rb g p' n vm vf ve ms fs es :=
  ⟨h.dr.trans hd, hr, h.rl, h.gB, hd.blk h.hd (by have := h.rl; have := h.gB; omega), hd.own h.mv h.rl, hd.own h.fs h.rl, hd.own h.en h.rl, h.ne⟩
theorem NDr.hdM (h : NDr w wr rb g p n vm vf ve ms fs es) (hg : wr.grownBy w' vm.ownBlock) : w'.heap[g]? = some (.cells #[.int .i64 n, vm, vf, ve] 36 (0, 0)) :=
  blkGrow hg h.hd (fun e => ownNe h.mv h.hd nfNe.1 e.symm)
theorem NDr.hdF (h : NDr w wr rb g p n vm vf ve ms fs es) (hg : wr.grownBy w' vf.ownBlock) : w'.heap[g]? = some (.cells #[.int .i64 n, vm, vf, ve] 36 (0, 0)) :=
  blkGrow hg h.hd (fun e => ownNe h.fs h.hd nfNe.2.1 e.symm)
theorem NDr.hdE (h : NDr w wr rb g p n vm vf ve ms fs es) (hg : wr.grownBy w' ve.ownBlock) : w'.heap[g]? = some (.cells #[.int .i64 n, vm, vf, ve] 36 (0, 0)) :=
  blkGrow hg h.hd (fun e => ownNe h.en h.hd nfNe.2.1 e.symm)
theorem NDr.addM (h : NDr w wr rb g p n vm vf ve ms fs es) (hg : wr.grownBy w' vm.ownBlock) (hv : Own3 w' w.heap.size 40 v' ms') :
    NDr w (w'.setCell ⟨g, 1, none⟩ v') rb g p n v' vf ve ms' fs es := by
  have hh := h.hdM hg
  have hrg : rb < g := Nat.lt_of_lt_of_le h.rl h.gB
  have hfs := World.ownsRow.kept h.fs hg (ownOr h.fs h.mv (ownNe2 h.fs h.mv nfNe.2.2.symm))
  have hen := World.ownsRow.kept h.en hg (ownOr h.en h.mv (ownNe2 h.en h.mv nfNe.2.2.symm))
  exact ⟨(h.dr.grown hg fun k hk => (World.ownsRow.lt h.mv k hk).1).setCell h.gB _, (h.rd.grow hg fun b hb => Nat.lt_of_lt_of_le h.rl (World.ownsRow.lt h.mv b hb).1).set hrg _, h.rl, h.gB, heap_set hh 1 _, ownSetNe hv (ownNe hv hh nfNe.1) _, ownSetNe hfs (ownNe hfs hh nfNe.2.1) _, ownSetNe hen (ownNe hen hh nfNe.2.1) _, h.ne⟩
theorem NDr.addF (h : NDr w wr rb g p n vm vf ve ms fs es) (hg : wr.grownBy w' vf.ownBlock) (hv : OwnI w' w.heap.size v' xs) (hn : ∀ b, v'.ownBlock = some b → ve.ownBlock ≠ some b) :
    NDr w (w'.setCell ⟨g, 2, none⟩ v') rb g p n vm v' ve ms xs es := by
  have hh := h.hdF hg
  have hrg : rb < g := Nat.lt_of_lt_of_le h.rl h.gB
  have hmv := World.ownsRow.kept h.mv hg (ownOr h.mv h.fs (ownNe2 h.mv h.fs nfNe.2.2))
  have hen := World.ownsRow.kept h.en hg (ownOr h.en h.fs (fun b hb hb' => h.ne b hb' hb))
  exact ⟨(h.dr.grown hg fun k hk => (World.ownsRow.lt h.fs k hk).1).setCell h.gB _, (h.rd.grow hg fun b hb => Nat.lt_of_lt_of_le h.rl (World.ownsRow.lt h.fs b hb).1).set hrg _, h.rl, h.gB, heap_set hh 2 _, ownSetNe hmv (ownNe hmv hh nfNe.1) _, ownSetNe hv (ownNe hv hh nfNe.2.1) _, ownSetNe hen (ownNe hen hh nfNe.2.1) _, hn⟩
theorem NDr.addE (h : NDr w wr rb g p n vm vf ve ms fs es) (hg : wr.grownBy w' ve.ownBlock) (hv : OwnI w' w.heap.size v' xs) (hn : ∀ b, vf.ownBlock = some b → v'.ownBlock ≠ some b) :
    NDr w (w'.setCell ⟨g, 3, none⟩ v') rb g p n vm vf v' ms fs xs := by
  have hh := h.hdE hg
  have hrg : rb < g := Nat.lt_of_lt_of_le h.rl h.gB
  have hmv := World.ownsRow.kept h.mv hg (ownOr h.mv h.en (ownNe2 h.mv h.en nfNe.2.2))
  have hfs := World.ownsRow.kept h.fs hg (ownOr h.fs h.en h.ne)
  exact ⟨(h.dr.grown hg fun k hk => (World.ownsRow.lt h.en k hk).1).setCell h.gB _, (h.rd.grow hg fun b hb => Nat.lt_of_lt_of_le h.rl (World.ownsRow.lt h.en b hb).1).set hrg _, h.rl, h.gB, heap_set hh 3 _, ownSetNe hmv (ownNe hmv hh nfNe.1) _, ownSetNe hfs (ownNe hfs hh nfNe.2.1) _, ownSetNe hv (ownNe hv hh nfNe.2.1) _, hn⟩
theorem NDr.setN (h : NDr w wr rb g p n vm vf ve ms fs es) (n' : Int) : NDr w (wr.setCell ⟨g, 0, none⟩ (.int .i64 n')) rb g p n' vm vf ve ms fs es := by
  have hrg : rb < g := Nat.lt_of_lt_of_le h.rl h.gB
  exact ⟨h.dr.setCell h.gB _, h.rd.set hrg _, h.rl, h.gB, heap_set h.hd 0 _, ownSetNe h.mv (ownNe h.mv h.hd nfNe.1) _, ownSetNe h.fs (ownNe h.fs h.hd nfNe.2.1) _, ownSetNe h.en (ownNe h.en h.hd nfNe.2.1) _, h.ne⟩
/-- Another automaton of the call's own stored over it. -/
theorem NDr.put (h : NDr w wr rb g p n vm vf ve ms fs es) {um uf ue : Value} {D : NfaD} (hn : NfaO w.heap.size wr um uf ue D) :
    NDr w ((((wr.setCell ⟨g, 0, none⟩ (.int .i64 D.states)).setCell ⟨g, 1, none⟩ um).setCell ⟨g, 2, none⟩ uf).setCell ⟨g, 3, none⟩ ue) rb g p D.states um uf ue D.moves D.firsts D.ends := by
  have hrg : rb < g := Nat.lt_of_lt_of_le h.rl h.gB
  have hq := NfaO.set4 hn g (by have := h.gB; omega) h.hd ⟨nfNe.1, nfNe.2.1⟩ (.int .i64 D.states) um uf ue
  exact ⟨(((h.dr.setCell h.gB _).setCell h.gB _).setCell h.gB _).setCell h.gB _, (((h.rd.set hrg _).set hrg _).set hrg _).set hrg _, h.rl, h.gB, heap_set (heap_set (heap_set (heap_set h.hd 0 _) 1 _) 2 _) 3 _, hq.1, hq.2.1, hq.2.2.1, hq.2.2.2⟩
theorem NDr.sz (h : NDr w wr rb g p n vm vf ve ms fs es) : w.heap.size ≤ wr.heap.size := h.dr.size
theorem NDr.r (h : NDr w wr rb g p n vm vf ve ms fs es) : NfaR (w.heap.size ≤ ·) wr vm vf ve ⟨n, ms, fs, es⟩ := ⟨h.mv.rd, h.fs.rd, h.en.rd⟩
end
/-- A drawn automaton with choices. -/
def DrN (rb p c : Nat) (w : World) (e : Ending) (w' : World) : Prop := ∃ (D : NfaD) (vm vf ve : Value) (p' : Nat), e = .returned (.agg #[.int .i64 D.states, vm, vf, ve]) ∧ p' ≤ p + c ∧ Dr rb w w' ∧ Hid (Rdx w' rb p') ∧ D.moves.length ≤ 1000000 ∧ Hid (NfaR (w.heap.size ≤ ·) w' vm vf ve D)
end Go.Proofs.Ytbcjhiponbfbnaa

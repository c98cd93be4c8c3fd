/- A region that draws its order, by a condition that each of its operations keeps. -/
import Derived.Orders
import Derived.RegionTactic
import Derived.Test.YtbcjhiponbfbnaaGD
set_option linter.unusedSimpArgs false
set_option linter.unusedVariables false
set_option linter.unusedSectionVars false
namespace Go.Proofs.Ytbcjhiponbfbnaa
open Go.RowKit
set_option maxRecDepth 100000
section
variable {P : Program} {ops : Array Oper} {Q : Exit → Act → World → Prop} {md : Region.Mode}
theorem ready_spec {i : Nat} {listed : Array Bool} (h : i ∈ Region.ready md ops listed) : listed.getD i true = false ∧ ∃ o, ops[i]? = some o ∧ ∀ e ∈ o.after, Region.binds md e = true → listed.getD e.on false = true := by
  unfold Region.ready at h
  rw [List.mem_filter] at h
  obtain ⟨h1, h2⟩ := h
  rw [Bool.and_eq_true, Bool.not_eq_true'] at h2
  refine ⟨h2.1, ?_⟩
  cases ho : ops[i]? with
  | none => rw [ho] at h2; exact absurd h2.2 (by simp)
  | some o =>
    refine ⟨o, rfl, fun e he hb => ?_⟩
    rw [ho] at h2
    have h3 : o.after.all (fun e => !Region.binds md e || listed.getD e.on false) = true := h2.2
    rw [Array.all_eq_true'] at h3
    have := h3 e he
    rw [hb] at this
    simpa using this
theorem ready_of {i : Nat} {listed : Array Bool} {o : Oper} (h0 : listed.getD i true = false) (ho : ops[i]? = some o) (h : ∀ e ∈ o.after, Region.binds md e = true → listed.getD e.on false = true) : i ∈ Region.ready md ops listed := by
  unfold Region.ready
  rw [List.mem_filter]
  refine ⟨List.mem_range.2 (Array.getElem?_eq_some_iff.1 ho).1, ?_⟩
  rw [Bool.and_eq_true, Bool.not_eq_true']
  refine ⟨h0, ?_⟩
  rw [ho]
  show o.after.all (fun e => !Region.binds md e || listed.getD e.on false) = true
  rw [Array.all_eq_true']
  intro e he
  cases hb : Region.binds md e
  · rfl
  · rw [h e he hb]; rfl
/-- Each operation waits for earlier ones alone. -/
def acyc (md : Region.Mode) (ops : Array Oper) : Bool := (List.range ops.size).all fun i => ((ops[i]?).map (·.after.all fun e => !Region.binds md e || decide (e.on < i))).getD true
theorem all_of_ready {listed : Array Bool} (hac : acyc md ops = true) (hz : listed.size = ops.size) (h : Region.ready md ops listed = []) : ∀ i, i < ops.size → listed.getD i true = true := by
  intro i
  induction i using Nat.strongRecOn with
  | ind i ih =>
    intro hi
    cases hb : listed.getD i true with
    | true => rfl
    | false =>
      exfalso
      have : i ∈ Region.ready md ops listed := by
        refine ready_of hb (Array.getElem?_eq_getElem hi) fun e he hbd => ?_
        have h1 := List.all_eq_true.1 hac i (List.mem_range.2 hi)
        rw [Array.getElem?_eq_getElem hi] at h1
        have h2 : (ops[i]).after.all (fun e => !Region.binds md e || decide (e.on < i)) = true := h1
        rw [Array.all_eq_true'] at h2
        have h3 := h2 e he
        rw [hbd] at h3
        have h4 : e.on < i := by simpa using h3
        have h5 := ih e.on h4 (by omega)
        have hs : e.on < listed.size := by omega
        unfold Array.getD at h5 ⊢
        rw [dif_pos hs] at h5 ⊢
        exact h5
      rw [h] at this
      cases this
theorem count_step' {listed : Array Bool} {i : Nat} (h : listed.getD i true = false) : (listed.setIfInBounds i true).toList.count false + 1 = listed.toList.count false := by
  have hi : i < listed.size := by
    rcases Nat.lt_or_ge i listed.size with h' | h'
    · exact h'
    · unfold Array.getD at h; rw [dif_neg (by omega)] at h; cases h
  have he : listed.toList[i] = false := by
    unfold Array.getD at h; rw [dif_pos hi] at h; exact h
  rw [Array.toList_setIfInBounds, List.count_set (by simpa using hi), he]
  have hp : 0 < listed.toList.count false := List.count_pos_iff.2 (he ▸ List.getElem_mem _)
  simp only [beq_self_eq_true, if_true]
  rw [if_neg (by decide)]
  omega
theorem getD_mono {listed : Array Bool} {i e : Nat} (h : listed.getD e false = true) : (listed.setIfInBounds i true).getD e false = true := by
  have he : e < listed.size := by
    rcases Nat.lt_or_ge e listed.size with h' | h'
    · exact h'
    · unfold Array.getD at h; rw [dif_neg (by omega)] at h; cases h
  unfold Array.getD at h ⊢
  rw [dif_pos he] at h
  rw [dif_pos (by rw [Array.size_setIfInBounds]; exact he)]
  show (listed.setIfInBounds i true)[e]'(by rw [Array.size_setIfInBounds]; exact he) = true
  rw [Array.getElem_setIfInBounds]
  split
  · rfl
  · exact h
/-- Each pair is an operation and one that it waits for. -/
def pairsOk (md : Region.Mode) (ops : Array Oper) (pairs : List (Nat × Nat)) : Bool := pairs.all fun p => ((ops[p.1]?).map (·.after.any fun e => Region.binds md e && e.on == p.2)).getD false
def Closed (pairs : List (Nat × Nat)) (listed : Array Bool) : Prop := ∀ l e, pairs.contains (l, e) = true → listed.getD l false = true → listed.getD e false = true
theorem Closed.step {pairs : List (Nat × Nat)} {listed : Array Bool} {i : Nat} {o : Oper} (hp : pairsOk md ops pairs = true) (ho : ops[i]? = some o) (h : Closed pairs listed)
    (ha : ∀ e ∈ o.after, Region.binds md e = true → listed.getD e.on false = true) : Closed pairs (listed.setIfInBounds i true) := by
  intro l e hm hl
  by_cases hli : l = i
  · subst hli
    have h1 := List.all_eq_true.1 hp (l, e) (by simpa using hm)
    rw [ho] at h1
    have h2 : o.after.any (fun x => Region.binds md x && x.on == e) = true := h1
    obtain ⟨x, hx, hb⟩ := Array.any_eq_true'.1 h2
    rw [Bool.and_eq_true, beq_iff_eq] at hb
    have := ha x hx hb.1
    rw [hb.2] at this
    exact getD_mono this
  · refine getD_mono (h l e hm ?_)
    have hls : l < listed.size := by
      rcases Nat.lt_or_ge l listed.size with h' | h'
      · exact h'
      · unfold Array.getD at hl; rw [dif_neg (by rw [Array.size_setIfInBounds]; omega)] at hl; cases hl
    unfold Array.getD at hl ⊢
    rw [dif_pos (by rw [Array.size_setIfInBounds]; exact hls)] at hl
    rw [dif_pos hls]
    have hl' : (listed.setIfInBounds i true)[l]'(by rw [Array.size_setIfInBounds]; exact hls) = true := hl
    rw [Array.getElem_setIfInBounds, if_neg (fun e => hli e.symm)] at hl'
    exact hl'
/-- The operation keeps the condition: it has no guard; the region and what follows are of no matter. -/
def StepU (P : Program) (md : Region.Mode) (pairs : List (Nat × Nat)) (Inv : Array Bool → Act → World → Prop) (o : Oper) (i : Nat) : Prop :=
  ∀ (Q : Exit → Act → World → Prop) (E' : Prop) (listed : Array Bool) (a : Act) (w : World), Inv listed a w → Closed pairs listed → listed.getD i true = false → (∀ e ∈ o.after, Region.binds md e = true → listed.getD e.on false = true) →
    ∀ K : Act → World → Prop, (∀ a' w', Inv (listed.setIfInBounds i true) a' w' → K a' w') → if Region.wanted o (yielded #[] a.tmps) = true then Oper.wp P o a w K Q else E'
def StepsU (P : Program) (md : Region.Mode) (pairs : List (Nat × Nat)) (Inv : Array Bool → Act → World → Prop) : List Oper → Nat → Prop
  | [], _ => True
  | o :: l, k => StepU P md pairs Inv o k ∧ StepsU P md pairs Inv l (k + 1)
variable {pairs : List (Nat × Nat)}
theorem StepsU.nil {Inv : Array Bool → Act → World → Prop} {k : Nat} : StepsU P md pairs Inv [] k := trivial
theorem StepsU.cons {Inv : Array Bool → Act → World → Prop} {o : Oper} {l : List Oper} {k : Nat} (h : StepU P md pairs Inv o k) (hs : StepsU P md pairs Inv l (k + 1)) : StepsU P md pairs Inv (o :: l) k := ⟨h, hs⟩
theorem StepsU.at {Inv : Array Bool → Act → World → Prop} : ∀ {l : List Oper} {k : Nat}, StepsU P md pairs Inv l k → ∀ (i : Nat) (o : Oper), l[i]? = some o → StepU P md pairs Inv o (k + i)
  | [], _, _, _, _, h => by simp at h
  | _ :: _, _, hs, 0, _, h => by cases h; exact hs.1
  | _ :: _, k, hs, i + 1, o, h => by
    have := hs.2.at i o (by simpa using h)
    rw [show k + (i + 1) = k + 1 + i by omega]; exact this
theorem wpAny_inv {Inv : Array Bool → Act → World → Prop} (hp : pairsOk md ops pairs = true) (hg : ∀ (i : Nat) (o : Oper), ops[i]? = some o → o.guard = none) (hs : ∀ i o, ops[i]? = some o → StepU P md pairs Inv o i)
    (hd : ∀ listed a w, listed.size = ops.size → Inv listed a w → Region.ready md ops listed = [] → Q .normal a w) :
    ∀ (fuel : Nat) (listed : Array Bool) (a : Act) (w : World), listed.size = ops.size → listed.toList.count false ≤ fuel → Closed pairs listed → Inv listed a w → wpAny P md ops Q fuel listed a w
  | 0, listed, a, w, hz, hc, _, hI => by
    have hr : Region.ready md ops listed = [] := by
      rw [List.eq_nil_iff_forall_not_mem]
      intro i hi
      have h0 := (ready_spec hi).1
      have := count_step' h0
      omega
    exact ⟨hr, hd _ _ _ hz hI hr⟩
  | fuel + 1, listed, a, w, hz, hc, hC, hI =>
    ⟨fun hr => hd _ _ _ hz hI hr, fun i hi => by
      obtain ⟨h0, o, ho, haft⟩ := ready_spec hi
      refine wpOp_step ho fun K hK => ?_
      have hw : ∀ y, Region.wanted o y = true := fun y => by simp [Region.wanted, hg i o ho]
      rw [if_pos (hw _)]
      have h1 := hs i o ho Q False listed a w hI hC h0 haft K fun a' w' hI' => hK a' w' ?_
      · rw [if_pos (hw _)] at h1
        exact h1
      · refine wpAny_inv hp hg hs hd fuel _ a' w' (by rw [Array.size_setIfInBounds]; exact hz) ?_ (hC.step hp ho haft) hI'
        have := count_step' h0
        omega⟩
/-- The region, by a condition that each operation keeps. -/
theorem wp_region_inv2 {l : List Oper} {id : Nat} {a : Act} {w : World} (pairs : List (Nat × Nat)) (Inv : Array Bool → Act → World → Prop) (Fin : (Act → World → Prop) → Prop) (hm : P.follows .mixedOrders = true) (hac : acyc .any l.toArray = true)
    (hg : l.all (fun o => o.guard.isNone) = true) (hp : pairsOk .any l.toArray pairs = true) (h0 : Inv (Array.replicate l.toArray.size false) a w.drew) (hs : StepsU P .any pairs Inv l 0)
    (hd : ∀ G : Act → World → Prop, Fin G → ∀ listed a w, Inv listed a w → (∀ i, i < l.toArray.size → listed.getD i true = true) → G a w) (hf : Fin (fun a w => Q .normal a w)) : (Code.region id l.toArray true).wp P Q a w := by
  have hg' : ∀ (i : Nat) (o : Oper), l.toArray[i]? = some o → o.guard = none := fun i o ho => by
    have h1 := List.all_eq_true.1 hg o (List.mem_of_getElem? (by simpa using ho))
    cases h : o.guard with
    | none => rfl
    | some _ => rw [h] at h1; cases h1
  refine wp_region_any hm (wpAny_inv (pairs := pairs) (Inv := Inv) hp hg' (fun i o ho => ?_) (fun listed a w hz hI hr => hd _ hf _ _ _ hI (all_of_ready hac hz hr)) _ _ _ _ (by simp) ?_ ?_ h0)
  · have := hs.at i o (by simpa using ho)
    rwa [Nat.zero_add] at this
  · simp
  · intro l' e _ hl
    unfold Array.getD at hl
    split at hl
    · simp at hl
    · cases hl
end
/-- A row that a region makes. -/
structure Rw where
  e : TypeId
  sz : Nat
  v : Value
  n : Nat
  cs : List Value
/-- The rows and the header that a region has made so far. -/
structure Sr (w0 w : World) (h : Option (Nat × Obj)) (l : List (Option Rw)) : Prop where
  bel : Below w0.heap.size w0 w
  own : ∀ r, some r ∈ l → w.ownsRow w0.heap.size r.e r.sz r.v r.n r.cs
  ne : l.Pairwise fun a b => ∀ r s k, a = some r → b = some s → r.v.ownBlock = some k → s.v.ownBlock ≠ some k
  hd : ∀ g o, h = some (g, o) → w.heap[g]? = some o ∧ w0.heap.size ≤ g ∧ ∀ r, some r ∈ l → r.v.ownBlock ≠ some g
theorem Sr.start (w0 : World) (n : Nat) : Sr w0 w0.drew none (List.replicate n none) :=
  ⟨(Below.refl _ _).drew, fun r hr => by simp at hr, by
    rw [List.pairwise_replicate]
    exact .inr nofun, nofun⟩
theorem Sr.put {w0 w w' : World} {h : Option (Nat × Obj)} {l1 l2 : List (Option Rw)} {x : Option Rw} {r : Rw} (H : Sr w0 w h (l1 ++ x :: l2)) (hb : Below w0.heap.size w0 w')
    (hr : w'.ownsRow w0.heap.size r.e r.sz r.v r.n r.cs) (hk : ∀ s, some s ∈ l1 ++ l2 → w'.ownsRow w0.heap.size s.e s.sz s.v s.n s.cs)
    (hne : ∀ s k, some s ∈ l1 ++ l2 → s.v.ownBlock = some k → r.v.ownBlock ≠ some k)
    (hh : ∀ g o, h = some (g, o) → w'.heap[g]? = some o ∧ r.v.ownBlock ≠ some g) : Sr w0 w' h (l1 ++ some r :: l2) := by
  obtain ⟨p1, p2, p3⟩ := List.pairwise_append.1 H.ne
  obtain ⟨p4, p5⟩ := List.pairwise_cons.1 p2
  refine ⟨hb, fun s hs => ?_, ?_, fun g o e => ⟨(hh g o e).1, (H.hd g o e).2.1, fun s hs => ?_⟩⟩
  · rcases List.mem_append.1 hs with h1 | h1
    · exact hk s (List.mem_append_left _ h1)
    · rcases List.mem_cons.1 h1 with h2 | h2
      · cases h2; exact hr
      · exact hk s (List.mem_append_right _ h2)
  · refine List.pairwise_append.2 ⟨p1, List.pairwise_cons.2 ⟨?_, p5⟩, ?_⟩
    · intro b hb r' s k e1 e2 hk1 hk2
      cases e1
      subst e2
      exact hne s k (List.mem_append_right _ hb) hk2 hk1
    · intro a ha b hb r' s k e1 e2 hk1
      rcases List.mem_cons.1 hb with h2 | h2
      · subst e1
        rw [h2] at e2
        cases e2
        exact hne r' k (List.mem_append_left _ ha) hk1
      · exact p3 a ha b (List.mem_cons_of_mem _ h2) r' s k e1 e2 hk1
  · rcases List.mem_append.1 hs with h1 | h1
    · exact (H.hd g o e).2.2 s (List.mem_append_left _ h1)
    · rcases List.mem_cons.1 h1 with h2 | h2
      · cases h2; exact (hh g o e).2
      · exact (H.hd g o e).2.2 s (List.mem_append_right _ (List.mem_cons_of_mem _ h2))
theorem mem_put {l1 l2 : List (Option Rw)} {x : Option Rw} {s : Rw} (h : some s ∈ l1 ++ l2) : some s ∈ l1 ++ x :: l2 := by
  rcases List.mem_append.1 h with h | h
  · exact List.mem_append_left _ h
  · exact List.mem_append_right _ (List.mem_cons_of_mem _ h)
/-- A row is made anew. -/
theorem Sr.call {w0 w w' : World} {h : Option (Nat × Obj)} (l1 l2 : List (Option Rw)) {x : Option Rw} (r : Rw) (H : Sr w0 w h (l1 ++ x :: l2)) (hb : Below w.heap.size w w')
    (hr : w'.ownsRow w.heap.size r.e r.sz r.v r.n r.cs) : Sr w0 w' h (l1 ++ some r :: l2) := by
  have hsz := H.bel.size
  refine H.put (H.bel.trans (hb.mono hsz)) (ownBase hr hsz) (fun s hs => ownStay (H.own s (mem_put hs)) hb) (fun s k hs hk hk2 => ?_) (fun g o e => ⟨blkBel hb (H.hd g o e).1, fun hk => ?_⟩)
  · have h1 := (World.ownsRow.lt (H.own s (mem_put hs)) _ hk).2
    have h2 := (World.ownsRow.lt hr _ hk2).1
    omega
  · have h1 := (Array.getElem?_eq_some_iff.1 (H.hd g o e).1).1
    have h2 := (World.ownsRow.lt hr _ hk).1
    omega
/-- A row grows. -/
theorem Sr.grow {w0 w w' : World} {h : Option (Nat × Obj)} (l1 l2 : List (Option Rw)) {r0 : Rw} (r : Rw) {g g' n n' cap cap' : Nat} (H : Sr w0 w h (l1 ++ some r0 :: l2)) (h0 : r0.v = .slice (some ⟨g, 0, none⟩) n cap) (h1 : r.v = .slice (some ⟨g', 0, none⟩) n' cap')
    (hg : w.grownBy w' (some g)) (hr : w'.ownsRow w0.heap.size r.e r.sz r.v r.n r.cs) (hat : g' = g ∨ g' = w.heap.size) : Sr w0 w' h (l1 ++ some r :: l2) := by
  have hsz := H.bel.size
  obtain ⟨p1, p2, p3⟩ := List.pairwise_append.1 H.ne
  obtain ⟨p4, p5⟩ := List.pairwise_cons.1 p2
  have hgb : r0.v.ownBlock = some g := by rw [h0]; rfl
  have hgb' : r.v.ownBlock = some g' := by rw [h1]; rfl
  have hown0 := H.own r0 (List.mem_append_right _ (List.mem_cons_self ..))
  have hlt := World.ownsRow.lt hown0 _ hgb
  have hne : ∀ s k, some s ∈ l1 ++ l2 → s.v.ownBlock = some k → k ≠ g := fun s k hs hk e => by
    subst e
    rcases List.mem_append.1 hs with h | h
    · exact p3 _ h _ (List.mem_cons_self ..) s r0 k rfl rfl hk hgb
    · exact p4 _ h r0 s k rfl rfl hgb hk
  refine H.put (H.bel.grown hg hsz (fun k hk => by cases hk; exact hlt.1)) hr (fun s hs => ?_) (fun s k hs hk hk2 => ?_) (fun g2 o e => ⟨?_, fun hk => ?_⟩)
  · refine World.ownsRow.kept (H.own s (mem_put hs)) hg ?_
    rcases hb : s.v.ownBlock with _ | k
    · exact .inl rfl
    · exact .inr (fun e => by cases e; exact hne s _ hs hb rfl)
  · rw [hgb'] at hk2
    cases hk2
    have h2 := (World.ownsRow.lt (H.own s (mem_put hs)) _ hk).2
    have h3 := hne s _ hs hk
    omega
  · exact blkGrow hg (H.hd g2 o e).1 (fun e2 => by cases e2; exact (H.hd _ o e).2.2 r0 (List.mem_append_right _ (List.mem_cons_self ..)) hgb)
  · rw [hgb'] at hk
    cases hk
    have h2 := (Array.getElem?_eq_some_iff.1 (H.hd _ o e).1).1
    have h3 := (H.hd _ o e).2.2 r0 (List.mem_append_right _ (List.mem_cons_self ..))
    rw [hgb] at h3
    have h4 : g ≠ g' := fun e => h3 (by rw [e])
    omega
/-- The header is made. -/
theorem Sr.hdr {w0 w : World} {l : List (Option Rw)} (H : Sr w0 w none l) (cs : Array Value) (t : TypeId) : Sr w0 (w.alloc (.cells cs t)) (some (w.heap.size, .cells cs t (0, 0))) l :=
  ⟨H.bel.alloc H.bel.size _, fun r hr => ownStay (H.own r hr) ((Below.refl _ _).alloc (Nat.le_refl _) _), H.ne, fun g o e => by
    cases e
    exact ⟨blkNew _ _ rfl, H.bel.size, fun r hr hk => by have := (World.ownsRow.lt (H.own r hr) _ hk).2; omega⟩⟩
/-- append(row, xs...) as a step of a drawn region: whatever the source. -/
theorem stepAppX {S : Nat → Prop} {t e : TypeId} {sz bytes : Nat} (E : ElemT t e sz bytes) (hby : bytes ≤ 100) {ops : Array Oper} {o : Oper} {a : Act} {K : Act → World → Prop} {Q : Exit → Act → World → Prop} {E' : Prop} (hgd : o.guard = none) (s x : Operand)
    (ho : o.op = .call { callee := .builtin .append, args := #[s, x], argTypes := #[t, t] })
    (base g n cap m : Nat) (u : Value) (xs news : List Value) (w : World) (hs : a.eval s = .slice (some ⟨g, 0, none⟩) n cap) (hx : a.eval x = u)
    (hown : w.ownsRow base e sz (.slice (some ⟨g, 0, none⟩) n cap) n xs) (hu : Fl S w u m news) (hl : news.length = m * sz) (h1 : ∀ u ∈ news, u.oneCell' = true) (hn : n + m ≤ 1000000000) (hbase : base ≤ w.heap.size)
    (h : ∀ g' cap' w', w'.ownsRow base e sz (.slice (some ⟨g', 0, none⟩) (n + m) cap') (n + m) (xs ++ news) → w.grownBy w' (some g) → (g' = g ∨ g' = w.heap.size) → K (a.put o.dst (.slice (some ⟨g', 0, none⟩) (n + m) cap')) w') :
    if Region.wanted o (yielded ops a.tmps) = true then Oper.wp Try.prog o a w K Q else E' := by
  obtain ⟨i, z, hi, hz, h2, h3, h4⟩ := E.inf
  obtain ⟨ad, cp, rfl, hh, hc⟩ := hu
  have hw : Region.wanted o (yielded ops a.tmps) = true := by simp [Region.wanted, hgd]
  cases ad with
  | none =>
    have hm : m = 0 := by have := hh.2.2 rfl; have := hh.2.1; omega
    subst hm
    have hcap := hh.2.2 rfl
    subst hcap
    have hnil : news = [] := List.eq_nil_of_length_eq_zero (by simpa using hl)
    subst hnil
    rw [if_pos hw]
    have hrun := run_append_owned_none (P := Try.prog) (w := w) base t o.type e i sz E.ul hi _ n xs hown
    unfold Oper.wp
    simp [execOp, ho, resolve, invoke, builtin, hs, hx, hrun, Result.andThen]
    have := h g cap w (by simpa using hown) (grownRefl _ _) (.inl rfl)
    rw [Nat.add_zero] at this
    exact this
  | some ad =>
    have hcell : ∀ j u, news[j]? = some u → w.cell? (ad.add j) = some u := by
      intro j u hj
      obtain ⟨hlt, rfl⟩ := List.getElem?_eq_some_iff.1 hj
      obtain ⟨b, off, e, _, c⟩ := hc j hlt
      cases e
      rw [Addr.add_lit]; exact c
    rcases Nat.eq_zero_or_pos m with rfl | hm
    · have hnil : news = [] := List.eq_nil_of_length_eq_zero (by simpa using hl)
      subst hnil
      have hcp : n ≤ cap := by
        obtain ⟨_, h | ⟨g0, c0, cur, hv, _, _, h5, _⟩⟩ := hown
        · cases h.1
        · cases hv; exact h5
      refine step_append_room (P := Try.prog) hgd s x t ho e i sz E.ul hi h2 g 0 n cap hs ad 0 cp [] hx (by simp) hcell h1 (by omega) ?_ ?_
      · simp
      · rw [setCells_nil]
        have := h g cap w (by simpa using hown) (grownRefl _ _) (.inl rfl)
        simpa using this
    · refine step_append_lies (P := Try.prog) w hgd s x t ho base e i z sz bytes E.ul hi hz h2 h3 h4 E.pos _ n xs hs hown ad m cp news hx hl hcell h1 hm ?_ ?_ hbase _ rfl ?_
      · unfold maxLen; omega
      · have : (n + m) * bytes ≤ 1000000000 * 100 := Nat.mul_le_mul (by omega) hby
        omega
      · intro g' cap' w' k1 k2 k3 _
        exact h g' cap' w' k1 k2 (k3.imp (fun e => by cases e; rfl) id)
end Go.Proofs.Ytbcjhiponbfbnaa

/- If the whole expression gives an automaton, so does each part of it. -/
import Derived.Test.YtnjddneelkdmoaaBnd
import Derived.Test.YtnjddneelkdmoaaSta
set_option linter.unusedSimpArgs false
set_option linter.unusedVariables false
set_option linter.unusedSectionVars false
namespace Go.Proofs.Ytnjddneelkdmoaa
open Go.RowKit
set_option maxRecDepth 100000
theorem push_down {s s' : List Re} {p : Int × Int} (h : push (some s) p = some s') (hk : ∀ t ∈ s', bB t = true) : ∀ t ∈ s, bB t = true := by
  obtain ⟨_, h | h | h⟩ := push_some h
  · obtain ⟨_, rfl, _⟩ := h
    exact fun t ht => hk t (List.mem_cons_of_mem _ ht)
  · obtain ⟨_, a, r, rfl, rfl, _⟩ := h
    have h0 := hk _ (List.mem_cons_self ..)
    intro t ht
    rcases List.mem_cons.1 ht with rfl | ht
    · unfold Re.mk1 at h0
      cases hb : bB t with
      | true => rfl
      | false =>
        exfalso
        split at h0
        · cases h0
        · rw [(bStar_no hb).2] at h0; cases h0
    · exact hk t (List.mem_cons_of_mem _ ht)
  · obtain ⟨_, a, b, r, rfl, rfl, _⟩ := h
    have h0 := hk _ (List.mem_cons_self ..)
    have hab : bB a = true ∧ bB b = true := by
      unfold Re.mk2 at h0
      cases ha : bB a with
      | false =>
        exfalso
        split at h0
        · rw [(bJoin_noA ha).2] at h0; cases h0
        · split at h0
          · rw [(bEither_noA ha).2] at h0; cases h0
          · cases h0
      | true =>
        cases hb : bB b with
        | false =>
          exfalso
          split at h0
          · rw [(bJoin_noB hb).2] at h0; cases h0
          · split at h0
            · rw [(bEither_noB hb).2] at h0; cases h0
            · cases h0
        | true => exact ⟨rfl, rfl⟩
    intro t ht
    rcases List.mem_cons.1 ht with rfl | ht
    · exact hab.2
    · rcases List.mem_cons.1 ht with rfl | ht
      · exact hab.1
      · exact hk t (List.mem_cons_of_mem _ ht)
theorem prefix_ok {e : List (Int × Int)} {t : Re} (h : parse e = some [t]) (hb : bB t = true) : ∀ (m k : Nat), e.length - k = m → ∀ s, parse (e.take k) = some s → ∀ u ∈ s, bB u = true := by
  intro m
  induction m with
  | zero =>
    intro k hk s hs
    rw [List.take_of_length_le (by omega), h] at hs
    cases hs
    intro u hu
    rw [List.mem_singleton] at hu
    subst hu; exact hb
  | succ m ih =>
    intro k hk s hs
    have hlt : k < e.length := by omega
    have htp := take_parse e k hlt
    rw [hs] at htp
    cases hp : push (some s) e[k] with
    | none => rw [hp] at htp; have := noParse htp; rw [h] at this; cases this
    | some s' =>
      rw [hp] at htp
      exact push_down hp (ih (k + 1) (by omega) s' htp)
/-- A part that gives none: the whole gives none. -/
theorem prefix_no {e : List (Int × Int)} {t u : Re} {k : Nat} {s : List Re} (h : parse e = some [t]) (hs : parse (e.take k) = some s) (hu : u ∈ s) (hn : bB u = false) : bN t = nfa0 ∧ bB t = false := by
  have hb : bB t = false := by
    cases hb : bB t with
    | false => rfl
    | true => rw [prefix_ok h hb _ k rfl s hs u hu] at hn; cases hn
  refine ⟨?_, hb⟩
  unfold bN
  rw [bB_none hb]
  rfl
end Go.Proofs.Ytnjddneelkdmoaa

/-
  Plain laws: the document's lists and the cache's own.
-/
import Derived.Test.YtoeekjooigijbaaRcount
namespace Go.Proofs.Ytoeekjooigijbaa
open Go.RowKit
set_option linter.unusedVariables false
set_option linter.unusedSimpArgs false

theorem others_none {l : List Th} {k : ByteArray} (h : place l k = none) : others l k = l := by
  unfold others
  unfold place at h
  rw [List.findIdx?_eq_none_iff] at h
  rw [List.filter_eq_self]
  intro p hp
  rw [h p hp]
  rfl
theorem others_at : ∀ {l : List Th} {k : ByteArray} {i : Nat}, l.Pairwise (fun p q => p.1 ≠ q.1) → place l k = some i → others l k = l.eraseIdx i
  | [], k, i, _, h => by simp [place] at h
  | p :: l, k, i, hnd, h => by
    rw [List.pairwise_cons] at hnd
    unfold place at h
    rw [List.findIdx?_cons] at h
    by_cases e : p.1 = k
    · rw [decide_eq_true e] at h
      simp only [if_true, Option.some.injEq] at h
      subst h
      have : others l k = l := by
        unfold others
        rw [List.filter_eq_self]
        intro q hq
        have := hnd.1 q hq
        rw [e] at this
        simpa using Ne.symm this
      unfold others at this ⊢
      rw [List.filter_cons, decide_eq_true e, this]
      rfl
    · rw [decide_eq_false e] at h
      simp only [Bool.false_eq_true, if_false, Option.map_eq_some_iff] at h
      obtain ⟨j, hj, rfl⟩ := h
      have ih := others_at hnd.2 (k := k) (i := j) hj
      unfold others at ih ⊢
      rw [List.filter_cons, decide_eq_false e, ih]
      rfl
end Go.Proofs.Ytoeekjooigijbaa

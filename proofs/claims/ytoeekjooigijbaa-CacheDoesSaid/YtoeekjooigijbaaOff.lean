/-
  Rows that a slice need not hold from their head on ('s = s[k:]'): append, reslice. Nothing of the program stands here.
-/
import Derived.Test.YtoeekjooigijbaaBase
namespace Go.Proofs.Ytoeekjooigijbaa
open Go.RowKit
set_option linter.unusedVariables false
set_option linter.unusedSimpArgs false

/-- v is a slice of n elements (size cells each), which are xs; in block g from cell o on, where it lies in memory. -/
def OffRow (w : World) (e : TypeId) (size : Nat) (v : Value) (n : Nat) (xs : List Value) : Prop :=
  xs.length = n * size ∧
  ((v = .slice none 0 0 ∧ n = 0) ∨
   ∃ g o cap cur, v = .slice (some ⟨g, o, none⟩) n cap ∧ w.heap[g]? = some (.cells cur e (0, 0)) ∧ n ≤ cap ∧ cap ≤ maxLen ∧ o + cap * size ≤ cur.size ∧ (cur.toList.drop o).take (n * size) = xs)

section
variable {w w' : World} {e : TypeId} {size n : Nat} {v : Value} {xs : List Value}

theorem OffRow.nil (w : World) (e : TypeId) (size : Nat) : OffRow w e size (.slice none 0 0) 0 [] := ⟨by simp, .inl ⟨rfl, rfl⟩⟩
theorem OffRow.kept (h : OffRow w e size v n xs) (h2 : ∀ k, v.ownBlock = some k → w'.heap[k]? = w.heap[k]?) : OffRow w' e size v n xs := by
  refine ⟨h.1, ?_⟩
  rcases h.2 with hn | ⟨g, o, cap, cur, rfl, hg, rest⟩
  · exact .inl hn
  · exact .inr ⟨g, o, cap, cur, rfl, (h2 g rfl).trans hg, rest⟩
theorem OffRow.lt (h : OffRow w e size v n xs) : ∀ k, v.ownBlock = some k → k < w.heap.size := fun k hk => by
  rcases h.2 with ⟨rfl, _⟩ | ⟨g, o, cap, cur, rfl, hg, _⟩
  · simp [Value.ownBlock] at hk
  · simp only [Value.ownBlock, Option.some.injEq] at hk
    subst hk
    exact (Array.getElem?_eq_some_iff.1 hg).1
theorem OffRow.shape (h : OffRow w e size v n xs) : ∃ a cap, v = .slice a n cap := by
  rcases h.2 with ⟨rfl, rfl⟩ | ⟨g, o, cap, cur, rfl, _⟩
  · exact ⟨_, _, rfl⟩
  · exact ⟨_, _, rfl⟩
theorem OffRow.cells (h : OffRow w e size v n xs) {i : Nat} {u : Value} (hu : xs[i]? = some u) : ∃ g o cap, v = .slice (some ⟨g, o, none⟩) n cap ∧ w.cell? ⟨g, o + i, none⟩ = some u := by
  rcases h.2 with ⟨rfl, rfl⟩ | ⟨g, o, cap, cur, rfl, hg, hn, hm, hs, ht⟩
  · have := (List.getElem?_eq_some_iff.1 hu).1
    have := h.1
    omega
  · refine ⟨g, o, cap, rfl, ?_⟩
    have hi := (List.getElem?_eq_some_iff.1 hu).1
    rw [h.1] at hi
    rw [← ht, List.getElem?_take, if_pos hi, List.getElem?_drop] at hu
    simpa [World.cell?, hg] using hu

variable {P : Program}

/-- append onto it: in its own row where there is room, else in a new one. -/
theorem run_append_off (t tx ty e : TypeId) (i : TypeInfo) (z : Value) (size bytes : Nat) (ht : P.underlying t = some (.slice e)) (hi : P.info? e = some i) (hz : i.zero = some z)
    (hsize : i.size = size) (hby : i.bytes = bytes) (hzs : z.cells.size = size)
    (v : Value) (n : Nat) (xs : List Value) (hown : OffRow w e size v n xs) (x : Value) (m : Nat) (hm0 : 0 < m ∨ v.ownBlock ≠ none) (news : List Value) (hs : Src P size tx x m news w)
    (h63 : n + m ≤ maxLen) (hbytes : (n + m) * bytes ≤ 140737488355328) :
    ∃ v' w', (Builtin.append_ #[t, tx] ty #[v, x]).run P w = .ok v' w' ∧ OffRow w' e size v' (n + m) (xs ++ news) ∧ w.grownBy w' v.ownBlock ∧
      (v'.ownBlock = v.ownBlock ∨ v'.ownBlock = some w.heap.size) := by
  subst hsize
  subst hby
  have hsmall : n + m ≤ 9223372036854775807 := by simp only [maxLen] at h63; omega
  have hl := hs.newsLen
  have hlen : (xs ++ news).length = (n + m) * i.size := by rw [List.length_append, hown.1, hl, Nat.add_mul]
  have grown : ∀ (old : Nat), old < n + m → ∀ (row : Option Nat),
      OffRow (w.drew.alloc (.cells ((xs ++ news).toArray ++ Builtin.zeroCells z.cells (grownCap w (n + m) old e - (n + m))) e)) e i.size
        (.slice (some ⟨w.heap.size, 0, none⟩) (n + m) (grownCap w (n + m) old e)) (n + m) (xs ++ news) ∧
      w.grownBy (w.drew.alloc (.cells ((xs ++ news).toArray ++ Builtin.zeroCells z.cells (grownCap w (n + m) old e - (n + m))) e)) row := by
    intro old ho row
    have hge := grownCap_ge w (n + m) old e
    have hcm : grownCap w (n + m) old e ≤ maxLen := grownCap_le_maxLen w (n + m) old e h63
    refine ⟨⟨hlen, .inr ⟨w.heap.size, 0, _, _, rfl, heap_alloc_new w.drew _, hge, hcm, ?_, ?_⟩⟩, ⟨rfl, rfl, rfl, by simp, fun k hk _ => Below.heap_alloc w.drew _ k hk⟩⟩
    · rw [Array.size_append, size_zeroCells, hzs, List.size_toArray, hlen, ← Nat.add_mul, Nat.zero_add]
      exact Nat.le_of_eq (by congr 1; omega)
    · rw [List.drop_zero, Array.toList_append, ← hlen]
      exact List.take_left
  rcases hown.2 with ⟨rfl, rfl⟩ | ⟨g, o, cap, cur, rfl, hg, hnc, hcm, hcs, htake⟩
  · have hx : xs = [] := List.eq_nil_of_length_eq_zero (by simpa using hown.1)
    subst hx
    have hm0 : 0 < m := hm0.resolve_right fun e => e (by simp [Value.ownBlock])
    have hr := run_append_grow_src (P := P) w t tx ty e i z ht hi hz none 0 0 [] (run_firstCells_none _ _ _ _ _) x m news hs (by omega) (by omega) (growslice_fits (by omega) hbytes)
    have hgr := grown 0 (by omega) (Value.ownBlock (.slice none 0 0))
    exact ⟨_, _, hr, hgr.1, hgr.2, .inr rfl⟩
  · by_cases hroom : n + m ≤ cap
    · have hfit : o + n * i.size + news.length ≤ cur.size := by
        have h1 : (n + m) * i.size ≤ cap * i.size := Nat.mul_le_mul_right _ hroom
        rw [hl]
        rw [Nat.add_mul] at h1
        omega
      have hst := run_storeCells_at P g (o + n * i.size) e news 0 cur w hg (by simpa using hfit) hs.one
      simp only [Nat.add_zero] at hst
      have hr : (Builtin.append_ #[t, tx] ty #[.slice (some ⟨g, o, none⟩) n cap, x]).run P w = .ok (.slice (some ⟨g, o, none⟩) (n + m) cap) (w.setRow g (cur.toList.take (o + n * i.size) ++ news ++ cur.toList.drop (o + n * i.size + news.length)).toArray) := by
        rcases hs.kind with ⟨e', hk⟩ | hk <;> simp [Builtin.append_, run_underlying ht, run_underlying hk, sizeOf, typeInfo, hi, hs.len, hroom, hs.cells, addr_add, hst]
      refine ⟨_, _, hr, ⟨hlen, .inr ⟨g, o, cap, _, rfl, setRow_heap w g cur _ e _ hg, hroom, hcm, ?_, ?_⟩⟩, ⟨rfl, rfl, rfl, by simp, fun k _ hk => setRow_other w g k _ (fun e => hk (by simp [Value.ownBlock, e]))⟩, .inl rfl⟩
      · simp only [List.size_toArray, List.length_append, List.length_take, List.length_drop, Array.length_toList]
        omega
      · have e1 : (cur.toList.take (o + n * i.size)).drop o = xs := by rw [List.drop_take, ← htake]; congr 1; omega
        simp only [List.append_assoc]
        rw [List.drop_append_of_le_length (by rw [List.length_take, Array.length_toList]; omega), e1, ← List.append_assoc, ← hlen]
        exact List.take_left
    · have holds : ∀ j u, xs[j]? = some u → w.drew.cell? ((⟨g, o, none⟩ : Addr).add j) = some u := fun j u hu => by
        obtain ⟨g', o', c', e1, hc⟩ := hown.cells hu
        simp only [Value.slice.injEq, Option.some.injEq, Addr.mk.injEq, and_true] at e1
        obtain ⟨⟨rfl, rfl⟩, _, _⟩ := e1
        rw [addr_add]
        simpa using hc
      have hr := run_append_grow_src (P := P) w t tx ty e i z ht hi hz (some ⟨g, o, none⟩) n cap xs (run_firstCells_some w.drew i.size n ⟨g, o, none⟩ n cap xs hown.1 holds) x m news hs (by omega) (by omega) (growslice_fits (by omega) hbytes)
      have hgr := grown cap (by omega) (Value.ownBlock (.slice (some ⟨g, o, none⟩) n cap))
      exact ⟨_, _, hr, hgr.1, hgr.2, .inr rfl⟩

/-- 's[k:]'. -/
theorem OffRow.from {k cap o : Nat} {g : Nat} (h : OffRow w e size (.slice (some ⟨g, o, none⟩) n cap) n xs) (hk : k ≤ n) :
    OffRow w e size (.slice (if cap = k then some ⟨g, o, none⟩ else some ⟨g, o + k * size, none⟩) (n - k) (cap - k)) (n - k) (xs.drop (k * size)) := by
  obtain ⟨hl, ⟨h0, _⟩ | ⟨g', o', cap', cur, hv, hg, hn, hm, hs, ht⟩⟩ := h
  · cases h0
  · simp only [Value.slice.injEq, Option.some.injEq, Addr.mk.injEq, and_true, true_and] at hv
    obtain ⟨⟨rfl, rfl⟩, rfl⟩ := hv
    have hll : (xs.drop (k * size)).length = (n - k) * size := by rw [List.length_drop, hl, Nat.sub_mul]
    refine ⟨hll, .inr ?_⟩
    by_cases e : cap = k
    · have h0 : n - k = 0 := by omega
      rw [if_pos e]
      refine ⟨g, o, cap - k, cur, rfl, hg, by omega, by omega, ?_, ?_⟩
      · rw [show cap - k = 0 by omega]; omega
      · rw [h0, Nat.zero_mul, List.take_zero]
        exact (List.eq_nil_of_length_eq_zero (by rw [hll, h0, Nat.zero_mul])).symm
    · rw [if_neg e]
      refine ⟨g, _, cap - k, cur, rfl, hg, by omega, by omega, ?_, ?_⟩
      · have := Nat.sub_mul cap k size
        have : k * size ≤ cap * size := Nat.mul_le_mul_right _ (by omega)
        omega
      · rw [← ht, ← List.drop_drop, List.drop_take, Nat.sub_mul]
end
end Go.Proofs.Ytoeekjooigijbaa

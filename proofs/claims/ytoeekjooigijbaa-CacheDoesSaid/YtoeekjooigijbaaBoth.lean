/-
  The cache, and the document's cache beside it.
-/
import Derived.Test.YtoeekjooigijbaaRget
import Derived.Test.YtoeekjooigijbaaRoffer
namespace Go.Proofs.Ytoeekjooigijbaa
open Go.RowKit
set_option linter.unusedVariables false
set_option linter.unusedSimpArgs false

section
variable {B : Nat} {w0 w w' : World} {cb tr ab : Nat} {s s' r : St} {tv cv : Value}

/-- A cell that is not the cache's own is written. -/
theorem Own.setCell {k : Nat} (h : Own B w0 w cb s) (ha : Apart w cb k) (hk : B ≤ k) (i : Nat) (u : Value) :
    Own B w0 (w.setCell ⟨k, i, none⟩ u) cb s ∧ ∀ q, Apart w cb q → Apart (w.setCell ⟨k, i, none⟩ u) cb q := by
  obtain ⟨⟨v, b, hm, hv, hbb⟩, hi, hcb, hbel⟩ := h
  have hn := ha.2.2 v b s hm
  have hm' := hm.setCell (a := ⟨k, i, none⟩) u ha.2.1 hn.1 hn.2
  refine ⟨⟨⟨v, b, hm', hv, hbb⟩, hi, hcb, hbel.setCell hk u⟩, fun q hq => ⟨by have := hq.1; simpa using this, hq.2.1, fun v1 b1 s1 hc1 => ?_⟩⟩
  obtain ⟨rfl, rfl⟩ := hm'.uniq hc1
  exact hq.2.2 v b s hm
theorem Own.put4 {k : Nat} (h : Own B w0 w cb s) (ha : Apart w cb k) (hk : B ≤ k) (x0 x1 x2 x3 : Value) :
    Own B w0 (put4 w k x0 x1 x2 x3) cb s ∧ ∀ q, Apart w cb q → Apart (Ytoeekjooigijbaa.put4 w k x0 x1 x2 x3) cb q := by
  obtain ⟨h1, a1⟩ := h.setCell ha hk 0 x0
  obtain ⟨h2, a2⟩ := h1.setCell (a1 k ha) hk 1 x1
  obtain ⟨h3, a3⟩ := h2.setCell (a2 k (a1 k ha)) hk 2 x2
  obtain ⟨h4, a4⟩ := h3.setCell (a3 k (a2 k (a1 k ha))) hk 3 x3
  exact ⟨h4, fun q hq => a4 q (a3 q (a2 q (a1 q hq)))⟩

structure Both (B : Nat) (w0 w : World) (cb tr : Nat) (s r : St) (tv cv : Value) : Prop where
  own : Own B w0 w cb s
  x : w.heap[tr]? = some (.cells #[.int .i64 r.size, tv, cv, .int .i64 r.asked] 30 (0, 0))
  t : RowT w tv r.all
  c : RowC w cv r.cs
  ax : Apart w cb tr
  at_ : ∀ k, tv.ownBlock = some k → Apart w cb k
  ac : ∀ k, cv.ownBlock = some k → Apart w cb k
  hB : B ≤ tr

/-- An act's box, which is not the cache's own. -/
def ActBox (w : World) (cb tr ab : Nat) (x : ActD) : Prop := w.heap[ab]? = some (.cells #[.int .i64 x.K, .string x.S, .string x.V] 33 (0, 0)) ∧ Apart w cb ab

theorem Both.keep (h : Both B w0 w cb tr s r tv cv) (hB : B ≤ w0.heap.size) (hb : Below w.heap.size w w') : Both B w0 w' cb tr s r tv cv :=
  ⟨h.own.keep hB hb, (h.ax.below h.own hb).1.trans h.x, h.t.below hb, h.c.below hb, (h.ax.below h.own hb).2, fun k hk => ((h.at_ k hk).below h.own hb).2, fun k hk => ((h.ac k hk).below h.own hb).2, h.hB⟩
theorem ActBox.keep {x : ActD} (h : ActBox w cb tr ab x) (hw : Both B w0 w cb tr s r tv cv) (hb : Below w.heap.size w w') : ActBox w' cb tr ab x := ⟨(h.2.below hw.own hb).1.trans h.1, (h.2.below hw.own hb).2⟩
/-- Behind a method of the cache. -/
theorem Both.step (h : Both B w0 w cb tr s r tv cv) (ho : Own B w0 w' cb s') (hk : ∀ k, Apart w cb k → w'.heap[k]? = w.heap[k]? ∧ Apart w' cb k) : Both B w0 w' cb tr s' r tv cv :=
  ⟨ho, (hk tr h.ax).1.trans h.x, h.t.kept fun k hq => (hk k (h.at_ k hq)).1, h.c.kept fun k hq => (hk k (h.ac k hq)).1, (hk tr h.ax).2, fun k hq => (hk k (h.at_ k hq)).2, fun k hq => (hk k (h.ac k hq)).2, h.hB⟩
theorem ActBox.step {x : ActD} (h : ActBox w cb tr ab x) (hk : ∀ k, Apart w cb k → w'.heap[k]? = w.heap[k]? ∧ Apart w' cb k) : ActBox w' cb tr ab x := ⟨(hk ab h.2).1.trans h.1, (hk ab h.2).2⟩
/-- Behind the document's, and the store of its answer. -/
theorem Both.put (h : Both B w0 w cb tr s r tv cv) (hB : B ≤ w0.heap.size) {tv' cv' : Value} {r' : St} (hr : RefIn w w' tv cv tv' cv' r'.all r'.cs) : Both B w0 (put4 w' tr (.int .i64 r'.size) tv' cv' (.int .i64 r'.asked)) cb tr s r' tv' cv' := by
  have h' := h.keep hB hr.below
  obtain ⟨ho, ha⟩ := h'.own.put4 h'.ax h.hB (.int .i64 r'.size) tv' cv' (.int .i64 r'.asked)
  refine ⟨ho, setAll h'.x _ _ _ _, OffRow.kept hr.t fun k hk => put4_ne _ _ _ _ ?_, OffRow.kept hr.c fun k hk => put4_ne _ _ _ _ ?_, ha _ h'.ax, fun k hk => ha _ ?_, fun k hk => ha _ ?_, h.hB⟩
  · rintro rfl; exact off_ne hr.t h'.x (by decide) hk
  · rintro rfl; exact off_ne hr.c h'.x (by decide) hk
  · rcases hr.ot k hk with e | e
    · exact ((h.at_ k e).below h.own hr.below).2
    · exact h.own.fresh e hr.below (OffRow.lt hr.t k hk)
  · rcases hr.oc k hk with e | e
    · exact ((h.ac k e).below h.own hr.below).2
    · exact h.own.fresh e hr.below (OffRow.lt hr.c k hk)
theorem ActBox.put {x : ActD} (h : ActBox w cb tr ab x) (hw : Both B w0 w cb tr s r tv cv) (hB : B ≤ w0.heap.size) (hb : Below w.heap.size w w') (x0 x1 x2 x3 : Value) : ActBox (put4 w' tr x0 x1 x2 x3) cb tr ab x := by
  have h' := h.keep hw hb
  have hw' := hw.keep hB hb
  refine ⟨(put4_ne _ _ _ _ ?_).trans h'.1, (hw'.own.put4 hw'.ax hw.hB x0 x1 x2 x3).2 _ h'.2⟩
  rintro rfl
  have := h'.1.symm.trans hw'.x
  simp at this
/-- The document's own, made anew, in a box of its own. -/
theorem Both.start (h : Own B w0 w cb s) (hB : B ≤ w0.heap.size) {size : Nat} (hs : s = emptyS size) :
    Both B w0 (w.alloc (.cells #[.int .i64 size, .slice none 0 0, .slice none 0 0, .int .i64 0] 30)) cb w.heap.size s s (.slice none 0 0) (.slice none 0 0) := by
  subst hs
  exact ⟨h.alloc hB _, heap_alloc_new w _, OffRow.nil _ _ _, OffRow.nil _ _ _, h.fresh (Nat.le_refl _) ((Below.refl _ w).alloc (Nat.le_refl _) _) (by simp), fun k hk => by simp [Value.ownBlock] at hk, fun k hk => by simp [Value.ownBlock] at hk, Nat.le_trans hB h.below.size |> fun e => by omega⟩
end

theorem cells33b {w : World} {b : Nat} {a0 a1 a2 : Value} (h : w.heap[b]? = some (.cells #[a0, a1, a2] 33 (0, 0))) : w.cell? ⟨b, 0, none⟩ = some a0 ∧ w.cell? ⟨b, 1, none⟩ = some a1 ∧ w.cell? ⟨b, 2, none⟩ = some a2 := by
  simp [World.cell?, h]
theorem keyVs_strs {w : World} {v : Value} {l : List Th} (h : OffRow w 9 1 v l.length (keyVs l)) : StrsAt w v (l.map fun p => p.1) := by
  obtain ⟨a, cap, rfl⟩ := OffRow.shape h
  refine ⟨a, cap, by simp, fun i s hs => ?_⟩
  obtain ⟨g, o, c, hv, q⟩ := OffRow.cells h (i := i) (u := .string s) (by
    unfold keyVs
    rw [List.getElem?_map] at hs ⊢
    cases hp : l[i]? with
    | none => rw [hp] at hs; simp at hs
    | some p => rw [hp] at hs; simp at hs; simp [hs])
  simp only [Value.slice.injEq, true_and] at hv
  obtain ⟨rfl, _⟩ := hv
  exact ⟨g, o, rfl, q⟩
end Go.Proofs.Ytoeekjooigijbaa

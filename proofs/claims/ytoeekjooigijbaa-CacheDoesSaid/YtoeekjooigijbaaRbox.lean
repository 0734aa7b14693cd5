/-
  What a method of the document's cache has in hand: its own box of it, its answer's box, the rows.
-/
import Derived.Test.YtoeekjooigijbaaRdata
namespace Go.Proofs.Ytoeekjooigijbaa
open Go.RowKit
set_option linter.unusedVariables false
set_option linter.unusedSimpArgs false

theorem off_ne {w : World} {e e' : TypeId} {size : Nat} {v : Value} {n : Nat} {xs : List Value} (h : OffRow w e size v n xs) {k : Nat} {cur : Array Value} (hk : w.heap[k]? = some (.cells cur e' (0, 0))) (he : e' ≠ e) : v.ownBlock ≠ some k := fun e1 => by
  rcases h.2 with ⟨e0, _⟩ | ⟨g', o', cap', cur', e0, hg', _⟩
  · rw [e0] at e1; simp [Value.ownBlock] at e1
  · rw [e0] at e1
    simp only [Value.ownBlock, Option.some.injEq] at e1
    rw [e1, hk] at hg'
    simp at hg'
    exact he hg'.2

/-- The document's cache as it is handed back. -/
structure RefIn (w w' : World) (tv0 cv0 tv cv : Value) (l : List Th) (cs : Cs) : Prop where
  t : RowT w' tv l
  c : RowC w' cv cs
  ot : ∀ k, tv.ownBlock = some k → tv0.ownBlock = some k ∨ w.heap.size ≤ k
  oc : ∀ k, cv.ownBlock = some k → cv0.ownBlock = some k ∨ w.heap.size ≤ k
  below : Below w.heap.size w w'
def RefPost (w : World) (tv0 cv0 : Value) (s : St) (more : List Value) (e : Ending) (w' : World) : Prop :=
  ∃ tv cv, e = .returned (.tuple (#[refV s.size tv cv s.asked] ++ more.toArray)) ∧ RefIn w w' tv0 cv0 tv cv s.all s.cs

structure RB (w : World) (X Y : Nat) (wx : World) (size : Nat) (tv0 cv0 tv cv : Value) (l : List Th) (cs : Cs) (asked : Nat) : Prop where
  x : wx.heap[X]? = some (.cells #[.int .i64 size, tv, cv, .int .i64 asked] 30 (0, 0))
  y : wx.heap[Y]? = some (.cells #[.int .i64 0, .slice none 0 0, .slice none 0 0, .int .i64 0] 30 (0, 0))
  t : RowT wx tv l
  c : RowC wx cv cs
  ot : ∀ k, tv.ownBlock = some k → tv0.ownBlock = some k ∨ w.heap.size ≤ k
  oc : ∀ k, cv.ownBlock = some k → cv0.ownBlock = some k ∨ w.heap.size ≤ k
  hx : w.heap.size ≤ X
  hy : w.heap.size ≤ Y
  ne : X ≠ Y
  below : Below w.heap.size w wx

section
variable {w wx w' : World} {X Y size asked : Nat} {tv0 cv0 tv cv : Value} {l : List Th} {cs : Cs}
theorem RB.keep (h : RB w X Y wx size tv0 cv0 tv cv l cs asked) (hb : Below wx.heap.size wx w') : RB w X Y w' size tv0 cv0 tv cv l cs asked :=
  ⟨(hb.block X (lt_of_block h.x)).trans h.x, (hb.block Y (lt_of_block h.y)).trans h.y, h.t.below hb, h.c.below hb, h.ot, h.oc, h.hx, h.hy, h.ne, h.below.trans (hb.mono h.below.size)⟩
theorem RB.drewN (h : RB w X Y wx size tv0 cv0 tv cv l cs asked) (n : Nat) : RB w X Y (wx.drewN n) size tv0 cv0 tv cv l cs asked := h.keep ⟨rfl, rfl, rfl, Nat.le_refl _, fun _ _ => rfl⟩
def put4 (w : World) (X : Nat) (a b c d : Value) : World := (((w.setCell ⟨X, 0, none⟩ a).setCell ⟨X, 1, none⟩ b).setCell ⟨X, 2, none⟩ c).setCell ⟨X, 3, none⟩ d
theorem put4_ne {X k : Nat} (a b c d : Value) (h : k ≠ X) : (put4 w X a b c d).heap[k]? = w.heap[k]? :=
  (Below.heap_setCell _ _ _ _ h).trans ((Below.heap_setCell _ _ _ _ h).trans ((Below.heap_setCell _ _ _ _ h).trans (Below.heap_setCell _ _ _ _ h)))
theorem put4_below {B : Nat} {w0 : World} (hb : Below B w0 w) (h : B ≤ X) (a b c d : Value) : Below B w0 (put4 w X a b c d) := (((hb.setCell h _).setCell h _).setCell h _).setCell h _
theorem RB.put (h : RB w X Y wx size tv0 cv0 tv cv l cs asked) (hb : Below wx.heap.size wx w') {tv' cv' : Value} {l' : List Th} {cs' : Cs} {asked' : Nat} (ht : RowT w' tv' l') (hc : RowC w' cv' cs')
    (ot : ∀ k, tv'.ownBlock = some k → tv.ownBlock = some k ∨ wx.heap.size ≤ k) (oc : ∀ k, cv'.ownBlock = some k → cv.ownBlock = some k ∨ wx.heap.size ≤ k) :
    RB w X Y (put4 w' X (.int .i64 size) tv' cv' (.int .i64 asked')) size tv0 cv0 tv' cv' l' cs' asked' := by
  have ex := (hb.block X (lt_of_block h.x)).trans h.x
  have ey := (hb.block Y (lt_of_block h.y)).trans h.y
  have hs := h.below.size
  refine ⟨setAll ex _ _ _ _, (put4_ne _ _ _ _ (Ne.symm h.ne)).trans ey, ht.kept fun k hk => put4_ne _ _ _ _ ?_, hc.kept fun k hk => put4_ne _ _ _ _ ?_, fun k hk => ?_, fun k hk => ?_, h.hx, h.hy, h.ne, put4_below (h.below.trans (hb.mono hs)) h.hx _ _ _ _⟩
  · rintro rfl; exact off_ne ht ex (by decide) hk
  · rintro rfl; exact off_ne hc ex (by decide) hk
  · rcases ot k hk with e | e
    · exact h.ot k e
    · exact .inr (Nat.le_trans hs e)
  · rcases oc k hk with e | e
    · exact h.oc k e
    · exact .inr (Nat.le_trans hs e)
/-- New counts; new things. -/
theorem RB.newC (h : RB w X Y wx size tv0 cv0 tv cv l cs asked) {cv' : Value} {cs' : Cs} (asked' : Nat) (hm : Made wx w' 69 2 cv' cs'.length (flatC cs')) : RB w X Y (put4 w' X (.int .i64 size) tv cv' (.int .i64 asked')) size tv0 cv0 tv cv' l cs' asked' :=
  h.put hm.below (h.t.below hm.below) hm.row (fun _ e => .inl e) (fun k hk => .inr (hm.own k hk))
theorem RB.newT (h : RB w X Y wx size tv0 cv0 tv cv l cs asked) {tv' : Value} {l' : List Th} (hm : Made wx w' 64 2 tv' l'.length (flat l')) : RB w X Y (put4 w' X (.int .i64 size) tv' cv (.int .i64 asked)) size tv0 cv0 tv' cv l' cs asked :=
  h.put hm.below hm.row (h.c.below hm.below) (fun k hk => .inr (hm.own k hk)) (fun _ e => .inl e)
/-- The answer's box is filled, by what a call has made. -/
theorem RB.done (h : RB w X Y wx size tv0 cv0 tv cv l cs asked) (hb : Below wx.heap.size wx w') {tv' cv' : Value} {l' : List Th} {cs' : Cs} {asked' : Nat} (ht : RowT w' tv' l') (hc : RowC w' cv' cs')
    (ot : ∀ k, tv'.ownBlock = some k → tv.ownBlock = some k ∨ wx.heap.size ≤ k) (oc : ∀ k, cv'.ownBlock = some k → cv.ownBlock = some k ∨ wx.heap.size ≤ k) :
    (put4 w' Y (.int .i64 size) tv' cv' (.int .i64 asked')).heap[Y]? = some (.cells #[.int .i64 size, tv', cv', .int .i64 asked'] 30 (0, 0)) ∧ RefIn w (put4 w' Y (.int .i64 size) tv' cv' (.int .i64 asked')) tv0 cv0 tv' cv' l' cs' := by
  have ey := (hb.block Y (lt_of_block h.y)).trans h.y
  have hs := h.below.size
  refine ⟨setAll ey _ _ _ _, ht.kept fun k hk => put4_ne _ _ _ _ ?_, hc.kept fun k hk => put4_ne _ _ _ _ ?_, fun k hk => ?_, fun k hk => ?_, put4_below (h.below.trans (hb.mono hs)) h.hy _ _ _ _⟩
  · rintro rfl; exact off_ne ht ey (by decide) hk
  · rintro rfl; exact off_ne hc ey (by decide) hk
  · rcases ot k hk with e | e
    · exact h.ot k e
    · exact .inr (Nat.le_trans hs e)
  · rcases oc k hk with e | e
    · exact h.oc k e
    · exact .inr (Nat.le_trans hs e)
theorem RB.same (h : RB w X Y wx size tv0 cv0 tv cv l cs asked) :
    (put4 wx Y (.int .i64 size) tv cv (.int .i64 asked)).heap[Y]? = some (.cells #[.int .i64 size, tv, cv, .int .i64 asked] 30 (0, 0)) ∧ RefIn w (put4 wx Y (.int .i64 size) tv cv (.int .i64 asked)) tv0 cv0 tv cv l cs :=
  h.done (Below.refl _ _) h.t h.c (fun _ e => .inl e) (fun _ e => .inl e)
theorem RB.doneT (h : RB w X Y wx size tv0 cv0 tv cv l cs asked) {tv' : Value} {l' : List Th} (hm : Made wx w' 64 2 tv' l'.length (flat l')) :
    (put4 w' Y (.int .i64 size) tv' cv (.int .i64 asked)).heap[Y]? = some (.cells #[.int .i64 size, tv', cv, .int .i64 asked] 30 (0, 0)) ∧ RefIn w (put4 w' Y (.int .i64 size) tv' cv (.int .i64 asked)) tv0 cv0 tv' cv l' cs :=
  h.done hm.below hm.row (h.c.below hm.below) (fun k hk => .inr (hm.own k hk)) (fun _ e => .inl e)
/-- A call's own two boxes. -/
theorem RB.start {size asked : Nat} (ht : RowT w tv l) (hc : RowC w cv cs) (hb : Below w.heap.size w wx) (hX : wx.heap[X]? = some (.cells #[.int .i64 size, tv, cv, .int .i64 asked] 30 (0, 0))) (hY : wx.heap[Y]? = some (.cells #[.int .i64 0, .slice none 0 0, .slice none 0 0, .int .i64 0] 30 (0, 0)))
    (hx : w.heap.size ≤ X) (hy : w.heap.size ≤ Y) (ne : X ≠ Y) : RB w X Y wx size tv cv tv cv l cs asked :=
  ⟨hX, hY, ht.below hb, hc.below hb, fun _ e => .inl e, fun _ e => .inl e, hx, hy, ne, hb⟩
theorem box2_start (size asked : Nat) (ht : RowT w tv l) (hc : RowC w cv cs) : RB w w.heap.size (w.heap.size + 1) ((w.alloc (.cells #[.int .i64 size, tv, cv, .int .i64 asked] 30)).alloc (.cells #[.int .i64 0, .slice none 0 0, .slice none 0 0, .int .i64 0] 30 (0, 0))) size tv cv tv cv l cs asked := by
  refine .start ht hc (((Below.refl _ w).alloc (Nat.le_refl _) _).alloc (by simp) _) ?_ ?_ (Nat.le_refl _) (Nat.le_succ _) (by omega)
  · rw [Below.heap_alloc _ _ _ (by simp)]
    exact heap_alloc_new w _
  · simpa using heap_alloc_new (w.alloc (.cells #[.int .i64 size, tv, cv, .int .i64 asked] 30)) (.cells #[.int .i64 0, .slice none 0 0, .slice none 0 0, .int .i64 0] 30 (0, 0))
end

/-! ### bounds -/
theorem Inv.all_le {s : St} (h : Inv s) : s.all.length ≤ 64 := Nat.le_trans h.fits h.hi
theorem Inv.cs_le {s : St} (h : Inv s) : s.cs.length ≤ 1280 := by have := h.few; have := h.hi; omega
theorem Inv.asked_le {s : St} (h : Inv s) : s.asked ≤ 640 := by
  have := h.hi
  rcases h.ask with h1 | ⟨_, h1, _⟩ <;> omega
theorem Inv.low {s : St} (h : Inv s) : ∀ p ∈ s.cs, p.2 ≤ 15 := fun p hp => (h.good.ok p hp).2.2
theorem counted_len (cs : Cs) (k : ByteArray) : (counted cs k).length ≤ cs.length + 1 := by
  unfold counted
  split <;> simp
end Go.Proofs.Ytoeekjooigijbaa

/-
  The document's Send.
-/
import Derived.Test.YtgfklfpjibjhmaaRef
namespace Go.Proofs.Ytgfklfpjibjhmaa
open Go.RowKit
set_option linter.unusedVariables false
set_option linter.unusedSimpArgs false

/-- What one of the document's functions answers: a mesh, and more. -/
def RefP (w : World) (r : Nat) (v : Value) (xs' : List ByteArray) (more : List Value) (e : Ending) (w' : World) : Prop :=
  ∃ v', e = .returned (.tuple (#[refV r v'] ++ more.toArray)) ∧ RowS w' v' xs' ∧ (∀ k, v'.ownBlock = some k → v.ownBlock = some k ∨ w.heap.size ≤ k) ∧ (∃ a c, v' = .slice a xs'.length c) ∧ Below w.heap.size w w'

/-- The two boxes that each of them makes: what came in; what goes out. -/
def box2 (w : World) (r : Nat) (v : Value) : World := (w.alloc (.cells #[.int .i64 r, v] 29)).alloc (.cells #[.int .i64 0, .slice none 0 0] 29)
theorem box2_at (w : World) (r : Nat) (v : Value) : (box2 w r v).heap[w.heap.size]? = some (.cells #[.int .i64 r, v] 29 (0, 0)) ∧ (box2 w r v).heap[w.heap.size + 1]? = some (.cells #[.int .i64 0, .slice none 0 0] 29 (0, 0)) ∧
    Below w.heap.size w (box2 w r v) ∧ (box2 w r v).heap.size = w.heap.size + 2 := by
  unfold box2
  refine ⟨?_, ?_, ((Below.refl _ w).alloc (Nat.le_refl _) _).alloc (by simp) _, by simp⟩
  · rw [Below.heap_alloc _ _ _ (by simp)]
    exact heap_alloc_new w _
  · simpa using heap_alloc_new (w.alloc (.cells #[.int .i64 r, v] 29)) (.cells #[.int .i64 0, .slice none 0 0] 29)
theorem set2 {w : World} {b : Nat} {a0 a1 : Value} (h : w.heap[b]? = some (.cells #[a0, a1] 29 (0, 0))) (x0 x1 : Value) : ((w.setCell ⟨b, 0, none⟩ x0).setCell ⟨b, 1, none⟩ x1).heap[b]? = some (.cells #[x0, x1] 29 (0, 0)) := by
  simp only [World.setCell, Array.getElem?_modify, if_pos rfl, h]
  rfl
theorem set1 {w : World} {b : Nat} {a0 a1 : Value} (h : w.heap[b]? = some (.cells #[a0, a1] 29 (0, 0))) (x1 : Value) : (w.setCell ⟨b, 1, none⟩ x1).heap[b]? = some (.cells #[a0, x1] 29 (0, 0)) := by
  simp only [World.setCell, Array.getElem?_modify, if_pos rfl, h]
  rfl
theorem row_ne {w : World} {v : Value} {n : Nat} {xs : List Value} {k : Nat} {cur : Array Value} {e' : TypeId} (h : OffRow w 9 1 v n xs) (hk : w.heap[k]? = some (.cells cur e' (0, 0))) (he : e' ≠ 9) : v.ownBlock ≠ some k := fun e1 => by
  rcases h.2 with ⟨rfl, _⟩ | ⟨g, o, cap, cur, rfl, hg, _⟩
  · simp [Value.ownBlock] at e1
  · simp only [Value.ownBlock, Option.some.injEq] at e1
    rw [e1, hk] at hg
    simp at hg
    exact he hg.2
theorem cells2 {w : World} {b : Nat} {a0 a1 : Value} (h : w.heap[b]? = some (.cells #[a0, a1] 29 (0, 0))) : w.cell? ⟨b, 0, none⟩ = some a0 ∧ w.cell? ⟨b, 1, none⟩ = some a1 ∧ ∀ i, w.frozen? ⟨b, i, none⟩ = false := by
  simp [World.cell?, World.frozen?, h]
theorem below_sets {B : Nat} {w w' : World} {b : Nat} (h : Below B w w') (hb : B ≤ b) (x0 x1 : Value) : Below B w ((w'.setCell ⟨b, 0, none⟩ x0).setCell ⟨b, 1, none⟩ x1) := (h.setCell hb x0).setCell hb x1

set_option maxHeartbeats 1000000 in
theorem rsend_no (r : Nat) (v : Value) (xs : List ByteArray) (s : ByteArray) (w : World) (h : RowS w v xs) (hl : xs.length ≤ 64) (hr : r ≤ xs.length) :
    Calls Try.prog 23 #[refV r v, .string s] w (RefP w r v xs [.bool false]) := by
  obtain ⟨a, cap, hv⟩ := OffRow.shape h
  subst hv
  obtain ⟨e1, e2, hb, hs⟩ := box2_at w r (.slice a xs.length cap)
  obtain ⟨w1, hw1⟩ : ∃ w1, w1 = box2 w r (.slice a xs.length cap) := ⟨_, rfl⟩
  rw [← hw1] at e1 e2 hb hs
  unfold box2 at hw1
  obtain ⟨c0, c1, _⟩ := cells2 e1
  obtain ⟨d0, d1, f⟩ := cells2 e2
  have y1 : (r : Int) ≤ (xs.length : Int) := by omega
  have HR := Lib.hid h
  have HW := Lib.hid hw1
  have E2 := Lib.hid e2
  have HB := Lib.hid hb
  unfold refV
  clear h e1 e2 hb hs hw1
  go_enter Try.func23, Try.ntmps23
  go_upto_region 1 with fail
  rw [← HW.out]
  go_wp2_with fail
  have g2 := set2 E2.out (.int .i64 r) (.slice a xs.length cap)
  have hb := below_sets HB.out (Nat.le_succ _) (.int .i64 r) (.slice a xs.length cap)
  clear c0 c1 d0 d1 f HW
  generalize ((World.setCell _ _ _).setCell _ _) = W5 at *
  obtain ⟨p0, p1, _⟩ := cells2 g2
  have hfin : RefP w r (.slice a xs.length cap) xs [.bool false] (.returned (.tuple #[.agg #[.int .i64 r, .slice a xs.length cap], .bool false])) W5 := ⟨_, rfl, RowS.below HR.out hb, fun k hk => .inl hk, ⟨_, _, rfl⟩, hb⟩
  refine bodyPost_ret (v := .tuple #[.agg #[.int .i64 r, .slice a xs.length cap], .bool false]) ?_ rfl hfin
  clear hfin g2 hb HR HB E2
  simp only [results, Try.f23]
  go_simp

theorem src_all {w : World} {a : Option Addr} {cap : Nat} {xs : List ByteArray} (h : RowS w (.slice a xs.length cap) xs) : Src Try.prog 1 27 (.slice a xs.length cap) xs.length (xs.map Value.string) w := by
  have := src_part h 0 xs.length cap (by omega) a (fun g o e _ => by simpa using e) (fun _ => trivial) (fun e => by
    rcases h.2 with ⟨_, h0⟩ | ⟨g, o, cap, cur, e2, _⟩
    · exact h0
    · simp only [Value.slice.injEq] at e2; rw [e] at e2; simp at e2) (fun _ _ => trivial)
  rwa [List.drop_zero, List.take_length] at this

/-- A copy of a row, in a block of its own. -/
structure Copied (w w' : World) (v : Value) (xs : List ByteArray) : Prop where
  row : OffRow w' 9 1 v xs.length (xs.map Value.string)
  own : ∀ k, v.ownBlock = some k → w.heap.size ≤ k
  some_ : v.ownBlock ≠ none
  below : Below w.heap.size w w'

theorem copied_first {w w' : World} {v : Value} {xs : List ByteArray} {vs : List Value} {n : Nat} (h : OffRow w' 9 1 v n vs) (hv : vs = xs.map Value.string) (hn : n = xs.length) (hg : (w.alloc (.cells #[] 9)).grownBy w' (some w.heap.size)) (ho : v.ownBlock = some w.heap.size ∨ v.ownBlock = some (w.alloc (.cells #[] 9)).heap.size) : Copied w w' v xs := by
  subst hv hn
  refine ⟨by simpa using h, fun k hk => ?_, ?_, ((Below.refl _ w).alloc (Nat.le_refl _) _).grown hg (by simp) (fun k hk => ?_)⟩
  · rcases ho with e | e
    · rw [e] at hk; simp at hk; omega
    · rw [e] at hk; simp at hk; omega
  · rcases ho with e | e <;> rw [e] <;> simp
  · simp at hk; omega
theorem Copied.more {w w1 w' : World} {v v' : Value} {xs ys : List ByteArray} {vs : List Value} {n m : Nat} (h : Copied w w1 v xs) (hr : OffRow w' 9 1 v' (n + m) (xs.map Value.string ++ vs)) (hv : vs = ys.map Value.string) (hn : n = xs.length) (hm : m = ys.length) {w2 : World} (hb : Below w1.heap.size w1 w2)
    (hg : w2.grownBy w' v.ownBlock) (ho : v'.ownBlock = v.ownBlock ∨ v'.ownBlock = some w2.heap.size) : Copied w w' v' (xs ++ ys) := by
  subst hv hn hm
  have hs := Nat.le_trans h.below.size hb.size
  refine ⟨by simpa using hr, fun k hk => ?_, ?_, (h.below.trans (hb.mono h.below.size)).grown hg hs h.own⟩
  · rcases ho with e | e
    · exact h.own k (e ▸ hk)
    · rw [e] at hk; simp at hk; omega
  · rcases ho with e | e
    · rw [e]; exact h.some_
    · rw [e]; simp

set_option maxHeartbeats 1000000 in
theorem rsend_yes (r : Nat) (v : Value) (xs : List ByteArray) (s : ByteArray) (w : World) (h : RowS w v xs) (hl : xs.length ≤ 64) (hr : xs.length < r) :
    Calls Try.prog 23 #[refV r v, .string s] w (RefP w r v (xs ++ [s]) [.bool true]) := by
  obtain ⟨a, cap, hv⟩ := OffRow.shape h
  subst hv
  obtain ⟨e1, e2, hb, hs⟩ := box2_at w r (.slice a xs.length cap)
  obtain ⟨w1, hw1⟩ : ∃ w1, w1 = box2 w r (.slice a xs.length cap) := ⟨_, rfl⟩
  rw [← hw1] at e1 e2 hb hs
  unfold box2 at hw1
  obtain ⟨c0, c1, _⟩ := cells2 e1
  obtain ⟨d0, d1, f⟩ := cells2 e2
  obtain ⟨i9, hi9, hz9, hs9, hb9⟩ := info_parts info9
  have y1 : ¬ (r : Int) ≤ (xs.length : Int) := by omega
  have HR := Lib.hid h
  have HW := Lib.hid hw1
  have E1 := Lib.hid e1
  have E2 := Lib.hid e2
  have HB := Lib.hid hb
  have HS := Lib.hid hs
  unfold refV
  clear h e1 e2 hb hs hw1
  go_enter Try.func23, Try.ntmps23
  go_upto_region 1 with fail
  rw [← HW.out]
  have c1' : ∀ o, (w1.alloc o).cell? ⟨w.heap.size, 1, none⟩ = some (.slice a xs.length cap) := fun o => (World.cell?_of_block (w := w1) (Below.heap_alloc _ _ _ (by show w.heap.size < w1.heap.size; rw [HS.out]; omega))).trans c1
  have hrow1 := Lib.hid (fun (o : Obj) => RowS.below HR.out (HB.out.alloc (by rw [HS.out]; omega) o))
  go_wp2_with (at_builtin; refine wpList_append_off rfl (.tmp 13) (.tmp 15) 27 27 9 rfl i9 _ 1 16 Try.underlying27 hi9 hz9 hs9 hb9 rfl (.slice (some ⟨w1.heap.size, 0, none⟩) 0 0) 0 [] rfl (row_none (heap_alloc_new w1 _)) xs.length (xs.map Value.string) (src_all (hrow1.out _)) (.inr (by simp [Value.ownBlock])) (by unfold maxLen; omega) (by omega) ?_)
  intro v1 w2 ho1 hg1 hn1
  have C1 := Lib.hid (copied_first ho1 rfl rfl hg1 (by simpa [Value.ownBlock] using hn1))
  clear ho1 hg1 hn1
  go_wp2_with (at_builtin; refine wpList_append_off rfl (.tmp 16) (.tmp 18) 27 27 9 rfl i9 _ 1 16 Try.underlying27 hi9 hz9 hs9 hb9 rfl v1 xs.length (xs.map Value.string) rfl (OffRow.kept C1.out.row fun k hk => Below.heap_alloc _ _ _ (C1.out.row.lt k hk)) 1 [.string s] (src_one _ _) (.inl (by omega)) (by unfold maxLen; omega) (by omega) ?_)
  intro v2 w3 ho2 hg2 hn2
  have C2 := C1.out.more (ys := [s]) ho2 rfl rfl rfl ((Below.refl _ w2).alloc (Nat.le_refl _) _) hg2 (by simpa using hn2)
  obtain ⟨a2, cap2, rfl⟩ := ho2.shape
  have e1' := (C2.below.block w.heap.size (by rw [HS.out]; omega)).trans E1.out
  have e2' := (C2.below.block (w.heap.size + 1) (by rw [HS.out]; omega)).trans E2.out
  obtain ⟨x0, x1, xf⟩ := cells2 e1'
  have HC2 := Lib.hid C2
  have E1' := Lib.hid e1'
  have E2' := Lib.hid e2'
  clear C2 ho2 hg2 hn2 e1' e2' c0 c1 c1' d0 d1 f C1
  go_upto_region 4 with fail
  obtain ⟨w4, hw4⟩ : ∃ w4, w4 = w3.setCell ⟨w.heap.size, 1, none⟩ (.slice a2 (xs.length + 1) cap2) := ⟨_, rfl⟩
  rw [← hw4]
  have e1 : w4.heap[w.heap.size]? = some (.cells #[.int .i64 r, .slice a2 (xs.length + 1) cap2] 29 (0, 0)) := by rw [hw4]; exact set1 E1'.out _
  have e2 : w4.heap[w.heap.size + 1]? = some (.cells #[.int .i64 0, .slice none 0 0] 29 (0, 0)) := by rw [hw4, Below.heap_setCell _ _ _ _ (by show w.heap.size + 1 ≠ w.heap.size; omega)]; exact E2'.out
  obtain ⟨y0, y1, yf⟩ := cells2 e1
  obtain ⟨z0, z1, zf⟩ := cells2 e2
  have hb4 : Below w.heap.size w w4 := by rw [hw4]; exact (HB.out.trans (HC2.out.below.mono (by rw [HS.out]; omega))).setCell (Nat.le_refl _) _
  have hr4 : OffRow w4 9 1 (.slice a2 (xs.length + 1) cap2) (xs ++ [s]).length ((xs ++ [s]).map Value.string) := by
    rw [hw4]
    exact OffRow.kept HC2.out.row fun k hk => Below.heap_setCell _ _ _ _ (by show k ≠ w.heap.size; have := HC2.out.own k hk; rw [HS.out] at this; omega)
  have HO := Lib.hid HC2.out.own
  have E2 := Lib.hid e2
  have HB4 := Lib.hid hb4
  have HR4 := Lib.hid hr4
  clear e1 e2 hb4 hr4 hw4 x0 x1 xf HC2
  go_wp2_with fail
  have g2 := set2 E2.out (.int .i64 r) (.slice a2 (xs.length + 1) cap2)
  have hb := below_sets HB4.out (Nat.le_succ _) (.int .i64 r) (.slice a2 (xs.length + 1) cap2)
  have hr5 : OffRow ((w4.setCell ⟨w.heap.size + 1, 0, none⟩ (.int .i64 r)).setCell ⟨w.heap.size + 1, 1, none⟩ (.slice a2 (xs.length + 1) cap2)) 9 1 (.slice a2 (xs.length + 1) cap2) (xs ++ [s]).length ((xs ++ [s]).map Value.string) :=
    OffRow.kept HR4.out fun k hk => (Below.heap_setCell _ _ _ _ (by show k ≠ w.heap.size + 1; have := HO.out k hk; rw [HS.out] at this; omega)).trans (Below.heap_setCell _ _ _ _ (by show k ≠ w.heap.size + 1; have := HO.out k hk; rw [HS.out] at this; omega))
  clear y0 y1 yf z0 z1 zf HW
  generalize ((World.setCell _ _ _).setCell _ _) = W5 at *
  obtain ⟨p0, p1, _⟩ := cells2 g2
  have hfin : RefP w r (.slice a xs.length cap) (xs ++ [s]) [.bool true] (.returned (.tuple #[.agg #[.int .i64 r, .slice a2 (xs.length + 1) cap2], .bool true])) W5 := ⟨_, rfl, hr5, fun k hk => .inr (by have := HO.out k hk; rw [HS.out] at this; omega), ⟨a2, cap2, by simp⟩, hb⟩
  refine bodyPost_ret (v := .tuple #[.agg #[.int .i64 r, .slice a2 (xs.length + 1) cap2], .bool true]) ?_ rfl hfin
  clear hfin g2 hb hr5 HB E2 HR HO HB4 HR4
  simp only [results, Try.f23]
  go_simp
end Go.Proofs.Ytgfklfpjibjhmaa

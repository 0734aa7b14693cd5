/-
  The document's answer to an act: 'by'.
-/
import Derived.Test.YtgfklfpjibjhmaaRdouble
import Derived.Test.YtgfklfpjibjhmaaRmove
import Derived.Test.YtgfklfpjibjhmaaRsmall
namespace Go.Proofs.Ytgfklfpjibjhmaa
open Go.RowKit
set_option linter.unusedVariables false
set_option linter.unusedSimpArgs false

section
variable (r : Nat) (v : Value) (xs : List ByteArray) (w : World) (h : RowS w v xs) (hl : xs.length ≤ 64)
include h hl
theorem rtake_any (n : Int) : Calls Try.prog 24 #[refV r v, .int .i64 n] w (RefP w r v (takeM xs n).1 [.string (takeM xs n).2.1, .bool (takeM xs n).2.2]) := by
  unfold takeM
  cases hi : inside xs n with
  | true =>
    obtain ⟨k, rfl, hk, he⟩ := inside_true hi
    rw [if_pos rfl, he, getD_at hk]
    exact (rtake_yes r v xs k w h hl hk).mono fun _ _ => RefS.p
  | false =>
    rw [if_neg (by simp)]
    exact rtake_no r v xs n w h hl hi
theorem rdouble_any (n : Int) : Calls Try.prog 25 #[refV r v, .int .i64 n] w (RefP w r v (doubleM r xs n).1 [.bool (doubleM r xs n).2]) := by
  unfold doubleM
  cases hi : inside xs n with
  | true =>
    obtain ⟨k, rfl, hk, he⟩ := inside_true hi
    rw [if_pos rfl, he, getD_at hk]
    exact rdouble_yes r v xs k w h hl hk
  | false =>
    rw [if_neg (by simp)]
    exact rdouble_no r v xs n w h hl hi
theorem rmove_any (n tn : Int) : Calls Try.prog 26 #[refV r v, .int .i64 n, .int .i64 tn] w (RefP w r v (moveM xs n tn).1 [.bool (moveM xs n tn).2]) := by
  unfold moveM
  cases hi : inside xs n with
  | true =>
    cases hj : inside xs tn with
    | true =>
      obtain ⟨k, rfl, hk, he⟩ := inside_true hi
      obtain ⟨j, rfl, hj', _⟩ := inside_true hj
      rw [if_pos (by rfl), he, getD_at hk]
      exact rmove_yes r v xs k j w h hl hk hj'
    | false =>
      rw [if_neg (by simp)]
      exact rmove_no2 r v xs n tn w h hl hi hj
  | false =>
    rw [if_neg (by simp)]
    exact rmove_no1 r v xs n tn w h hl hi
end

theorem frozen_set {w : World} {b : Nat} {a0 a1 : Value} (h : w.heap[b]? = some (.cells #[a0, a1] 29 (0, 0))) (u : Value) (i : Nat) : (w.setCell ⟨b, 0, none⟩ u).frozen? ⟨b, i, none⟩ = false := by
  simp only [World.frozen?, World.setCell, Array.getElem?_modify, if_pos rfl, h]
  rfl

set_option maxHeartbeats 4000000 in
theorem rby_any (r : Nat) (v : Value) (xs : List ByteArray) (a : ActD) (w : World) (h : RowS w v xs) (hl : xs.length ≤ 64) :
    Calls Try.prog 13 #[refV r v, a.val] w (RefP w r v (doM r xs a).1 [.string (doM r xs a).2.1, .bool (doM r xs a).2.2]) := by
  obtain ⟨ga, gc, hv⟩ := OffRow.shape h
  subst hv
  obtain ⟨K, S, N, T⟩ := a
  obtain ⟨w3, hw3⟩ : ∃ w3, w3 = ((w.alloc (.cells #[.int .i64 r, .slice ga xs.length gc] 29)).alloc (.cells #[.int .i64 K, .string S, .int .i64 N, .int .i64 T] 34)).alloc (.cells #[.int .i64 0, .slice none 0 0] 29) := ⟨_, rfl⟩
  have hb : Below w.heap.size w w3 := by
    rw [hw3]
    exact (((Below.refl _ w).alloc (Nat.le_refl _) _).alloc (by simp) _).alloc (by simp; omega) _
  have hs : w3.heap.size = w.heap.size + 3 := by rw [hw3]; simp
  have e1 : w3.heap[w.heap.size]? = some (.cells #[.int .i64 r, .slice ga xs.length gc] 29 (0, 0)) := by
    rw [hw3, Below.heap_alloc _ _ _ (by simp; omega), Below.heap_alloc _ _ _ (by simp)]
    exact heap_alloc_new w _
  have e2 : w3.heap[w.heap.size + 1]? = some (.cells #[.int .i64 K, .string S, .int .i64 N, .int .i64 T] 34 (0, 0)) := by
    rw [hw3, Below.heap_alloc _ _ _ (by simp)]
    simpa using heap_alloc_new (w.alloc (.cells #[.int .i64 r, .slice ga xs.length gc] 29)) (.cells #[.int .i64 K, .string S, .int .i64 N, .int .i64 T] 34)
  have e3 : w3.heap[w.heap.size + 2]? = some (.cells #[.int .i64 0, .slice none 0 0] 29 (0, 0)) := by
    rw [hw3]
    simpa using heap_alloc_new ((w.alloc (.cells #[.int .i64 r, .slice ga xs.length gc] 29)).alloc (.cells #[.int .i64 K, .string S, .int .i64 N, .int .i64 T] 34)) (.cells #[.int .i64 0, .slice none 0 0] 29)
  have h3 := RowS.below h hb
  obtain ⟨c0, c1, _⟩ := cells2 e1
  have c2 : ∀ i u, (#[(.int .i64 K : Value), .string S, .int .i64 N, .int .i64 T])[i]? = some u → w3.cell? ⟨w.heap.size + 1, i, none⟩ = some u := fun i u hu => by simp only [World.cell?, e2]; exact hu
  have k0 : w3.cell? ⟨w.heap.size + 1, 0, none⟩ = some (.int .i64 K) := c2 0 _ rfl
  have k1 : w3.cell? ⟨w.heap.size + 1, 1, none⟩ = some (.string S) := c2 1 _ rfl
  have k2 : w3.cell? ⟨w.heap.size + 1, 2, none⟩ = some (.int .i64 N) := c2 2 _ rfl
  have k3 : w3.cell? ⟨w.heap.size + 1, 3, none⟩ = some (.int .i64 T) := c2 3 _ rfl
  have D0 := Lib.hid (rsend_any r (.slice ga xs.length gc) xs S w3 h3 hl)
  have D1 := Lib.hid (rtake_any r (.slice ga xs.length gc) xs w3 h3 hl N)
  have D3 := Lib.hid (rdouble_any r (.slice ga xs.length gc) xs w3 h3 hl N)
  have D4 := Lib.hid (rmove_any r (.slice ga xs.length gc) xs w3 h3 hl N T)
  have D2 := D1
  have HW := Lib.hid hw3
  have E3 := Lib.hid e3
  have HB := Lib.hid hb
  have HS := Lib.hid hs
  unfold refV at D0 D1 D2 D3 D4 ⊢
  unfold doM ActD.val
  dsimp only
  clear h hw3 hb hs e1 e2 e3 h3 c2
  by_cases h0 : K = 0
  · skip
    have b0 : (K == 0) = true := by rw [beq_iff_eq]; exact h0
    simp only [if_pos h0]
    obtain ⟨ys, hys⟩ : ∃ ys, ys = (sendM r xs S).1 := ⟨_, rfl⟩
    obtain ⟨ok, hok⟩ : ∃ ok, ok = (sendM r xs S).2 := ⟨_, rfl⟩
    rw [← hys, ← hok] at D0
    rw [← hys, ← hok]
    clear h0 hys hok D1 D2 D3 D4 
    go_enter Try.func13, Try.ntmps13
    go_upto_region 1 with fail
    rw [← HW.out]
    go_wp2_with fail
    refine D0.out.mono ?_
    rintro e w4 ⟨v', rfl, hr4, ho4, ⟨a4, q4, rfl⟩, hb4⟩
    unfold refV
    have e4 := (hb4.block (w.heap.size + 2) (by rw [HS.out]; omega)).trans E3.out
    obtain ⟨z0, z1, zf⟩ := cells2 e4
    have hlt : w.heap.size + 2 < w4.heap.size := lt_of_block e4
    have z0' : ∀ o, (w4.alloc o).cell? ⟨w.heap.size + 1 + 1, 0, none⟩ = some (.int .i64 0) := fun o => (World.cell?_of_block (w := w4) (Below.heap_alloc _ _ _ hlt)).trans z0
    have z1a : ∀ o, (w4.alloc o).cell? ⟨w.heap.size + 1 + 1, 1, none⟩ = some (.slice none 0 0) := fun o => (World.cell?_of_block (w := w4) (Below.heap_alloc _ _ _ hlt)).trans z1
    have zf' : ∀ o i, (w4.alloc o).frozen? ⟨w.heap.size + 1 + 1, i, none⟩ = false := fun o i => (World.frozen?_of_block (w := w4) (Below.heap_alloc _ _ _ hlt)).trans (zf i)
    have z1' : ∀ u o, ((w4.setCell ⟨w.heap.size + 1 + 1, 0, none⟩ u).alloc o).cell? ⟨w.heap.size + 1 + 1, 1, none⟩ = some (.slice none 0 0) := fun u o => (World.cell?_of_block (w := w4.setCell ⟨w.heap.size + 1 + 1, 0, none⟩ u) (Below.heap_alloc _ _ _ (by simpa using hlt))).trans ((World.cell?_setCell_other _ _ _ _ (by simp)).trans z1)
    have zf2 : ∀ u o i, ((w4.setCell ⟨w.heap.size + 1 + 1, 0, none⟩ u).alloc o).frozen? ⟨w.heap.size + 1 + 1, i, none⟩ = false := fun u o i => (World.frozen?_of_block (w := w4.setCell ⟨w.heap.size + 1 + 1, 0, none⟩ u) (Below.heap_alloc _ _ _ (by simpa using hlt))).trans (frozen_set e4 u i)
    have hb5 : Below w.heap.size w w4 := HB.out.trans (hb4.mono (by rw [HS.out]; omega))
    have H4 := Lib.hid (And.intro hr4 (And.intro ho4 (And.intro hb5 e4)))
    have HLT := Lib.hid hlt
    clear hr4 ho4 hb4 e4 hb5 z0 z1 zf hlt
    go_wp2_with fail
    obtain ⟨hr5, ho4, hb5, e5⟩ := H4.out
    have e5 := (Below.heap_alloc w4 (.cells #[.int .i64 r, .slice a4 ys.length q4] 29) _ HLT.out).trans e5
    have hb5 := hb5.alloc hb5.size (.cells #[.int .i64 r, .slice a4 ys.length q4] 29)
    have hr5 := RowS.below hr5 ((Below.refl _ w4).alloc (Nat.le_refl _) (.cells #[.int .i64 r, .slice a4 ys.length q4] 29))
    have g2 := set2 e5 (.int .i64 r) (.slice a4 ys.length q4)
    have hb := below_sets hb5 (show w.heap.size ≤ w.heap.size + 2 by omega) (.int .i64 r) (.slice a4 ys.length q4)
    have hr6 : RowS (((w4.alloc (.cells #[.int .i64 r, .slice a4 ys.length q4] 29)).setCell ⟨w.heap.size + 2, 0, none⟩ (.int .i64 r)).setCell ⟨w.heap.size + 2, 1, none⟩ (.slice a4 ys.length q4)) (.slice a4 ys.length q4) ys :=
      RowS.kept hr5 fun k hk => (Below.heap_setCell _ _ _ _ (by show k ≠ w.heap.size + 2; rintro rfl; exact row_ne hr5 e5 (by decide) hk)).trans (Below.heap_setCell _ _ _ _ (by show k ≠ w.heap.size + 2; rintro rfl; exact row_ne hr5 e5 (by decide) hk))
    have hfin : RefP w r (.slice ga xs.length gc) ys [.string ⟨#[]⟩, .bool ok] (.returned (.tuple #[.agg #[.int .i64 r, .slice a4 ys.length q4], .string ⟨#[]⟩, .bool ok])) (((w4.alloc (.cells #[.int .i64 r, .slice a4 ys.length q4] 29)).setCell ⟨w.heap.size + 2, 0, none⟩ (.int .i64 r)).setCell ⟨w.heap.size + 2, 1, none⟩ (.slice a4 ys.length q4)) :=
      ⟨_, rfl, hr6, fun k hk => (ho4 k hk).imp id (fun e => by rw [HS.out] at e; omega), ⟨_, _, rfl⟩, hb⟩
    clear z0' z1' zf' c0 c1 k0 k1 k2 k3 HW H4 E3 ho4 hb5 e5 hr5 zf2 z1a
    change bodyPost _ _ _ _ _ (((w4.alloc (.cells #[.int .i64 r, .slice a4 ys.length q4] 29)).setCell ⟨w.heap.size + 2, 0, none⟩ (.int .i64 r)).setCell ⟨w.heap.size + 2, 1, none⟩ (.slice a4 ys.length q4))
    generalize ((World.setCell _ _ _).setCell _ _) = W5 at *
    obtain ⟨p0, p1, _⟩ := cells2 g2
    have p0' : W5.cell? ⟨w.heap.size + 1 + 1, 0, none⟩ = _ := p0
    have p1' : W5.cell? ⟨w.heap.size + 1 + 1, 1, none⟩ = _ := p1
    refine bodyPost_ret (v := .tuple #[.agg #[.int .i64 r, .slice a4 ys.length q4], .string ⟨#[]⟩, .bool ok]) ?_ rfl hfin
    clear hfin g2 hb hr6 HB HS D0
    simp only [results, Try.f13]
    go_simp
  by_cases h1 : K = 1
  · skip
    have b0 : (K == 0) = false := by rw [beq_eq_false_iff_ne]; exact h0
    have b1 : (K == 1) = true := by rw [beq_iff_eq]; exact h1
    simp only [if_neg h0, if_pos h1]
    obtain ⟨ys, hys⟩ : ∃ ys, ys = (takeM xs N).1 := ⟨_, rfl⟩
    obtain ⟨fs, hfs⟩ : ∃ fs, fs = (takeM xs N).2.1 := ⟨_, rfl⟩
    obtain ⟨ok, hok⟩ : ∃ ok, ok = (takeM xs N).2.2 := ⟨_, rfl⟩
    rw [← hys, ← hfs, ← hok] at D1
    rw [← hys, ← hfs, ← hok]
    clear h0 h1 hys hok D0 D2 D3 D4 hfs
    go_enter Try.func13, Try.ntmps13
    go_upto_region 1 with fail
    rw [← HW.out]
    go_wp2_with fail
    refine D1.out.mono ?_
    rintro e w4 ⟨v', rfl, hr4, ho4, ⟨a4, q4, rfl⟩, hb4⟩
    unfold refV
    have e4 := (hb4.block (w.heap.size + 2) (by rw [HS.out]; omega)).trans E3.out
    obtain ⟨z0, z1, zf⟩ := cells2 e4
    have hlt : w.heap.size + 2 < w4.heap.size := lt_of_block e4
    have z0' : w4.cell? ⟨w.heap.size + 1 + 1, 0, none⟩ = _ := z0
    have z1' : w4.cell? ⟨w.heap.size + 1 + 1, 1, none⟩ = _ := z1
    have zf' : ∀ i, w4.frozen? ⟨w.heap.size + 1 + 1, i, none⟩ = false := zf
    have hb5 : Below w.heap.size w w4 := HB.out.trans (hb4.mono (by rw [HS.out]; omega))
    have H4 := Lib.hid (And.intro hr4 (And.intro ho4 (And.intro hb5 e4)))
    have HLT := Lib.hid hlt
    clear hr4 ho4 hb4 e4 hb5 z0 z1 zf hlt
    go_wp2_with fail
    obtain ⟨hr5, ho4, hb5, e5⟩ := H4.out
    have g2 := set2 e5 (.int .i64 r) (.slice a4 ys.length q4)
    have hb := below_sets hb5 (show w.heap.size ≤ w.heap.size + 2 by omega) (.int .i64 r) (.slice a4 ys.length q4)
    have hr6 : RowS ((w4.setCell ⟨w.heap.size + 2, 0, none⟩ (.int .i64 r)).setCell ⟨w.heap.size + 2, 1, none⟩ (.slice a4 ys.length q4)) (.slice a4 ys.length q4) ys :=
      RowS.kept hr5 fun k hk => (Below.heap_setCell _ _ _ _ (by show k ≠ w.heap.size + 2; rintro rfl; exact row_ne hr5 e5 (by decide) hk)).trans (Below.heap_setCell _ _ _ _ (by show k ≠ w.heap.size + 2; rintro rfl; exact row_ne hr5 e5 (by decide) hk))
    have hfin : RefP w r (.slice ga xs.length gc) ys [.string fs, .bool ok] (.returned (.tuple #[.agg #[.int .i64 r, .slice a4 ys.length q4], .string fs, .bool ok])) ((w4.setCell ⟨w.heap.size + 2, 0, none⟩ (.int .i64 r)).setCell ⟨w.heap.size + 2, 1, none⟩ (.slice a4 ys.length q4)) :=
      ⟨_, rfl, hr6, fun k hk => (ho4 k hk).imp id (fun e => by rw [HS.out] at e; omega), ⟨_, _, rfl⟩, hb⟩
    clear z0' z1' zf' c0 c1 k0 k1 k2 k3 HW H4 E3 ho4 hb5 e5 hr5
    change bodyPost _ _ _ _ _ ((w4.setCell ⟨w.heap.size + 2, 0, none⟩ (.int .i64 r)).setCell ⟨w.heap.size + 2, 1, none⟩ (.slice a4 ys.length q4))
    generalize ((World.setCell _ _ _).setCell _ _) = W5 at *
    obtain ⟨p0, p1, _⟩ := cells2 g2
    have p0' : W5.cell? ⟨w.heap.size + 1 + 1, 0, none⟩ = _ := p0
    have p1' : W5.cell? ⟨w.heap.size + 1 + 1, 1, none⟩ = _ := p1
    refine bodyPost_ret (v := .tuple #[.agg #[.int .i64 r, .slice a4 ys.length q4], .string fs, .bool ok]) ?_ rfl hfin
    clear hfin g2 hb hr6 HB HS D1
    simp only [results, Try.f13]
    go_simp
  by_cases h2 : K = 2
  · skip
    have b0 : (K == 0) = false := by rw [beq_eq_false_iff_ne]; exact h0
    have b1 : (K == 1) = false := by rw [beq_eq_false_iff_ne]; exact h1
    have b2 : (K == 2) = true := by rw [beq_iff_eq]; exact h2
    simp only [if_neg h0, if_neg h1, if_pos h2]
    obtain ⟨ys, hys⟩ : ∃ ys, ys = (takeM xs N).1 := ⟨_, rfl⟩
    obtain ⟨fs, hfs⟩ : ∃ fs, fs = (takeM xs N).2.1 := ⟨_, rfl⟩
    obtain ⟨ok, hok⟩ : ∃ ok, ok = (takeM xs N).2.2 := ⟨_, rfl⟩
    rw [← hys, ← hfs, ← hok] at D2
    rw [← hys, ← hok]
    clear h0 h1 h2 hys hok D0 D1 D3 D4 hfs
    go_enter Try.func13, Try.ntmps13
    go_upto_region 1 with fail
    rw [← HW.out]
    go_wp2_with fail
    refine D2.out.mono ?_
    rintro e w4 ⟨v', rfl, hr4, ho4, ⟨a4, q4, rfl⟩, hb4⟩
    unfold refV
    have e4 := (hb4.block (w.heap.size + 2) (by rw [HS.out]; omega)).trans E3.out
    obtain ⟨z0, z1, zf⟩ := cells2 e4
    have hlt : w.heap.size + 2 < w4.heap.size := lt_of_block e4
    have z0' : ∀ o, (w4.alloc o).cell? ⟨w.heap.size + 1 + 1, 0, none⟩ = some (.int .i64 0) := fun o => (World.cell?_of_block (w := w4) (Below.heap_alloc _ _ _ hlt)).trans z0
    have z1a : ∀ o, (w4.alloc o).cell? ⟨w.heap.size + 1 + 1, 1, none⟩ = some (.slice none 0 0) := fun o => (World.cell?_of_block (w := w4) (Below.heap_alloc _ _ _ hlt)).trans z1
    have zf' : ∀ o i, (w4.alloc o).frozen? ⟨w.heap.size + 1 + 1, i, none⟩ = false := fun o i => (World.frozen?_of_block (w := w4) (Below.heap_alloc _ _ _ hlt)).trans (zf i)
    have z1' : ∀ u o, ((w4.setCell ⟨w.heap.size + 1 + 1, 0, none⟩ u).alloc o).cell? ⟨w.heap.size + 1 + 1, 1, none⟩ = some (.slice none 0 0) := fun u o => (World.cell?_of_block (w := w4.setCell ⟨w.heap.size + 1 + 1, 0, none⟩ u) (Below.heap_alloc _ _ _ (by simpa using hlt))).trans ((World.cell?_setCell_other _ _ _ _ (by simp)).trans z1)
    have zf2 : ∀ u o i, ((w4.setCell ⟨w.heap.size + 1 + 1, 0, none⟩ u).alloc o).frozen? ⟨w.heap.size + 1 + 1, i, none⟩ = false := fun u o i => (World.frozen?_of_block (w := w4.setCell ⟨w.heap.size + 1 + 1, 0, none⟩ u) (Below.heap_alloc _ _ _ (by simpa using hlt))).trans (frozen_set e4 u i)
    have hb5 : Below w.heap.size w w4 := HB.out.trans (hb4.mono (by rw [HS.out]; omega))
    have H4 := Lib.hid (And.intro hr4 (And.intro ho4 (And.intro hb5 e4)))
    have HLT := Lib.hid hlt
    clear hr4 ho4 hb4 e4 hb5 z0 z1 zf hlt
    go_wp2_with fail
    obtain ⟨hr5, ho4, hb5, e5⟩ := H4.out
    have e5 := (Below.heap_alloc w4 (.cells #[.int .i64 r, .slice a4 ys.length q4] 29) _ HLT.out).trans e5
    have hb5 := hb5.alloc hb5.size (.cells #[.int .i64 r, .slice a4 ys.length q4] 29)
    have hr5 := RowS.below hr5 ((Below.refl _ w4).alloc (Nat.le_refl _) (.cells #[.int .i64 r, .slice a4 ys.length q4] 29))
    have g2 := set2 e5 (.int .i64 r) (.slice a4 ys.length q4)
    have hb := below_sets hb5 (show w.heap.size ≤ w.heap.size + 2 by omega) (.int .i64 r) (.slice a4 ys.length q4)
    have hr6 : RowS (((w4.alloc (.cells #[.int .i64 r, .slice a4 ys.length q4] 29)).setCell ⟨w.heap.size + 2, 0, none⟩ (.int .i64 r)).setCell ⟨w.heap.size + 2, 1, none⟩ (.slice a4 ys.length q4)) (.slice a4 ys.length q4) ys :=
      RowS.kept hr5 fun k hk => (Below.heap_setCell _ _ _ _ (by show k ≠ w.heap.size + 2; rintro rfl; exact row_ne hr5 e5 (by decide) hk)).trans (Below.heap_setCell _ _ _ _ (by show k ≠ w.heap.size + 2; rintro rfl; exact row_ne hr5 e5 (by decide) hk))
    have hfin : RefP w r (.slice ga xs.length gc) ys [.string ⟨#[]⟩, .bool ok] (.returned (.tuple #[.agg #[.int .i64 r, .slice a4 ys.length q4], .string ⟨#[]⟩, .bool ok])) (((w4.alloc (.cells #[.int .i64 r, .slice a4 ys.length q4] 29)).setCell ⟨w.heap.size + 2, 0, none⟩ (.int .i64 r)).setCell ⟨w.heap.size + 2, 1, none⟩ (.slice a4 ys.length q4)) :=
      ⟨_, rfl, hr6, fun k hk => (ho4 k hk).imp id (fun e => by rw [HS.out] at e; omega), ⟨_, _, rfl⟩, hb⟩
    clear z0' z1' zf' c0 c1 k0 k1 k2 k3 HW H4 E3 ho4 hb5 e5 hr5 zf2 z1a
    change bodyPost _ _ _ _ _ (((w4.alloc (.cells #[.int .i64 r, .slice a4 ys.length q4] 29)).setCell ⟨w.heap.size + 2, 0, none⟩ (.int .i64 r)).setCell ⟨w.heap.size + 2, 1, none⟩ (.slice a4 ys.length q4))
    generalize ((World.setCell _ _ _).setCell _ _) = W5 at *
    obtain ⟨p0, p1, _⟩ := cells2 g2
    have p0' : W5.cell? ⟨w.heap.size + 1 + 1, 0, none⟩ = _ := p0
    have p1' : W5.cell? ⟨w.heap.size + 1 + 1, 1, none⟩ = _ := p1
    refine bodyPost_ret (v := .tuple #[.agg #[.int .i64 r, .slice a4 ys.length q4], .string ⟨#[]⟩, .bool ok]) ?_ rfl hfin
    clear hfin g2 hb hr6 HB HS D2
    simp only [results, Try.f13]
    go_simp
  by_cases h3 : K = 3
  · skip
    have b0 : (K == 0) = false := by rw [beq_eq_false_iff_ne]; exact h0
    have b1 : (K == 1) = false := by rw [beq_eq_false_iff_ne]; exact h1
    have b2 : (K == 2) = false := by rw [beq_eq_false_iff_ne]; exact h2
    have b3 : (K == 3) = true := by rw [beq_iff_eq]; exact h3
    simp only [if_neg h0, if_neg h1, if_neg h2, if_pos h3]
    obtain ⟨ys, hys⟩ : ∃ ys, ys = (doubleM r xs N).1 := ⟨_, rfl⟩
    obtain ⟨ok, hok⟩ : ∃ ok, ok = (doubleM r xs N).2 := ⟨_, rfl⟩
    rw [← hys, ← hok] at D3
    rw [← hys, ← hok]
    clear h0 h1 h2 h3 hys hok D0 D1 D2 D4 
    go_enter Try.func13, Try.ntmps13
    go_upto_region 1 with fail
    rw [← HW.out]
    go_wp2_with fail
    refine D3.out.mono ?_
    rintro e w4 ⟨v', rfl, hr4, ho4, ⟨a4, q4, rfl⟩, hb4⟩
    unfold refV
    have e4 := (hb4.block (w.heap.size + 2) (by rw [HS.out]; omega)).trans E3.out
    obtain ⟨z0, z1, zf⟩ := cells2 e4
    have hlt : w.heap.size + 2 < w4.heap.size := lt_of_block e4
    have z0' : ∀ o, (w4.alloc o).cell? ⟨w.heap.size + 1 + 1, 0, none⟩ = some (.int .i64 0) := fun o => (World.cell?_of_block (w := w4) (Below.heap_alloc _ _ _ hlt)).trans z0
    have z1a : ∀ o, (w4.alloc o).cell? ⟨w.heap.size + 1 + 1, 1, none⟩ = some (.slice none 0 0) := fun o => (World.cell?_of_block (w := w4) (Below.heap_alloc _ _ _ hlt)).trans z1
    have zf' : ∀ o i, (w4.alloc o).frozen? ⟨w.heap.size + 1 + 1, i, none⟩ = false := fun o i => (World.frozen?_of_block (w := w4) (Below.heap_alloc _ _ _ hlt)).trans (zf i)
    have z1' : ∀ u o, ((w4.setCell ⟨w.heap.size + 1 + 1, 0, none⟩ u).alloc o).cell? ⟨w.heap.size + 1 + 1, 1, none⟩ = some (.slice none 0 0) := fun u o => (World.cell?_of_block (w := w4.setCell ⟨w.heap.size + 1 + 1, 0, none⟩ u) (Below.heap_alloc _ _ _ (by simpa using hlt))).trans ((World.cell?_setCell_other _ _ _ _ (by simp)).trans z1)
    have zf2 : ∀ u o i, ((w4.setCell ⟨w.heap.size + 1 + 1, 0, none⟩ u).alloc o).frozen? ⟨w.heap.size + 1 + 1, i, none⟩ = false := fun u o i => (World.frozen?_of_block (w := w4.setCell ⟨w.heap.size + 1 + 1, 0, none⟩ u) (Below.heap_alloc _ _ _ (by simpa using hlt))).trans (frozen_set e4 u i)
    have hb5 : Below w.heap.size w w4 := HB.out.trans (hb4.mono (by rw [HS.out]; omega))
    have H4 := Lib.hid (And.intro hr4 (And.intro ho4 (And.intro hb5 e4)))
    have HLT := Lib.hid hlt
    clear hr4 ho4 hb4 e4 hb5 z0 z1 zf hlt
    go_wp2_with fail
    obtain ⟨hr5, ho4, hb5, e5⟩ := H4.out
    have e5 := (Below.heap_alloc w4 (.cells #[.int .i64 r, .slice a4 ys.length q4] 29) _ HLT.out).trans e5
    have hb5 := hb5.alloc hb5.size (.cells #[.int .i64 r, .slice a4 ys.length q4] 29)
    have hr5 := RowS.below hr5 ((Below.refl _ w4).alloc (Nat.le_refl _) (.cells #[.int .i64 r, .slice a4 ys.length q4] 29))
    have g2 := set2 e5 (.int .i64 r) (.slice a4 ys.length q4)
    have hb := below_sets hb5 (show w.heap.size ≤ w.heap.size + 2 by omega) (.int .i64 r) (.slice a4 ys.length q4)
    have hr6 : RowS (((w4.alloc (.cells #[.int .i64 r, .slice a4 ys.length q4] 29)).setCell ⟨w.heap.size + 2, 0, none⟩ (.int .i64 r)).setCell ⟨w.heap.size + 2, 1, none⟩ (.slice a4 ys.length q4)) (.slice a4 ys.length q4) ys :=
      RowS.kept hr5 fun k hk => (Below.heap_setCell _ _ _ _ (by show k ≠ w.heap.size + 2; rintro rfl; exact row_ne hr5 e5 (by decide) hk)).trans (Below.heap_setCell _ _ _ _ (by show k ≠ w.heap.size + 2; rintro rfl; exact row_ne hr5 e5 (by decide) hk))
    have hfin : RefP w r (.slice ga xs.length gc) ys [.string ⟨#[]⟩, .bool ok] (.returned (.tuple #[.agg #[.int .i64 r, .slice a4 ys.length q4], .string ⟨#[]⟩, .bool ok])) (((w4.alloc (.cells #[.int .i64 r, .slice a4 ys.length q4] 29)).setCell ⟨w.heap.size + 2, 0, none⟩ (.int .i64 r)).setCell ⟨w.heap.size + 2, 1, none⟩ (.slice a4 ys.length q4)) :=
      ⟨_, rfl, hr6, fun k hk => (ho4 k hk).imp id (fun e => by rw [HS.out] at e; omega), ⟨_, _, rfl⟩, hb⟩
    clear z0' z1' zf' c0 c1 k0 k1 k2 k3 HW H4 E3 ho4 hb5 e5 hr5 zf2 z1a
    change bodyPost _ _ _ _ _ (((w4.alloc (.cells #[.int .i64 r, .slice a4 ys.length q4] 29)).setCell ⟨w.heap.size + 2, 0, none⟩ (.int .i64 r)).setCell ⟨w.heap.size + 2, 1, none⟩ (.slice a4 ys.length q4))
    generalize ((World.setCell _ _ _).setCell _ _) = W5 at *
    obtain ⟨p0, p1, _⟩ := cells2 g2
    have p0' : W5.cell? ⟨w.heap.size + 1 + 1, 0, none⟩ = _ := p0
    have p1' : W5.cell? ⟨w.heap.size + 1 + 1, 1, none⟩ = _ := p1
    refine bodyPost_ret (v := .tuple #[.agg #[.int .i64 r, .slice a4 ys.length q4], .string ⟨#[]⟩, .bool ok]) ?_ rfl hfin
    clear hfin g2 hb hr6 HB HS D3
    simp only [results, Try.f13]
    go_simp
  have b0 : (K == 0) = false := by rw [beq_eq_false_iff_ne]; exact h0
  have b1 : (K == 1) = false := by rw [beq_eq_false_iff_ne]; exact h1
  have b2 : (K == 2) = false := by rw [beq_eq_false_iff_ne]; exact h2
  have b3 : (K == 3) = false := by rw [beq_eq_false_iff_ne]; exact h3
  simp only [if_neg h0, if_neg h1, if_neg h2, if_neg h3]
  obtain ⟨ys, hys⟩ : ∃ ys, ys = (moveM xs N T).1 := ⟨_, rfl⟩
  obtain ⟨ok, hok⟩ : ∃ ok, ok = (moveM xs N T).2 := ⟨_, rfl⟩
  rw [← hys, ← hok] at D4
  rw [← hys, ← hok]
  clear h0 h1 h2 h3 hys hok D0 D1 D2 D3 
  go_enter Try.func13, Try.ntmps13
  go_upto_region 1 with fail
  rw [← HW.out]
  go_wp2_with fail
  refine D4.out.mono ?_
  rintro e w4 ⟨v', rfl, hr4, ho4, ⟨a4, q4, rfl⟩, hb4⟩
  unfold refV
  have e4 := (hb4.block (w.heap.size + 2) (by rw [HS.out]; omega)).trans E3.out
  obtain ⟨z0, z1, zf⟩ := cells2 e4
  have hlt : w.heap.size + 2 < w4.heap.size := lt_of_block e4
  have z0' : ∀ o, (w4.alloc o).cell? ⟨w.heap.size + 1 + 1, 0, none⟩ = some (.int .i64 0) := fun o => (World.cell?_of_block (w := w4) (Below.heap_alloc _ _ _ hlt)).trans z0
  have z1a : ∀ o, (w4.alloc o).cell? ⟨w.heap.size + 1 + 1, 1, none⟩ = some (.slice none 0 0) := fun o => (World.cell?_of_block (w := w4) (Below.heap_alloc _ _ _ hlt)).trans z1
  have zf' : ∀ o i, (w4.alloc o).frozen? ⟨w.heap.size + 1 + 1, i, none⟩ = false := fun o i => (World.frozen?_of_block (w := w4) (Below.heap_alloc _ _ _ hlt)).trans (zf i)
  have z1' : ∀ u o, ((w4.setCell ⟨w.heap.size + 1 + 1, 0, none⟩ u).alloc o).cell? ⟨w.heap.size + 1 + 1, 1, none⟩ = some (.slice none 0 0) := fun u o => (World.cell?_of_block (w := w4.setCell ⟨w.heap.size + 1 + 1, 0, none⟩ u) (Below.heap_alloc _ _ _ (by simpa using hlt))).trans ((World.cell?_setCell_other _ _ _ _ (by simp)).trans z1)
  have zf2 : ∀ u o i, ((w4.setCell ⟨w.heap.size + 1 + 1, 0, none⟩ u).alloc o).frozen? ⟨w.heap.size + 1 + 1, i, none⟩ = false := fun u o i => (World.frozen?_of_block (w := w4.setCell ⟨w.heap.size + 1 + 1, 0, none⟩ u) (Below.heap_alloc _ _ _ (by simpa using hlt))).trans (frozen_set e4 u i)
  have hb5 : Below w.heap.size w w4 := HB.out.trans (hb4.mono (by rw [HS.out]; omega))
  have H4 := Lib.hid (And.intro hr4 (And.intro ho4 (And.intro hb5 e4)))
  have HLT := Lib.hid hlt
  clear hr4 ho4 hb4 e4 hb5 z0 z1 zf hlt
  go_wp2_with fail
  obtain ⟨hr5, ho4, hb5, e5⟩ := H4.out
  have e5 := (Below.heap_alloc w4 (.cells #[.int .i64 r, .slice a4 ys.length q4] 29) _ HLT.out).trans e5
  have hb5 := hb5.alloc hb5.size (.cells #[.int .i64 r, .slice a4 ys.length q4] 29)
  have hr5 := RowS.below hr5 ((Below.refl _ w4).alloc (Nat.le_refl _) (.cells #[.int .i64 r, .slice a4 ys.length q4] 29))
  have g2 := set2 e5 (.int .i64 r) (.slice a4 ys.length q4)
  have hb := below_sets hb5 (show w.heap.size ≤ w.heap.size + 2 by omega) (.int .i64 r) (.slice a4 ys.length q4)
  have hr6 : RowS (((w4.alloc (.cells #[.int .i64 r, .slice a4 ys.length q4] 29)).setCell ⟨w.heap.size + 2, 0, none⟩ (.int .i64 r)).setCell ⟨w.heap.size + 2, 1, none⟩ (.slice a4 ys.length q4)) (.slice a4 ys.length q4) ys :=
    RowS.kept hr5 fun k hk => (Below.heap_setCell _ _ _ _ (by show k ≠ w.heap.size + 2; rintro rfl; exact row_ne hr5 e5 (by decide) hk)).trans (Below.heap_setCell _ _ _ _ (by show k ≠ w.heap.size + 2; rintro rfl; exact row_ne hr5 e5 (by decide) hk))
  have hfin : RefP w r (.slice ga xs.length gc) ys [.string ⟨#[]⟩, .bool ok] (.returned (.tuple #[.agg #[.int .i64 r, .slice a4 ys.length q4], .string ⟨#[]⟩, .bool ok])) (((w4.alloc (.cells #[.int .i64 r, .slice a4 ys.length q4] 29)).setCell ⟨w.heap.size + 2, 0, none⟩ (.int .i64 r)).setCell ⟨w.heap.size + 2, 1, none⟩ (.slice a4 ys.length q4)) :=
    ⟨_, rfl, hr6, fun k hk => (ho4 k hk).imp id (fun e => by rw [HS.out] at e; omega), ⟨_, _, rfl⟩, hb⟩
  clear z0' z1' zf' c0 c1 k0 k1 k2 k3 HW H4 E3 ho4 hb5 e5 hr5 zf2 z1a
  change bodyPost _ _ _ _ _ (((w4.alloc (.cells #[.int .i64 r, .slice a4 ys.length q4] 29)).setCell ⟨w.heap.size + 2, 0, none⟩ (.int .i64 r)).setCell ⟨w.heap.size + 2, 1, none⟩ (.slice a4 ys.length q4))
  generalize ((World.setCell _ _ _).setCell _ _) = W5 at *
  obtain ⟨p0, p1, _⟩ := cells2 g2
  have p0' : W5.cell? ⟨w.heap.size + 1 + 1, 0, none⟩ = _ := p0
  have p1' : W5.cell? ⟨w.heap.size + 1 + 1, 1, none⟩ = _ := p1
  refine bodyPost_ret (v := .tuple #[.agg #[.int .i64 r, .slice a4 ys.length q4], .string ⟨#[]⟩, .bool ok]) ?_ rfl hfin
  clear hfin g2 hb hr6 HB HS D4
  simp only [results, Try.f13]
  go_simp
end Go.Proofs.Ytgfklfpjibjhmaa

/-
  The document's Double.
-/
import Derived.Test.YtgfklfpjibjhmaaRtake
namespace Go.Proofs.Ytgfklfpjibjhmaa
open Go.RowKit
set_option linter.unusedVariables false
set_option linter.unusedSimpArgs false

theorem rsend_any (r : Nat) (v : Value) (xs : List ByteArray) (s : ByteArray) (w : World) (h : RowS w v xs) (hl : xs.length ≤ 64) :
    Calls Try.prog 23 #[refV r v, .string s] w (RefP w r v (sendM r xs s).1 [.bool (sendM r xs s).2]) := by
  unfold sendM
  by_cases hr : xs.length < r
  · rw [if_pos hr]; exact rsend_yes r v xs s w h hl hr
  · rw [if_neg hr]; exact rsend_no r v xs s w h hl (by omega)

set_option maxHeartbeats 1000000 in
theorem rdouble_no (r : Nat) (v : Value) (xs : List ByteArray) (n : Int) (w : World) (h : RowS w v xs) (hl : xs.length ≤ 64) (hi : inside xs n = false) :
    Calls Try.prog 25 #[refV r v, .int .i64 n] w (RefP w r v xs [.bool false]) := by
  obtain ⟨a, cap, hv⟩ := OffRow.shape h
  subst hv
  obtain ⟨e1, e2, hb, hs⟩ := box2_at w r (.slice a xs.length cap)
  obtain ⟨w1, hw1⟩ : ∃ w1, w1 = box2 w r (.slice a xs.length cap) := ⟨_, rfl⟩
  rw [← hw1] at e1 e2 hb hs
  unfold box2 at hw1
  obtain ⟨c0, c1, _⟩ := cells2 e1
  have D := rthere_any r (.slice a xs.length cap) xs n w1 (RowS.below h hb) hl
  rw [hi] at D
  have D := Lib.hid D
  have HR := Lib.hid h
  have HW := Lib.hid hw1
  have E1 := Lib.hid e1
  have E2 := Lib.hid e2
  have HB := Lib.hid hb
  have HS := Lib.hid hs
  unfold refV at D ⊢
  clear h e1 e2 hb hs hw1 hi
  go_enter Try.func25, Try.ntmps25
  go_upto_region 1 with fail
  rw [← HW.out]
  go_wp2_with fail
  refine D.out.mono ?_
  rintro e w2 ⟨rfl, hb2⟩
  have e1 := (hb2.block w.heap.size (by rw [HS.out]; omega)).trans E1.out
  have e2 := (hb2.block (w.heap.size + 1) (by rw [HS.out]; omega)).trans E2.out
  obtain ⟨y0, y1, _⟩ := cells2 e1
  obtain ⟨z0, z1, zf⟩ := cells2 e2
  have HB2 := Lib.hid (HB.out.trans (hb2.mono (by rw [HS.out]; omega)))
  have E2' := Lib.hid e2
  clear hb2 e1 e2 c0 c1
  go_wp2_with fail
  have g2 := set2 E2'.out (.int .i64 r) (.slice a xs.length cap)
  have hb := below_sets HB2.out (Nat.le_succ _) (.int .i64 r) (.slice a xs.length cap)
  clear y0 y1 z0 z1 zf HW
  generalize ((World.setCell _ _ _).setCell _ _) = W5 at *
  obtain ⟨p0, p1, _⟩ := cells2 g2
  have hfin : RefP w r (.slice a xs.length cap) xs [.bool false] (.returned (.tuple #[.agg #[.int .i64 r, .slice a xs.length cap], .bool false])) W5 := ⟨_, rfl, RowS.below HR.out hb, fun k hk => .inl hk, ⟨_, _, rfl⟩, hb⟩
  refine bodyPost_ret (v := .tuple #[.agg #[.int .i64 r, .slice a xs.length cap], .bool false]) ?_ rfl hfin
  clear hfin g2 hb HR HB HB2 E1 E2 E2' D
  simp only [results, Try.f25]
  go_simp

set_option maxHeartbeats 2000000 in
theorem rdouble_yes (r : Nat) (v : Value) (xs : List ByteArray) (n : Nat) (w : World) (h : RowS w v xs) (hl : xs.length ≤ 64) (hn : n < xs.length) :
    Calls Try.prog 25 #[refV r v, .int .i64 n] w (RefP w r v (sendM r xs xs[n]).1 [.bool (sendM r xs xs[n]).2]) := by
  have hi : inside xs n = true := decide_eq_true (by omega)
  obtain ⟨a, cap, hv⟩ := OffRow.shape h
  subst hv
  obtain ⟨x, hx⟩ : ∃ x, x = xs[n] := ⟨_, rfl⟩
  have hxs : xs[n]? = some x := by rw [hx]; exact List.getElem?_eq_getElem hn
  rw [← hx]
  obtain ⟨e1, e2, hb, hs⟩ := box2_at w r (.slice a xs.length cap)
  obtain ⟨w1, hw1⟩ : ∃ w1, w1 = box2 w r (.slice a xs.length cap) := ⟨_, rfl⟩
  rw [← hw1] at e1 e2 hb hs
  unfold box2 at hw1
  obtain ⟨c0, c1, _⟩ := cells2 e1
  have D := rthere_any r (.slice a xs.length cap) xs n w1 (RowS.below h hb) hl
  rw [hi] at D
  have D := Lib.hid D
  have HR := Lib.hid h
  have HW := Lib.hid hw1
  have E1 := Lib.hid e1
  have E2 := Lib.hid e2
  have HB := Lib.hid hb
  have HS := Lib.hid hs
  have HXS := Lib.hid hxs
  unfold refV at D ⊢
  have m1 : (n : Int) < (xs.length : Int) := by omega
  clear h e1 e2 hb hs hw1 hi hx hxs
  go_enter Try.func25, Try.ntmps25
  go_upto_region 1 with fail
  rw [← HW.out]
  go_wp2_with fail
  refine D.out.mono ?_
  rintro e w2 ⟨rfl, hb2⟩
  have e1 := (hb2.block w.heap.size (by rw [HS.out]; omega)).trans E1.out
  have e2 := (hb2.block (w.heap.size + 1) (by rw [HS.out]; omega)).trans E2.out
  obtain ⟨y0, y1, _⟩ := cells2 e1
  have hB2 := HB.out.trans (hb2.mono (by rw [HS.out]; omega))
  have hr2 := RowS.below HR.out hB2
  have hs2 : w.heap.size + 2 ≤ w2.heap.size := by have := hb2.size; rw [HS.out] at this; exact this
  obtain ⟨g, o, cap', hv', q⟩ := OffRow.cells hr2 (i := n) (u := .string x) (by rw [List.getElem?_map, HXS.out]; rfl)
  simp only [Value.slice.injEq, true_and] at hv'
  obtain ⟨rfl, rfl⟩ := hv'
  have DS := rsend_any r (.slice (some ⟨g, o, none⟩) xs.length cap) xs x w2.drew (RowS.kept hr2 fun _ _ => rfl) hl
  unfold refV at DS
  have DS := Lib.hid DS
  have HB2 := Lib.hid hB2
  have HR2 := Lib.hid hr2
  have E2' := Lib.hid e2
  have HS2 := Lib.hid hs2
  obtain ⟨ys, hys⟩ : ∃ ys, ys = (sendM r xs x).1 := ⟨_, rfl⟩
  obtain ⟨ok, hok⟩ : ∃ ok, ok = (sendM r xs x).2 := ⟨_, rfl⟩
  rw [← hys, ← hok] at DS
  have HYS := Lib.hid hys
  have HOK := Lib.hid hok
  clear hb2 e1 e2 c0 c1 hB2 hr2 hs2 hys hok
  go_upto_region 3 with fail
  go_region_with (refine DS.out.mono ?_;
                          rintro e w3 ⟨v', rfl, hr3, ho3, ⟨a3, c3, rfl⟩, hb3⟩;
                          have e3 : w3.heap[w.heap.size + 1]? = some (.cells #[.int .i64 0, .slice none 0 0] 29 (0, 0)) := (hb3.block (w.heap.size + 1) (by show w.heap.size + 1 < w2.heap.size; have := HS2.out; omega)).trans E2'.out;
                          obtain ⟨z0, z1, zf⟩ := cells2 e3;
                          have H3 := Lib.hid (And.intro hr3 (And.intro ho3 (And.intro hb3 e3)));
                          unfold refV;
                          clear hr3 ho3 hb3 e3)
  all_goals
    go_wp2_with fail
    obtain ⟨hr3, ho3, hb3, e3⟩ := H3.out
    have g2 := set2 e3 (.int .i64 r) (.slice a3 ys.length c3)
    have hb := below_sets (HB2.out.trans (Below.mono (B := w2.heap.size) ⟨hb3.os, hb3.tape, hb3.output, hb3.size, hb3.block⟩ (by have := HS2.out; omega))) (Nat.le_succ _) (.int .i64 r) (.slice a3 ys.length c3)
    simp only [Act.put, List.setIfInBounds_toArray, List.set_cons_zero, List.set_cons_succ]
    clear y0 y1 z0 z1 zf HW
    have hr5 : RowS ((w3.setCell ⟨w.heap.size + 1, 0, none⟩ (.int .i64 r)).setCell ⟨w.heap.size + 1, 1, none⟩ (.slice a3 ys.length c3)) (.slice a3 ys.length c3) ys :=
      RowS.kept hr3 fun k hk => (Below.heap_setCell _ _ _ _ (by show k ≠ w.heap.size + 1; rintro rfl; exact row_ne hr3 e3 (by decide) hk)).trans (Below.heap_setCell _ _ _ _ (by show k ≠ w.heap.size + 1; rintro rfl; exact row_ne hr3 e3 (by decide) hk))
    have hfin : RefP w r (.slice (some ⟨g, o, none⟩) xs.length cap) ys [.bool ok] (.returned (.tuple #[.agg #[.int .i64 r, .slice a3 ys.length c3], .bool ok])) ((w3.setCell ⟨w.heap.size + 1, 0, none⟩ (.int .i64 r)).setCell ⟨w.heap.size + 1, 1, none⟩ (.slice a3 ys.length c3)) :=
      ⟨_, rfl, hr5, fun k hk => (ho3 k hk).imp id (fun e => Nat.le_trans HB2.out.size e), ⟨_, _, rfl⟩, hb⟩
    generalize ((World.setCell _ _ _).setCell _ _) = W5 at *
    obtain ⟨p0, p1, _⟩ := cells2 g2
    refine bodyPost_ret (v := .tuple #[.agg #[.int .i64 r, .slice a3 ys.length c3], .bool ok]) ?_ rfl (by rw [← HYS.out, ← HOK.out]; exact hfin)
    clear hfin g2 hb hr5 hr3 ho3 hb3 e3 H3 HB2 E1 E2 E2' D DS HYS HOK HR2 HS2 HB HS HR HXS q
    simp only [results, Try.f25]
    go_simp
end Go.Proofs.Ytgfklfpjibjhmaa

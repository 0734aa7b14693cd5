/-
  The document's Move.
-/
import Derived.Test.YtgfklfpjibjhmaaRtake
namespace Go.Proofs.Ytgfklfpjibjhmaa
open Go.RowKit
set_option linter.unusedVariables false
set_option linter.unusedSimpArgs false

theorem copied_base {w W w' : World} {v : Value} {xs : List ByteArray} {vs : List Value} {n gb : Nat} (hb : Below w.heap.size w W) (hgb : w.heap.size ≤ gb) (h : OffRow w' 9 1 v n vs) (hv : vs = xs.map Value.string) (hn : n = xs.length) (hg : W.grownBy w' (some gb)) (ho : v.ownBlock = some gb ∨ v.ownBlock = some W.heap.size) : Copied w w' v xs := by
  subst hv hn
  have hs := hb.size
  refine ⟨h, fun k hk => ?_, ?_, hb.grown hg hs (fun k hk => ?_)⟩
  · rcases ho with e | e
    · rw [e] at hk; simp at hk; omega
    · rw [e] at hk; simp at hk; omega
  · rcases ho with e | e <;> rw [e] <;> simp
  · simp at hk; omega
theorem src_at {w : World} {b : Nat} {s : ByteArray} (h : w.cell? ⟨b, 0, none⟩ = some (.string s)) : Src Try.prog 1 27 (.slice (some ⟨b, 0, none⟩) 1 1) 1 [.string s] w := by
  refine Src.ofSlice _ Try.underlying27 ⟨b, 0, none⟩ 1 1 _ rfl (fun j u hu => ?_) (by simp [Value.oneCell'])
  rw [addr_add]
  cases j with
  | zero => simp only [List.getElem?_cons_zero, Option.some.injEq] at hu; rw [← hu]; exact h
  | succ j => simp at hu
theorem grown_drew {w w' : World} {r : Option Nat} (h : w.drew.grownBy w' r) : w.grownBy w' r := ⟨h.os, h.tape, h.output, h.size, h.block⟩
theorem grown_cell {w w' : World} {gb b : Nat} {u : Value} (h : w.grownBy w' (some gb)) (hb : b < w.heap.size) (hne : b ≠ gb) (hc : w.cell? ⟨b, 0, none⟩ = some u) : w'.cell? ⟨b, 0, none⟩ = some u :=
  (World.cell?_of_block (w := w) (a := ⟨b, 0, none⟩) (h.block b hb (by simpa using hne))).trans hc

theorem order2_row (w : World) (s : ByteArray) : OffRow ((w.alloc (.cells #[] 9)).alloc (.cells #[.string s] 9)) 9 1 (.slice (some ⟨w.heap.size, 0, none⟩) 0 0) 0 [] :=
  row_none ((Below.heap_alloc (w.alloc (.cells #[] 9)) (.cells #[.string s] 9) w.heap.size (by simp)).trans (heap_alloc_new w _))
theorem order3_row (w : World) (s : ByteArray) : OffRow ((w.alloc (.cells #[.string s] 9)).alloc (.cells #[] 9)) 9 1 (.slice (some ⟨w.heap.size + 1, 0, none⟩) 0 0) 0 [] :=
  row_none (by have := heap_alloc_new (w.alloc (.cells #[.string s] 9)) (.cells #[] 9); rw [World.size_alloc] at this; exact this)
theorem below2 (w : World) (o p : Obj) : Below w.heap.size w ((w.alloc o).alloc p) := ((Below.refl _ w).alloc (Nat.le_refl _) _).alloc (by simp) _
theorem order2_cell {w w6 : World} {s : ByteArray} (h : ((w.alloc (.cells #[] 9)).alloc (.cells #[.string s] 9)).drew.grownBy w6 (Value.slice (some ⟨w.heap.size, 0, none⟩) 0 0).ownBlock) : w6.cell? ⟨w.heap.size + 1, 0, none⟩ = some (.string s) := by
  have e := heap_alloc_new (w.alloc (.cells #[] 9)) (.cells #[.string s] 9)
  rw [World.size_alloc] at e
  have hb := h.block (w.heap.size + 1) (by show w.heap.size + 1 < ((w.alloc _).alloc _).heap.size; simp) (by simp [Value.ownBlock])
  exact cell_of_one (hb.trans e)
theorem order3_cell {w w6 : World} {s : ByteArray} (h : ((w.alloc (.cells #[.string s] 9)).alloc (.cells #[] 9)).drew.grownBy w6 (Value.slice (some ⟨w.heap.size + 1, 0, none⟩) 0 0).ownBlock) : w6.cell? ⟨w.heap.size, 0, none⟩ = some (.string s) := by
  have e := (Below.heap_alloc (w.alloc (.cells #[.string s] 9)) (.cells #[] 9) w.heap.size (by simp)).trans (heap_alloc_new w (.cells #[.string s] 9))
  have hb := h.block w.heap.size (by show w.heap.size < ((w.alloc _).alloc _).heap.size; simp; omega) (by simp [Value.ownBlock])
  exact cell_of_one (hb.trans e)

set_option maxHeartbeats 2000000 in
theorem rmove_no1 (r : Nat) (v : Value) (xs : List ByteArray) (n tn : Int) (w : World) (h : RowS w v xs) (hl : xs.length ≤ 64) (hi : inside xs n = false) :
    Calls Try.prog 26 #[refV r v, .int .i64 n, .int .i64 tn] w (RefP w r v xs [.bool false]) := by
  obtain ⟨a, cap, hv⟩ := OffRow.shape h
  subst hv
  obtain ⟨e1, e2, hb, hs⟩ := box2_at w r (.slice a xs.length cap)
  obtain ⟨w1, hw1⟩ : ∃ w1, w1 = box2 w r (.slice a xs.length cap) := ⟨_, rfl⟩
  rw [← hw1] at e1 e2 hb hs
  unfold box2 at hw1
  obtain ⟨c0, c1, _⟩ := cells2 e1
  have D := rthere_any r (.slice a xs.length cap) xs n w1 (RowS.below h hb) hl
  rw [hi] at D
  have D := Lib.hid D
  have HR := Lib.hid h
  have HW := Lib.hid hw1
  have E1 := Lib.hid e1
  have E2 := Lib.hid e2
  have HB := Lib.hid hb
  have HS := Lib.hid hs
  unfold refV at D ⊢
  clear h e1 e2 hb hs hw1 hi
  go_enter Try.func26, Try.ntmps26
  go_upto_region 1 with fail
  rw [← HW.out]
  go_wp2_with fail
  refine D.out.mono ?_
  rintro e w2 ⟨rfl, hb2⟩
  have e1 := (hb2.block w.heap.size (by rw [HS.out]; omega)).trans E1.out
  have e2 := (hb2.block (w.heap.size + 1) (by rw [HS.out]; omega)).trans E2.out
  obtain ⟨y0, y1, _⟩ := cells2 e1
  obtain ⟨z0, z1, zf⟩ := cells2 e2
  have HB2 := Lib.hid (HB.out.trans (hb2.mono (by rw [HS.out]; omega)))
  have E2' := Lib.hid e2
  clear hb2 e1 e2 c0 c1
  go_wp2_with fail
  have g2 := set2 E2'.out (.int .i64 r) (.slice a xs.length cap)
  have hb := below_sets HB2.out (Nat.le_succ _) (.int .i64 r) (.slice a xs.length cap)
  clear y0 y1 z0 z1 zf HW
  generalize ((World.setCell _ _ _).setCell _ _) = W5 at *
  obtain ⟨p0, p1, _⟩ := cells2 g2
  have hfin : RefP w r (.slice a xs.length cap) xs [.bool false] (.returned (.tuple #[.agg #[.int .i64 r, .slice a xs.length cap], .bool false])) W5 := ⟨_, rfl, RowS.below HR.out hb, fun k hk => .inl hk, ⟨_, _, rfl⟩, hb⟩
  refine bodyPost_ret (v := .tuple #[.agg #[.int .i64 r, .slice a xs.length cap], .bool false]) ?_ rfl hfin
  clear hfin g2 hb HR HB HB2 E1 E2 E2' D
  simp only [results, Try.f26]
  go_simp

set_option maxHeartbeats 2000000 in
theorem rmove_no2 (r : Nat) (v : Value) (xs : List ByteArray) (n tn : Int) (w : World) (h : RowS w v xs) (hl : xs.length ≤ 64) (hi : inside xs n = true) (hj : inside xs tn = false) :
    Calls Try.prog 26 #[refV r v, .int .i64 n, .int .i64 tn] w (RefP w r v xs [.bool false]) := by
  obtain ⟨a, cap, hv⟩ := OffRow.shape h
  subst hv
  obtain ⟨e1, e2, hb, hs⟩ := box2_at w r (.slice a xs.length cap)
  obtain ⟨w1, hw1⟩ : ∃ w1, w1 = box2 w r (.slice a xs.length cap) := ⟨_, rfl⟩
  rw [← hw1] at e1 e2 hb hs
  unfold box2 at hw1
  obtain ⟨c0, c1, _⟩ := cells2 e1
  have D := rthere_any r (.slice a xs.length cap) xs n w1 (RowS.below h hb) hl
  rw [hi] at D
  have D := Lib.hid D
  have HR := Lib.hid h
  have HW := Lib.hid hw1
  have E1 := Lib.hid e1
  have E2 := Lib.hid e2
  have HB := Lib.hid hb
  have HS := Lib.hid hs
  unfold refV at D ⊢
  clear h e1 e2 hb hs hw1 hi
  go_enter Try.func26, Try.ntmps26
  go_upto_region 1 with fail
  rw [← HW.out]
  go_wp2_with fail
  refine D.out.mono ?_
  rintro e w2 ⟨rfl, hb2⟩
  have e1 := (hb2.block w.heap.size (by rw [HS.out]; omega)).trans E1.out
  have e2 := (hb2.block (w.heap.size + 1) (by rw [HS.out]; omega)).trans E2.out
  obtain ⟨y0, y1, _⟩ := cells2 e1
  obtain ⟨z0, z1, zf⟩ := cells2 e2
  have HB2 := Lib.hid (HB.out.trans (hb2.mono (by rw [HS.out]; omega)))
  have E2' := Lib.hid e2
  have D2 := rthere_any r (.slice a xs.length cap) xs tn w2 (RowS.below HR.out HB2.out) hl
  rw [hj] at D2
  unfold refV at D2
  have D2 := Lib.hid D2
  have E1' := Lib.hid e1
  clear hb2 e1 e2 c0 c1
  go_wp2_with fail
  refine D2.out.mono ?_
  rintro e w3 ⟨rfl, hb3⟩
  have hs2 : w.heap.size + 2 ≤ w2.heap.size := by
    have := (Array.getElem?_eq_some_iff.1 E2'.out).1
    omega
  have e1 := (hb3.block w.heap.size (by omega)).trans E1'.out
  have e2 := (hb3.block (w.heap.size + 1) (by omega)).trans E2'.out
  clear y0 y1 z0 z1 zf
  obtain ⟨y0, y1, _⟩ := cells2 e1
  obtain ⟨z0, z1, zf⟩ := cells2 e2
  have HB3 := Lib.hid (HB2.out.trans (hb3.mono (by omega)))
  have E3' := Lib.hid e2
  clear hb3 e1 e2 E2' HB2
  have HB2 := HB3
  have E2' := E3'
  go_wp2_with fail
  have g2 := set2 E2'.out (.int .i64 r) (.slice a xs.length cap)
  have hb := below_sets HB2.out (Nat.le_succ _) (.int .i64 r) (.slice a xs.length cap)
  clear y0 y1 z0 z1 zf HW
  generalize ((World.setCell _ _ _).setCell _ _) = W5 at *
  obtain ⟨p0, p1, _⟩ := cells2 g2
  have hfin : RefP w r (.slice a xs.length cap) xs [.bool false] (.returned (.tuple #[.agg #[.int .i64 r, .slice a xs.length cap], .bool false])) W5 := ⟨_, rfl, RowS.below HR.out hb, fun k hk => .inl hk, ⟨_, _, rfl⟩, hb⟩
  refine bodyPost_ret (v := .tuple #[.agg #[.int .i64 r, .slice a xs.length cap], .bool false]) ?_ rfl hfin
  clear hfin g2 hb HR HB HB2 E1 E2 E2' D
  simp only [results, Try.f26]
  go_simp

theorem slice_from (g o n cap tn : Nat) : (if cap = tn then some (⟨g, o, none⟩ : Addr) else some ⟨g, o + tn, none⟩) = some ⟨g, if cap = tn then o else o + tn, none⟩ := by split <;> rfl

set_option maxHeartbeats 8000000 in
set_option maxRecDepth 100000 in
theorem rmove_yes (r : Nat) (v : Value) (xs : List ByteArray) (n tn : Nat) (w : World) (h : RowS w v xs) (hl : xs.length ≤ 64) (hn : n < xs.length) (ht : tn < xs.length) :
    Calls Try.prog 26 #[refV r v, .int .i64 n, .int .i64 tn] w (RefP w r v (moved xs n tn xs[n]) [.bool true]) := by
  have hi : inside xs n = true := decide_eq_true (by omega)
  have hj : inside xs tn = true := decide_eq_true (by omega)
  obtain ⟨a, cap, hv⟩ := OffRow.shape h
  subst hv
  obtain ⟨e1, e2, hb, hs⟩ := box2_at w r (.slice a xs.length cap)
  obtain ⟨w1, hw1⟩ : ∃ w1, w1 = box2 w r (.slice a xs.length cap) := ⟨_, rfl⟩
  rw [← hw1] at e1 e2 hb hs
  unfold box2 at hw1
  obtain ⟨c0, c1, _⟩ := cells2 e1
  obtain ⟨i9, hi9, hz9, hs9, hb9⟩ := info_parts info9
  have D := rthere_any r (.slice a xs.length cap) xs n w1 (RowS.below h hb) hl
  rw [hi] at D
  have D := Lib.hid D
  have D2 := Lib.hid (fun (w' : World) (hb' : Below w.heap.size w w') => rthere_any r (.slice a xs.length cap) xs tn w' (RowS.below h hb') hl)
  rw [hj] at D2
  have D3 := Lib.hid (fun (w' : World) (hb' : Below w.heap.size w w') => rtake_yes r (.slice a xs.length cap) xs n w' (RowS.below h hb') hl hn)
  obtain ⟨x, hx⟩ : ∃ x, x = xs[n] := ⟨_, rfl⟩
  obtain ⟨ys, hys⟩ : ∃ ys, ys = xs.eraseIdx n := ⟨_, rfl⟩
  have hyl : ys.length = xs.length - 1 := by rw [hys]; exact List.length_eraseIdx_of_lt hn
  have hmv : moved xs n tn x = (ys.drop 0).take tn ++ [x] ++ (ys.drop tn).take (ys.length - tn) := by
    unfold moved
    rw [← hys, List.drop_zero, List.take_of_length_le (l := ys.drop tn) (by simp)]
  rw [← hx, ← hys] at D3
  rw [← hx]
  have HMV := Lib.hid hmv
  have HR := Lib.hid h
  have HW := Lib.hid hw1
  have E1 := Lib.hid e1
  have E2 := Lib.hid e2
  have HB := Lib.hid hb
  have HS := Lib.hid hs
  unfold refV at D D2 ⊢
  have m0 : tn ≤ ys.length := by omega
  have m00 : ys.length ≤ 64 := by omega
  clear h e1 e2 hb hs hw1 hi hj hx hys hyl hmv
  go_enter Try.func26, Try.ntmps26
  go_upto_region 1 with fail
  rw [← HW.out]
  go_wp2_with fail
  refine D.out.mono ?_
  rintro e w2 ⟨rfl, hb2⟩
  have e1 := (hb2.block w.heap.size (by rw [HS.out]; omega)).trans E1.out
  have e2 := (hb2.block (w.heap.size + 1) (by rw [HS.out]; omega)).trans E2.out
  obtain ⟨y0, y1, _⟩ := cells2 e1
  have hB2 := HB.out.trans (hb2.mono (by rw [HS.out]; omega))
  have hs2 : w.heap.size + 2 ≤ w2.heap.size := by have := hb2.size; rw [HS.out] at this; exact this
  have DD := Lib.hid (D2.out w2 hB2)
  have HB2 := Lib.hid hB2
  have E1b := Lib.hid e1
  have E2b := Lib.hid e2
  clear hb2 e1 e2 c0 c1 hB2 E1 E2 D2
  go_wp2_with fail
  refine DD.out.mono ?_
  rintro e w3 ⟨rfl, hb3⟩
  have e1 := (hb3.block w.heap.size (by omega)).trans E1b.out
  have e2 := (hb3.block (w.heap.size + 1) (by omega)).trans E2b.out
  clear y0 y1
  obtain ⟨y0, y1, _⟩ := cells2 e1
  have hB3 := HB2.out.trans (hb3.mono (by omega))
  have hs3 : w.heap.size + 2 ≤ w3.heap.size := Nat.le_trans hs2 hb3.size
  have DT := D3.out w3 hB3
  unfold refV at DT
  have DT := Lib.hid DT
  have HB3 := Lib.hid hB3
  have E1c := Lib.hid e1
  have E2c := Lib.hid e2
  clear hb3 e1 e2 hB3 E1b E2b HB2 D3 DD D hs2
  go_wp2_with fail
  refine DT.out.mono ?_
  rintro e w4 ⟨g, o, c, rfl, hr4, hg4, hc4, hb4⟩
  unfold refV
  have e1 := (hb4.block w.heap.size (by omega)).trans E1c.out
  have e2 := (hb4.block (w.heap.size + 1) (by omega)).trans E2c.out
  have hB4 := HB3.out.trans (hb4.mono (by omega))
  have hs4 : w.heap.size + 2 ≤ w4.heap.size := Nat.le_trans hs3 hb4.size
  go_upto_region 4 with fail
  obtain ⟨w5, hw5⟩ : ∃ w5, w5 = w4.alloc (.cells #[.int .i64 r, .slice (some ⟨g, o, none⟩) ys.length c] 29) := ⟨_, rfl⟩
  have e5 := heap_alloc_new w4 (.cells #[.int .i64 r, .slice (some ⟨g, o, none⟩) ys.length c] 29)
  have hb5 : Below w4.heap.size w4 w5 := by rw [hw5]; exact (Below.refl _ w4).alloc (Nat.le_refl _) _
  rw [← hw5] at e5 ⊢
  obtain ⟨t8, ht8⟩ : ∃ t8, t8 = w4.heap.size := ⟨_, rfl⟩
  rw [← ht8] at e5 ⊢
  have h8 : w.heap.size + 2 ≤ t8 := by omega
  have h85 : t8 < w5.heap.size := lt_of_block e5
  obtain ⟨x0, x1, _⟩ := cells2 e5
  have e1' := (hb5.block w.heap.size (by omega)).trans e1
  have e2' := (hb5.block (w.heap.size + 1) (by omega)).trans e2
  obtain ⟨u0, u1, uf⟩ := cells2 e1'
  have hne8 : w.heap.size ≠ t8 := by omega
  have HB5 := Lib.hid (hB4.trans (hb5.mono hB4.size))
  have HR5 := Lib.hid (RowS.below hr4 hb5)
  have E1d := Lib.hid e1'
  have E2d := Lib.hid e2'
  have hs5 : w.heap.size + 2 ≤ w5.heap.size := by omega
  obtain ⟨L, hL⟩ : ∃ L, L = ys.length := ⟨_, rfl⟩
  rw [← hL] at x1 m0 m00 hc4 ⊢
  have HL := Lib.hid hL
  have m1 : (tn : Int) ≤ (L : Int) := by omega
  have m2 : (L : Int) ≤ (c : Int) := by omega
  have m3 : (tn : Int) ≤ (c : Int) := by omega
  have m4 : (L : Int) ≤ 64 := by omega
  have x1' : ∀ u, (w5.alloc u).cell? ⟨t8, 1, none⟩ = some (.slice (some ⟨g, o, none⟩) L c) := fun u => (World.cell?_of_block (w := w5) (Below.heap_alloc _ _ _ h85)).trans x1
  clear e1 e2 e5 e1' e2' hb4 hb5 hB4 hr4 hw5 ht8 hs3 hs4 hL y0 y1 DT HB3 E1c E2c
  go_cut [42] (fun s42 wx => TakeR w r (moved xs n tn x) wx)
  case first =>
    by_cases hc : c = tn
    · subst hc
      have hLn : L = c := by omega
      subst hLn
      go_region_held3 (fun w' => w'.cell? ⟨t8, 1, none⟩ = some (.slice (some ⟨g, o, none⟩) L L)) (first | assumption | go_keep)
                                  (first
                                  | (refine step_append_at rfl (.tmp 29) (.tmp 33) 27 27 9 rfl i9 _ 1 16 Try.underlying27 hi9 hz9 hs9 hb9 rfl (.slice (some ⟨w5.heap.size, 0, none⟩) 0 0) (.slice (some ⟨g, o, none⟩) L L) 0 [] (by simp [Act.eval, Act.put]) (by simp [Act.eval, Act.put]) (row_none (by exact heap_alloc_new w5 _)) L (((ys.drop 0).take L).map Value.string) (src_part (by exact RowS.kept HR5.out fun k hk => ((Below.refl _ w5).alloc (Nat.le_refl _) _).block k (RowS.lt HR5.out k hk)) 0 L L (by rw [← HL.out]; omega) (some ⟨g, o, none⟩) (fun g' o' e _ => by simpa using e) (fun _ => trivial) (fun e => by cases e) (fun _ _ => trivial)) (.inr (by simp [Value.ownBlock])) (by unfold maxLen; omega) (by omega) ?_;
                                            intro v1 w6 ho1 hg1 hn1;
                                            have C := copied_base (w := w5) (W := (w5.alloc (.cells #[] 9))) (gb := w5.heap.size) (xs := (ys.drop 0).take L) ((Below.refl _ w5).alloc (Nat.le_refl _) _) (by omega) ho1 rfl (by rw [List.drop_zero, List.length_take, ← HL.out]; omega) (grown_drew hg1) (by simpa [Value.ownBlock] using hn1);
                                            have T1 : w6.cell? ⟨t8, 1, none⟩ = some (.slice (some ⟨g, o, none⟩) L L) := (World.cell?_of_block (w := w5) (C.below.block t8 h85)).trans x1;
                                            have C1 := Lib.hid C;
                                            clear ho1 hg1 hn1 C)
                                  | (refine step_append_at rfl (.tmp 29) (.tmp 33) 27 27 9 rfl i9 _ 1 16 Try.underlying27 hi9 hz9 hs9 hb9 rfl (.slice (some ⟨w5.heap.size, 0, none⟩) 0 0) (.slice (some ⟨g, o, none⟩) L L) 0 [] (by simp [Act.eval, Act.put]) (by simp [Act.eval, Act.put]) (by exact order2_row w5 x) L (((ys.drop 0).take L).map Value.string) (src_part (by exact RowS.kept HR5.out fun k hk => (below2 w5 _ _).block k (RowS.lt HR5.out k hk)) 0 L L (by rw [← HL.out]; omega) (some ⟨g, o, none⟩) (fun g' o' e _ => by simpa using e) (fun _ => trivial) (fun e => by cases e) (fun _ _ => trivial)) (.inr (by simp [Value.ownBlock])) (by unfold maxLen; omega) (by omega) ?_;
                                            intro v1 w6 ho1 hg1 hn1;
                                            have C := copied_base (w := w5) (W := ((w5.alloc (.cells #[] 9)).alloc (.cells #[.string x] 9))) (gb := w5.heap.size) (xs := (ys.drop 0).take L) (below2 w5 _ _) (by omega) ho1 rfl (by rw [List.drop_zero, List.length_take, ← HL.out]; omega) (grown_drew hg1) (by simpa [Value.ownBlock] using hn1);
                                            have X := order2_cell hg1;
                                            have T1 : w6.cell? ⟨t8, 1, none⟩ = some (.slice (some ⟨g, o, none⟩) L L) := (World.cell?_of_block (w := w5) (C.below.block t8 h85)).trans x1;
                                            have C1 := Lib.hid C;
                                            clear ho1 hg1 hn1 C)
                                  | (refine step_append_at rfl (.tmp 29) (.tmp 33) 27 27 9 rfl i9 _ 1 16 Try.underlying27 hi9 hz9 hs9 hb9 rfl (.slice (some ⟨(w5.heap.size + 1), 0, none⟩) 0 0) (.slice (some ⟨g, o, none⟩) L L) 0 [] (by simp [Act.eval, Act.put]) (by simp [Act.eval, Act.put]) (by exact order3_row w5 x) L (((ys.drop 0).take L).map Value.string) (src_part (by exact RowS.kept HR5.out fun k hk => (below2 w5 _ _).block k (RowS.lt HR5.out k hk)) 0 L L (by rw [← HL.out]; omega) (some ⟨g, o, none⟩) (fun g' o' e _ => by simpa using e) (fun _ => trivial) (fun e => by cases e) (fun _ _ => trivial)) (.inr (by simp [Value.ownBlock])) (by unfold maxLen; omega) (by omega) ?_;
                                            intro v1 w6 ho1 hg1 hn1;
                                            have C := copied_base (w := w5) (W := ((w5.alloc (.cells #[.string x] 9)).alloc (.cells #[] 9))) (gb := (w5.heap.size + 1)) (xs := (ys.drop 0).take L) (below2 w5 _ _) (by omega) ho1 rfl (by rw [List.drop_zero, List.length_take, ← HL.out]; omega) (grown_drew hg1) (by simpa [Value.ownBlock] using hn1);
                                            have X := order3_cell hg1;
                                            have T1 : w6.cell? ⟨t8, 1, none⟩ = some (.slice (some ⟨g, o, none⟩) L L) := (World.cell?_of_block (w := w5) (C.below.block t8 h85)).trans x1;
                                            have C1 := Lib.hid C;
                                            clear ho1 hg1 hn1 C)
                                  | (refine step_append_at rfl (.tmp 34) (.tmp 36) 27 27 9 rfl i9 _ 1 16 Try.underlying27 hi9 hz9 hs9 hb9 rfl v1 (.slice (some ⟨w6.heap.size, 0, none⟩) 1 1) L (((ys.drop 0).take L).map Value.string) (by simp [Act.eval, Act.put]) (by simp [Act.eval, Act.put]) (by have := C1.out.row; rw [List.drop_zero, List.length_take, ← HL.out, Nat.min_eq_left (by omega)] at this; exact OffRow.kept this fun k hk => Below.heap_alloc _ _ _ (this.lt k hk)) 1 [.string x] (by exact src_one w6 x) (.inl (by omega)) (by unfold maxLen; omega) (by omega) ?_;
                                            intro v2 w7 ho2 hg2 hn2;
                                            have C := C1.out.more (ys := [x]) ho2 rfl (by rw [List.drop_zero, List.length_take, ← HL.out]; omega) rfl ((Below.refl _ w6).alloc (Nat.le_refl _) _) hg2 hn2;
                                            have T1 : w7.cell? ⟨t8, 1, none⟩ = some (.slice (some ⟨g, o, none⟩) L L) := (World.cell?_of_block (w := w5) (C.below.block t8 h85)).trans x1;
                                            have C2 := Lib.hid C;
                                            clear ho2 hg2 hn2 C)
                                  | (refine step_append_at rfl (.tmp 34) (.tmp 36) 27 27 9 rfl i9 _ 1 16 Try.underlying27 hi9 hz9 hs9 hb9 rfl v1 (.slice (some ⟨(w5.heap.size + 1), 0, none⟩) 1 1) L (((ys.drop 0).take L).map Value.string) (by simp [Act.eval, Act.put]) (by simp [Act.eval, Act.put]) (by have := C1.out.row; rw [List.drop_zero, List.length_take, ← HL.out, Nat.min_eq_left (by omega)] at this; exact this) 1 [.string x] (src_at X) (.inl (by omega)) (by unfold maxLen; omega) (by omega) ?_;
                                            intro v2 w7 ho2 hg2 hn2;
                                            have C := C1.out.more (ys := [x]) ho2 rfl (by rw [List.drop_zero, List.length_take, ← HL.out]; omega) rfl (Below.refl _ w6) hg2 hn2;
                                            have T1 : w7.cell? ⟨t8, 1, none⟩ = some (.slice (some ⟨g, o, none⟩) L L) := (World.cell?_of_block (w := w5) (C.below.block t8 h85)).trans x1;
                                            have C2 := Lib.hid C;
                                            clear ho2 hg2 hn2 C)
                                  | (refine step_append_at rfl (.tmp 34) (.tmp 36) 27 27 9 rfl i9 _ 1 16 Try.underlying27 hi9 hz9 hs9 hb9 rfl v1 (.slice (some ⟨w5.heap.size, 0, none⟩) 1 1) L (((ys.drop 0).take L).map Value.string) (by simp [Act.eval, Act.put]) (by simp [Act.eval, Act.put]) (by have := C1.out.row; rw [List.drop_zero, List.length_take, ← HL.out, Nat.min_eq_left (by omega)] at this; exact this) 1 [.string x] (src_at X) (.inl (by omega)) (by unfold maxLen; omega) (by omega) ?_;
                                            intro v2 w7 ho2 hg2 hn2;
                                            have C := C1.out.more (ys := [x]) ho2 rfl (by rw [List.drop_zero, List.length_take, ← HL.out]; omega) rfl (Below.refl _ w6) hg2 hn2;
                                            have T1 : w7.cell? ⟨t8, 1, none⟩ = some (.slice (some ⟨g, o, none⟩) L L) := (World.cell?_of_block (w := w5) (C.below.block t8 h85)).trans x1;
                                            have C2 := Lib.hid C;
                                            clear ho2 hg2 hn2 C)
                                  | (refine step_append_at rfl (.tmp 37) (.tmp 41) 27 27 9 rfl i9 _ 1 16 Try.underlying27 hi9 hz9 hs9 hb9 rfl v2 (.slice (some ⟨g, o, none⟩) 0 0) (L + 1) (((ys.drop 0).take L ++ [x]).map Value.string) (by simp [Act.eval, Act.put]) (by simp [Act.eval, Act.put]) (by have := C2.out.row; rw [List.length_append, List.drop_zero, List.length_take, ← HL.out, Nat.min_eq_left (by omega)] at this; exact this) 0 (((ys.drop L).take 0).map Value.string) (src_part (by exact RowS.below HR5.out C2.out.below) L 0 0 (by rw [← HL.out]; omega) (some ⟨g, o, none⟩) (fun g' o' e hm => by omega) (fun _ => trivial) (fun e => by cases e) (fun _ _ => trivial)) (.inr C2.out.some_) (by unfold maxLen; omega) (by omega) ?_;
                                            intro v3 w8 ho3 hg3 hn3;
                                            have C := C2.out.more (ys := (ys.drop L).take 0) ho3 rfl (by rw [List.length_append, List.drop_zero, List.length_take, ← HL.out, Nat.min_eq_left (by omega)]; rfl) (by rw [List.length_take, List.length_drop, ← HL.out]; omega) (Below.refl _ w7) hg3 hn3;
                                            obtain ⟨a3, c3, rfl⟩ := ho3.shape;
                                            have T1 : w8.cell? ⟨t8, 1, none⟩ = some (.slice (some ⟨g, o, none⟩) L L) := (World.cell?_of_block (w := w5) (C.below.block t8 h85)).trans x1;
                                            have TF : ∀ i, w8.frozen? ⟨w.heap.size, i, none⟩ = false := fun i => (World.frozen?_of_block (w := w5) (C.below.block w.heap.size (by omega))).trans (uf i);
                                            have TU : ∃ u, w8.cell? ⟨w.heap.size, 1, none⟩ = some u := ⟨_, (World.cell?_of_block (w := w5) (C.below.block w.heap.size (by omega))).trans u1⟩;
                                            obtain ⟨tu, TU⟩ := TU;
                                            have C3 := Lib.hid C;
                                            clear ho3 hg3 hn3 C))
      all_goals
        go_wp2_with fail
        go_meet
        have hC := C3.out
        have hel : moved xs n L x = (ys.drop 0).take L ++ [x] ++ (ys.drop L).take 0 := by rw [HMV.out, show ys.length - L = 0 by rw [← HL.out]; omega]
        rw [← hel] at hC
        exact takeR_of HB5.out hs5 hC E1d.out E2d.out
    · have hc2 : ¬ (c : Int) = (tn : Int) := by omega
      go_region_held3 (fun w' => w'.cell? ⟨t8, 1, none⟩ = some (.slice (some ⟨g, o, none⟩) L c)) (first | assumption | go_keep)
                                  (first
                                  | (refine step_append_at rfl (.tmp 29) (.tmp 33) 27 27 9 rfl i9 _ 1 16 Try.underlying27 hi9 hz9 hs9 hb9 rfl (.slice (some ⟨w5.heap.size, 0, none⟩) 0 0) (.slice (some ⟨g, o, none⟩) tn c) 0 [] (by simp [Act.eval, Act.put]) (by simp [Act.eval, Act.put]) (row_none (by exact heap_alloc_new w5 _)) tn (((ys.drop 0).take tn).map Value.string) (src_part (by exact RowS.kept HR5.out fun k hk => ((Below.refl _ w5).alloc (Nat.le_refl _) _).block k (RowS.lt HR5.out k hk)) 0 tn c (by rw [← HL.out]; omega) (some ⟨g, o, none⟩) (fun g' o' e _ => by simpa using e) (fun _ => trivial) (fun e => by cases e) (fun _ _ => trivial)) (.inr (by simp [Value.ownBlock])) (by unfold maxLen; omega) (by omega) ?_;
                                            intro v1 w6 ho1 hg1 hn1;
                                            have C := copied_base (w := w5) (W := (w5.alloc (.cells #[] 9))) (gb := w5.heap.size) (xs := (ys.drop 0).take tn) ((Below.refl _ w5).alloc (Nat.le_refl _) _) (by omega) ho1 rfl (by rw [List.drop_zero, List.length_take, ← HL.out]; omega) (grown_drew hg1) (by simpa [Value.ownBlock] using hn1);
                                            have T1 : w6.cell? ⟨t8, 1, none⟩ = some (.slice (some ⟨g, o, none⟩) L c) := (World.cell?_of_block (w := w5) (C.below.block t8 h85)).trans x1;
                                            have C1 := Lib.hid C;
                                            clear ho1 hg1 hn1 C)
                                  | (refine step_append_at rfl (.tmp 29) (.tmp 33) 27 27 9 rfl i9 _ 1 16 Try.underlying27 hi9 hz9 hs9 hb9 rfl (.slice (some ⟨w5.heap.size, 0, none⟩) 0 0) (.slice (some ⟨g, o, none⟩) tn c) 0 [] (by simp [Act.eval, Act.put]) (by simp [Act.eval, Act.put]) (by exact order2_row w5 x) tn (((ys.drop 0).take tn).map Value.string) (src_part (by exact RowS.kept HR5.out fun k hk => (below2 w5 _ _).block k (RowS.lt HR5.out k hk)) 0 tn c (by rw [← HL.out]; omega) (some ⟨g, o, none⟩) (fun g' o' e _ => by simpa using e) (fun _ => trivial) (fun e => by cases e) (fun _ _ => trivial)) (.inr (by simp [Value.ownBlock])) (by unfold maxLen; omega) (by omega) ?_;
                                            intro v1 w6 ho1 hg1 hn1;
                                            have C := copied_base (w := w5) (W := ((w5.alloc (.cells #[] 9)).alloc (.cells #[.string x] 9))) (gb := w5.heap.size) (xs := (ys.drop 0).take tn) (below2 w5 _ _) (by omega) ho1 rfl (by rw [List.drop_zero, List.length_take, ← HL.out]; omega) (grown_drew hg1) (by simpa [Value.ownBlock] using hn1);
                                            have X := order2_cell hg1;
                                            have T1 : w6.cell? ⟨t8, 1, none⟩ = some (.slice (some ⟨g, o, none⟩) L c) := (World.cell?_of_block (w := w5) (C.below.block t8 h85)).trans x1;
                                            have C1 := Lib.hid C;
                                            clear ho1 hg1 hn1 C)
                                  | (refine step_append_at rfl (.tmp 29) (.tmp 33) 27 27 9 rfl i9 _ 1 16 Try.underlying27 hi9 hz9 hs9 hb9 rfl (.slice (some ⟨(w5.heap.size + 1), 0, none⟩) 0 0) (.slice (some ⟨g, o, none⟩) tn c) 0 [] (by simp [Act.eval, Act.put]) (by simp [Act.eval, Act.put]) (by exact order3_row w5 x) tn (((ys.drop 0).take tn).map Value.string) (src_part (by exact RowS.kept HR5.out fun k hk => (below2 w5 _ _).block k (RowS.lt HR5.out k hk)) 0 tn c (by rw [← HL.out]; omega) (some ⟨g, o, none⟩) (fun g' o' e _ => by simpa using e) (fun _ => trivial) (fun e => by cases e) (fun _ _ => trivial)) (.inr (by simp [Value.ownBlock])) (by unfold maxLen; omega) (by omega) ?_;
                                            intro v1 w6 ho1 hg1 hn1;
                                            have C := copied_base (w := w5) (W := ((w5.alloc (.cells #[.string x] 9)).alloc (.cells #[] 9))) (gb := (w5.heap.size + 1)) (xs := (ys.drop 0).take tn) (below2 w5 _ _) (by omega) ho1 rfl (by rw [List.drop_zero, List.length_take, ← HL.out]; omega) (grown_drew hg1) (by simpa [Value.ownBlock] using hn1);
                                            have X := order3_cell hg1;
                                            have T1 : w6.cell? ⟨t8, 1, none⟩ = some (.slice (some ⟨g, o, none⟩) L c) := (World.cell?_of_block (w := w5) (C.below.block t8 h85)).trans x1;
                                            have C1 := Lib.hid C;
                                            clear ho1 hg1 hn1 C)
                                  | (refine step_append_at rfl (.tmp 34) (.tmp 36) 27 27 9 rfl i9 _ 1 16 Try.underlying27 hi9 hz9 hs9 hb9 rfl v1 (.slice (some ⟨w6.heap.size, 0, none⟩) 1 1) tn (((ys.drop 0).take tn).map Value.string) (by simp [Act.eval, Act.put]) (by simp [Act.eval, Act.put]) (by have := C1.out.row; rw [List.drop_zero, List.length_take, ← HL.out, Nat.min_eq_left (by omega)] at this; exact OffRow.kept this fun k hk => Below.heap_alloc _ _ _ (this.lt k hk)) 1 [.string x] (by exact src_one w6 x) (.inl (by omega)) (by unfold maxLen; omega) (by omega) ?_;
                                            intro v2 w7 ho2 hg2 hn2;
                                            have C := C1.out.more (ys := [x]) ho2 rfl (by rw [List.drop_zero, List.length_take, ← HL.out]; omega) rfl ((Below.refl _ w6).alloc (Nat.le_refl _) _) hg2 hn2;
                                            have T1 : w7.cell? ⟨t8, 1, none⟩ = some (.slice (some ⟨g, o, none⟩) L c) := (World.cell?_of_block (w := w5) (C.below.block t8 h85)).trans x1;
                                            have C2 := Lib.hid C;
                                            clear ho2 hg2 hn2 C)
                                  | (refine step_append_at rfl (.tmp 34) (.tmp 36) 27 27 9 rfl i9 _ 1 16 Try.underlying27 hi9 hz9 hs9 hb9 rfl v1 (.slice (some ⟨(w5.heap.size + 1), 0, none⟩) 1 1) tn (((ys.drop 0).take tn).map Value.string) (by simp [Act.eval, Act.put]) (by simp [Act.eval, Act.put]) (by have := C1.out.row; rw [List.drop_zero, List.length_take, ← HL.out, Nat.min_eq_left (by omega)] at this; exact this) 1 [.string x] (src_at X) (.inl (by omega)) (by unfold maxLen; omega) (by omega) ?_;
                                            intro v2 w7 ho2 hg2 hn2;
                                            have C := C1.out.more (ys := [x]) ho2 rfl (by rw [List.drop_zero, List.length_take, ← HL.out]; omega) rfl (Below.refl _ w6) hg2 hn2;
                                            have T1 : w7.cell? ⟨t8, 1, none⟩ = some (.slice (some ⟨g, o, none⟩) L c) := (World.cell?_of_block (w := w5) (C.below.block t8 h85)).trans x1;
                                            have C2 := Lib.hid C;
                                            clear ho2 hg2 hn2 C)
                                  | (refine step_append_at rfl (.tmp 34) (.tmp 36) 27 27 9 rfl i9 _ 1 16 Try.underlying27 hi9 hz9 hs9 hb9 rfl v1 (.slice (some ⟨w5.heap.size, 0, none⟩) 1 1) tn (((ys.drop 0).take tn).map Value.string) (by simp [Act.eval, Act.put]) (by simp [Act.eval, Act.put]) (by have := C1.out.row; rw [List.drop_zero, List.length_take, ← HL.out, Nat.min_eq_left (by omega)] at this; exact this) 1 [.string x] (src_at X) (.inl (by omega)) (by unfold maxLen; omega) (by omega) ?_;
                                            intro v2 w7 ho2 hg2 hn2;
                                            have C := C1.out.more (ys := [x]) ho2 rfl (by rw [List.drop_zero, List.length_take, ← HL.out]; omega) rfl (Below.refl _ w6) hg2 hn2;
                                            have T1 : w7.cell? ⟨t8, 1, none⟩ = some (.slice (some ⟨g, o, none⟩) L c) := (World.cell?_of_block (w := w5) (C.below.block t8 h85)).trans x1;
                                            have C2 := Lib.hid C;
                                            clear ho2 hg2 hn2 C)
                                  | (refine step_append_at rfl (.tmp 37) (.tmp 41) 27 27 9 rfl i9 _ 1 16 Try.underlying27 hi9 hz9 hs9 hb9 rfl v2 (.slice (some ⟨g, o + tn, none⟩) (L - tn) (c - tn)) (tn + 1) (((ys.drop 0).take tn ++ [x]).map Value.string) (by simp [Act.eval, Act.put]) (by simp [Act.eval, Act.put]) (by have := C2.out.row; rw [List.length_append, List.drop_zero, List.length_take, ← HL.out, Nat.min_eq_left (by omega)] at this; exact this) (L - tn) (((ys.drop tn).take (L - tn)).map Value.string) (src_part (by exact RowS.below HR5.out C2.out.below) tn (L - tn) (c - tn) (by rw [← HL.out]; omega) (some ⟨g, o + tn, none⟩) (fun g' o' e _ => by simp only [Option.some.injEq, Addr.mk.injEq, and_true] at e; obtain ⟨rfl, rfl⟩ := e; rfl) (fun _ => trivial) (fun e => by cases e) (fun _ _ => trivial)) (.inr C2.out.some_) (by unfold maxLen; omega) (by omega) ?_;
                                            intro v3 w8 ho3 hg3 hn3;
                                            have C := C2.out.more (ys := (ys.drop tn).take (L - tn)) ho3 rfl (by rw [List.length_append, List.drop_zero, List.length_take, ← HL.out, Nat.min_eq_left (by omega)]; rfl) (by rw [List.length_take, List.length_drop, ← HL.out]; omega) (Below.refl _ w7) hg3 hn3;
                                            obtain ⟨a3, c3, rfl⟩ := ho3.shape;
                                            have T1 : w8.cell? ⟨t8, 1, none⟩ = some (.slice (some ⟨g, o, none⟩) L c) := (World.cell?_of_block (w := w5) (C.below.block t8 h85)).trans x1;
                                            have TF : ∀ i, w8.frozen? ⟨w.heap.size, i, none⟩ = false := fun i => (World.frozen?_of_block (w := w5) (C.below.block w.heap.size (by omega))).trans (uf i);
                                            have TU : ∃ u, w8.cell? ⟨w.heap.size, 1, none⟩ = some u := ⟨_, (World.cell?_of_block (w := w5) (C.below.block w.heap.size (by omega))).trans u1⟩;
                                            obtain ⟨tu, TU⟩ := TU;
                                            have C3 := Lib.hid C;
                                            clear ho3 hg3 hn3 C))
      all_goals
        go_wp2_with fail
        go_meet
        have hC := C3.out
        have hel : moved xs n tn x = (ys.drop 0).take tn ++ [x] ++ (ys.drop tn).take (L - tn) := by rw [HL.out]; exact HMV.out
        rw [← hel] at hC
        exact takeR_of HB5.out hs5 hC E1d.out E2d.out
  case rest =>
    obtain ⟨v', a', c', rfl, e1, e2, hr, ho, hb, hnn⟩ := hcut
    clear x0 x1 u0 u1 uf x1' hnn
    obtain ⟨x0, x1, _⟩ := cells2 e1
    obtain ⟨u0, u1, uf⟩ := cells2 e2
    have G2 := Lib.hid e2
    have HO := Lib.hid ho
    have HBC := Lib.hid hb
    have HRC := Lib.hid hr
    clear e1 e2 hr ho hb
    go_wp2_with fail
    have g2 := set2 G2.out (.int .i64 r) (.slice a' (moved xs n tn x).length c')
    have hb := below_sets HBC.out (Nat.le_succ _) (.int .i64 r) (.slice a' (moved xs n tn x).length c')
    have hr5 : RowS ((wc.setCell ⟨w.heap.size + 1, 0, none⟩ (.int .i64 r)).setCell ⟨w.heap.size + 1, 1, none⟩ (.slice a' (moved xs n tn x).length c')) (.slice a' (moved xs n tn x).length c') (moved xs n tn x) :=
      RowS.kept HRC.out fun k hk => (Below.heap_setCell _ _ _ _ (by show k ≠ w.heap.size + 1; have := HO.out k hk; omega)).trans (Below.heap_setCell _ _ _ _ (by show k ≠ w.heap.size + 1; have := HO.out k hk; omega))
    clear x0 x1 u0 u1 uf HW
    generalize ((World.setCell _ _ _).setCell _ _) = W5 at *
    obtain ⟨p0, p1, _⟩ := cells2 g2
    have hfin : RefP w r (.slice a xs.length cap) (moved xs n tn x) [.bool true] (.returned (.tuple #[.agg #[.int .i64 r, .slice a' (moved xs n tn x).length c'], .bool true])) W5 := ⟨_, rfl, hr5, fun k hk => .inr (by have := HO.out k hk; omega), ⟨_, _, rfl⟩, hb⟩
    refine bodyPost_ret (v := .tuple #[.agg #[.int .i64 r, .slice a' (moved xs n tn x).length c'], .bool true]) ?_ rfl hfin
    clear hfin g2 hb hr5 G2 HO HBC HRC
    simp only [results, Try.f26]
    go_simp
end Go.Proofs.Ytgfklfpjibjhmaa

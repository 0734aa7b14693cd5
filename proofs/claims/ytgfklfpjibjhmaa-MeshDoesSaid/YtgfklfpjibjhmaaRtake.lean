/-
  The document's Take.
-/
import Derived.Test.YtgfklfpjibjhmaaRsend
namespace Go.Proofs.Ytgfklfpjibjhmaa
open Go.RowKit
set_option linter.unusedVariables false
set_option linter.unusedSimpArgs false

theorem step_append_at {P : Program} {ops : Array Oper} {o : Oper} {a : Act} {w : World} {K : Act → World → Prop} {Q : Exit → Act → World → Prop} {E : Prop} (hg : o.guard = none)
    (s x : Operand) (t tx e : TypeId) (ho : o.op = .call { callee := .builtin .append, args := #[s, x], argTypes := #[t, tx] })
    (i : TypeInfo) (z : Value) (size bytes : Nat) (ht : P.underlying t = some (.slice e)) (hi : P.info? e = some i) (hz : i.zero = some z)
    (hsize : i.size = size) (hby : i.bytes = bytes) (hzs : z.cells.size = size) (v u : Value) (n : Nat) (xs : List Value) (hv : a.eval s = v) (hu : a.eval x = u) (hown : OffRow w e size v n xs)
    (m : Nat) (news : List Value) (hs : Src P size tx u m news w) (hm0 : 0 < m ∨ v.ownBlock ≠ none) (h63 : n + m ≤ maxLen) (hbytes : (n + m) * bytes ≤ 140737488355328)
    (hK : ∀ v' w', OffRow w' e size v' (n + m) (xs ++ news) → w.grownBy w' v.ownBlock → (v'.ownBlock = v.ownBlock ∨ v'.ownBlock = some w.heap.size) → K (a.put o.dst v') w') :
    if Region.wanted o (yielded ops a.tmps) = true then Oper.wp P o a w K Q else E := by
  subst hu
  exact step_append_off hg s x t tx e ho i z size bytes ht hi hz hsize hby hzs v n xs hv hown m news hs hm0 h63 hbytes hK

set_option maxHeartbeats 1000000 in
theorem rtake_no (r : Nat) (v : Value) (xs : List ByteArray) (n : Int) (w : World) (h : RowS w v xs) (hl : xs.length ≤ 64) (hi : inside xs n = false) :
    Calls Try.prog 24 #[refV r v, .int .i64 n] w (RefP w r v xs [.string ⟨#[]⟩, .bool false]) := by
  obtain ⟨a, cap, hv⟩ := OffRow.shape h
  subst hv
  obtain ⟨e1, e2, hb, hs⟩ := box2_at w r (.slice a xs.length cap)
  obtain ⟨w1, hw1⟩ : ∃ w1, w1 = box2 w r (.slice a xs.length cap) := ⟨_, rfl⟩
  rw [← hw1] at e1 e2 hb hs
  unfold box2 at hw1
  obtain ⟨c0, c1, _⟩ := cells2 e1
  have D := rthere_any r (.slice a xs.length cap) xs n w1 (RowS.below h hb) hl
  rw [hi] at D
  have D := Lib.hid D
  have HR := Lib.hid h
  have HW := Lib.hid hw1
  have E1 := Lib.hid e1
  have E2 := Lib.hid e2
  have HB := Lib.hid hb
  have HS := Lib.hid hs
  unfold refV at D ⊢
  clear h e1 e2 hb hs hw1 hi
  go_enter Try.func24, Try.ntmps24
  go_upto_region 1 with fail
  rw [← HW.out]
  go_wp2_with fail
  refine D.out.mono ?_
  rintro e w2 ⟨rfl, hb2⟩
  have e1 := (hb2.block w.heap.size (by rw [HS.out]; omega)).trans E1.out
  have e2 := (hb2.block (w.heap.size + 1) (by rw [HS.out]; omega)).trans E2.out
  obtain ⟨y0, y1, _⟩ := cells2 e1
  obtain ⟨z0, z1, zf⟩ := cells2 e2
  have HB2 := Lib.hid (HB.out.trans (hb2.mono (by rw [HS.out]; omega)))
  have E2' := Lib.hid e2
  clear hb2 e1 e2 c0 c1
  go_wp2_with fail
  have g2 := set2 E2'.out (.int .i64 r) (.slice a xs.length cap)
  have hb := below_sets HB2.out (Nat.le_succ _) (.int .i64 r) (.slice a xs.length cap)
  clear y0 y1 z0 z1 zf HW
  generalize ((World.setCell _ _ _).setCell _ _) = W5 at *
  obtain ⟨p0, p1, _⟩ := cells2 g2
  have hfin : RefP w r (.slice a xs.length cap) xs [.string ⟨#[]⟩, .bool false] (.returned (.tuple #[.agg #[.int .i64 r, .slice a xs.length cap], .string ⟨#[]⟩, .bool false])) W5 := ⟨_, rfl, RowS.below HR.out hb, fun k hk => .inl hk, ⟨_, _, rfl⟩, hb⟩
  refine bodyPost_ret (v := .tuple #[.agg #[.int .i64 r, .slice a xs.length cap], .string ⟨#[]⟩, .bool false]) ?_ rfl hfin
  clear hfin g2 hb HR HB HB2 E1 E2 E2' D
  simp only [results, Try.f24]
  go_simp

/-- The same, and the mesh that is answered has a row. -/
def RefS (w : World) (r : Nat) (v : Value) (xs' : List ByteArray) (more : List Value) (e : Ending) (w' : World) : Prop :=
  ∃ g o c, e = .returned (.tuple (#[refV r (.slice (some ⟨g, o, none⟩) xs'.length c)] ++ more.toArray)) ∧ RowS w' (.slice (some ⟨g, o, none⟩) xs'.length c) xs' ∧ w.heap.size ≤ g ∧ xs'.length ≤ c ∧ Below w.heap.size w w'
theorem RefS.p {w : World} {r : Nat} {v : Value} {xs' : List ByteArray} {more : List Value} {e : Ending} {w' : World} (h : RefS w r v xs' more e w') : RefP w r v xs' more e w' := by
  obtain ⟨g, o, c, he, hr, hg, _, hb⟩ := h
  exact ⟨_, he, hr, fun k hk => .inr (by simp [Value.ownBlock] at hk; omega), ⟨_, _, rfl⟩, hb⟩
theorem RefS.of {w : World} {r : Nat} {v : Value} {xs' : List ByteArray} {more : List Value} {w' : World} {v' : Value} (hr : RowS w' v' xs') (ho : ∀ k, v'.ownBlock = some k → w.heap.size ≤ k) (hb : Below w.heap.size w w') (hn : v'.ownBlock ≠ none) :
    RefS w r v xs' more (.returned (.tuple (#[refV r v'] ++ more.toArray))) w' := by
  rcases id hr.2 with ⟨rfl, _⟩ | ⟨g, o, cap, cur, rfl, _, hc, _⟩
  · simp [Value.ownBlock] at hn
  · exact ⟨g, o, cap, rfl, hr, ho g rfl, hc, hb⟩

/-- What stands behind Take's copy. -/
def TakeR (w : World) (r : Nat) (ys : List ByteArray) (wx : World) : Prop :=
  ∃ v' a c, v' = .slice a ys.length c ∧ wx.heap[w.heap.size]? = some (.cells #[.int .i64 r, v'] 29 (0, 0)) ∧ wx.heap[w.heap.size + 1]? = some (.cells #[.int .i64 0, .slice none 0 0] 29 (0, 0)) ∧ RowS wx v' ys ∧ (∀ k, v'.ownBlock = some k → w.heap.size + 2 ≤ k) ∧ Below w.heap.size w wx ∧ v'.ownBlock ≠ none

theorem takeR_of {w w2 w3 : World} {r : Nat} {ys : List ByteArray} {v : Value} {u : Value} (hb : Below w.heap.size w w2) (hs : w.heap.size + 2 ≤ w2.heap.size) (h : Copied w2 w3 v ys)
    (e1 : w2.heap[w.heap.size]? = some (.cells #[.int .i64 r, u] 29 (0, 0))) (e2 : w2.heap[w.heap.size + 1]? = some (.cells #[.int .i64 0, .slice none 0 0] 29 (0, 0))) : TakeR w r ys (w3.setCell ⟨w.heap.size, 1, none⟩ v) := by
  obtain ⟨a, c, hv⟩ := OffRow.shape h.row
  refine ⟨v, a, c, hv, set1 ((h.below.block _ (by omega)).trans e1) _, ?_, OffRow.kept h.row fun k hk => Below.heap_setCell _ _ _ _ ?_, fun k hk => by have := h.own k hk; omega, (hb.trans (h.below.mono hb.size)).setCell (Nat.le_refl _) _, h.some_⟩
  · rw [Below.heap_setCell _ _ _ _ (by show w.heap.size + 1 ≠ w.heap.size; omega)]
    exact (h.below.block _ (by omega)).trans e2
  · show k ≠ w.heap.size
    have := h.own k hk
    omega
theorem TakeR.drew {w : World} {r : Nat} {ys : List ByteArray} {wx : World} (h : TakeR w r ys wx) : TakeR w r ys wx.drew := by
  obtain ⟨v', a, c, h0, h1, h2, h3, h4, h5, h6⟩ := h
  exact ⟨v', a, c, h0, h1, h2, h3.kept fun _ _ => rfl, h4, h5.drew, h6⟩

set_option maxHeartbeats 4000000 in
theorem rtake_yes (r : Nat) (v : Value) (xs : List ByteArray) (n : Nat) (w : World) (h : RowS w v xs) (hl : xs.length ≤ 64) (hn : n < xs.length) :
    Calls Try.prog 24 #[refV r v, .int .i64 n] w (RefS w r v (xs.eraseIdx n) [.string xs[n], .bool true]) := by
  have hi : inside xs n = true := decide_eq_true (by omega)
  obtain ⟨_, ⟨_, h0⟩ | ⟨g, o, cap, cur, hv, _, hcap, hmx, _⟩⟩ := id h
  · omega
  subst hv
  obtain ⟨e1, e2, hb, hs⟩ := box2_at w r (.slice (some ⟨g, o, none⟩) xs.length cap)
  obtain ⟨w1, hw1⟩ : ∃ w1, w1 = box2 w r (.slice (some ⟨g, o, none⟩) xs.length cap) := ⟨_, rfl⟩
  rw [← hw1] at e1 e2 hb hs
  unfold box2 at hw1
  obtain ⟨c0, c1, _⟩ := cells2 e1
  obtain ⟨i9, hi9, hz9, hs9, hb9⟩ := info_parts info9
  have D := rthere_any r (.slice (some ⟨g, o, none⟩) xs.length cap) xs n w1 (RowS.below h hb) hl
  rw [hi] at D
  have D := Lib.hid D
  have hel : xs.eraseIdx n = (xs.drop 0).take n ++ (xs.drop (n + 1)).take (xs.length - (n + 1)) := by
    rw [List.eraseIdx_eq_take_drop_succ, List.drop_zero, List.take_of_length_le (l := xs.drop (n + 1)) (by simp)]
  have HEL := Lib.hid hel
  obtain ⟨L, hL⟩ : ∃ L, L = xs.length := ⟨_, rfl⟩
  obtain ⟨x, hx⟩ : ∃ x, x = xs[n] := ⟨_, rfl⟩
  have hxs : xs[n]? = some x := by rw [hx]; exact List.getElem?_eq_getElem hn
  have HXS := Lib.hid hxs
  rw [← hx]
  have HX := Lib.hid hx
  unfold refV at D ⊢
  have HR := Lib.hid h
  rw [← hL] at D c1 hcap hn hl hw1 e1 ⊢
  have HW := Lib.hid hw1
  have E1 := Lib.hid e1
  have E2 := Lib.hid e2
  have HB := Lib.hid hb
  have HS := Lib.hid hs
  have HL := Lib.hid hL
  have m1 : (n : Int) < (L : Int) := by omega
  have m2 : (L : Int) ≤ (cap : Int) := by omega
  have m3 : (n : Int) ≤ (L : Int) := by omega
  have m4 : (n : Int) + 1 ≤ (L : Int) := by omega
  have m5 : (n : Int) ≤ (cap : Int) := by omega
  have m6 : L ≤ 64 := hl
  have m7 : (L : Int) ≤ 64 := by omega
  have m9 : (0 : Int) ≤ (n : Int) + 1 := by omega
  have hwr : IntKind.i64.wrap ((n : Int) + 1) = (n : Int) + 1 := by rw [IntKind.wrap_i64]; omega
  clear h e1 e2 hb hs hw1 hi hel hx hxs hL
  go_enter Try.func24, Try.ntmps24
  go_upto_region 1 with fail
  rw [← HW.out]
  go_wp2_with fail
  refine D.out.mono ?_
  rintro e w2 ⟨rfl, hb2⟩
  have e1 := (hb2.block w.heap.size (by rw [HS.out]; omega)).trans E1.out
  have e2 := (hb2.block (w.heap.size + 1) (by rw [HS.out]; omega)).trans E2.out
  obtain ⟨y0, y1, yf⟩ := cells2 e1
  obtain ⟨z0, z1, zf⟩ := cells2 e2
  have hB2 := HB.out.trans (hb2.mono (by rw [HS.out]; omega))
  have hr2 := RowS.below HR.out hB2
  have hs2 : w.heap.size + 2 ≤ w2.heap.size := by have := hb2.size; rw [HS.out] at this; exact this
  obtain ⟨g', o', cap', hv', q⟩ := OffRow.cells hr2 (i := n) (u := .string x) (by rw [List.getElem?_map, HXS.out]; rfl)
  simp only [Value.slice.injEq, Option.some.injEq, Addr.mk.injEq, and_true, true_and] at hv'
  obtain ⟨⟨rfl, rfl⟩, rfl⟩ := hv'
  have HB2 := Lib.hid hB2
  have HR2 := Lib.hid hr2
  have E1' := Lib.hid e1
  have E2' := Lib.hid e2
  have HS2 := Lib.hid hs2
  have y1' : ∀ u, (w2.alloc u).cell? ⟨w.heap.size, 1, none⟩ = some (.slice (some ⟨g, o, none⟩) L cap) := fun u => (World.cell?_of_block (w := w2) (Below.heap_alloc _ _ _ (by show w.heap.size < w2.heap.size; omega))).trans y1
  have yf' : ∀ u i, (w2.alloc u).frozen? ⟨w.heap.size, i, none⟩ = false := fun u i => (World.frozen?_of_block (w := w2) (Below.heap_alloc _ _ _ (by show w.heap.size < w2.heap.size; omega))).trans (yf i)
  clear hb2 e1 e2 c0 c1 hB2 hr2 hs2
  go_upto_region 4 with fail
  go_cut [29] (fun s29 wx => TakeR w r (xs.eraseIdx n) wx)
  case first =>
    by_cases hc : cap = n + 1
    · subst hc
      have hLn : L = n + 1 := by omega
      subst hLn
      have m8 : (n : Int) ≤ (n : Int) + 1 := by omega
      go_region_law (first
                                 | (refine step_append_at rfl (.tmp 18) (.tmp 22) 27 27 9 rfl i9 _ 1 16 Try.underlying27 hi9 hz9 hs9 hb9 rfl (.slice (some ⟨w2.heap.size, 0, none⟩) 0 0) (.slice (some ⟨g, o, none⟩) n (n + 1)) 0 [] (by simp [Act.eval, Act.put]) (by simp [Act.eval, Act.put]) (row_none (heap_alloc_new w2 _)) n (((xs.drop 0).take n).map Value.string) (src_part (by exact RowS.kept HR2.out fun k hk => Below.heap_alloc _ _ _ (RowS.lt HR2.out k hk)) 0 n (n + 1) (by rw [← HL.out]; omega) (some ⟨g, o, none⟩) (fun g' o' e _ => by simpa using e) (fun _ => trivial) (fun e => by cases e) (fun _ _ => trivial)) (.inr (by simp [Value.ownBlock])) (by unfold maxLen; omega) (by omega) ?_;
                                        intro v1 w3 ho1 hg1 hn1;
                                        have C := copied_first (w := w2) (xs := (xs.drop 0).take n) ho1 rfl (by rw [List.drop_zero, List.length_take, ← HL.out]; omega) ⟨hg1.os, hg1.tape, hg1.output, hg1.size, hg1.block⟩ (by simpa [Value.ownBlock] using hn1);
                                        have t1 : w3.cell? ⟨w.heap.size, 1, none⟩ = some (.slice (some ⟨g, o, none⟩) (n + 1) (n + 1)) := (World.cell?_of_block (w := w2) (C.below.block _ (by show w.heap.size < w2.heap.size; have := HS2.out; omega))).trans y1;
                                        have tf : ∀ i, w3.frozen? ⟨w.heap.size, i, none⟩ = false := fun i => (World.frozen?_of_block (w := w2) (C.below.block _ (by show w.heap.size < w2.heap.size; have := HS2.out; omega))).trans (yf i);
                                        have C1 := Lib.hid C;
                                        clear ho1 hg1 hn1 C)
                                 | (refine step_append_at rfl (.tmp 23) (.tmp 28) 27 27 9 rfl i9 _ 1 16 Try.underlying27 hi9 hz9 hs9 hb9 rfl v1 (.slice (some ⟨g, o, none⟩) 0 0) n (((xs.drop 0).take n).map Value.string) (by simp [Act.eval, Act.put]) (by simp [Act.eval, Act.put]) (by have := C1.out.row; rw [List.drop_zero, List.length_take, ← HL.out, Nat.min_eq_left (by omega)] at this; exact this) 0 (((xs.drop (n + 1)).take 0).map Value.string) (src_part (by exact RowS.below HR2.out C1.out.below) (n + 1) 0 0 (by rw [← HL.out]; omega) (some ⟨g, o, none⟩) (fun g' o' e hm => by omega) (fun _ => trivial) (fun e => by cases e) (fun _ _ => trivial)) (.inr C1.out.some_) (by unfold maxLen; omega) (by omega) ?_;
                                        intro v2 w4 ho2 hg2 hn2;
                                        have C := C1.out.more (ys := (xs.drop (n + 1)).take 0) ho2 rfl (by rw [List.drop_zero, List.length_take, ← HL.out]; omega) (by simp) (Below.refl _ _) hg2 hn2;
                                        obtain ⟨a2, cap2, rfl⟩ := ho2.shape;
                                        have t1 : w4.cell? ⟨w.heap.size, 1, none⟩ = some (.slice (some ⟨g, o, none⟩) (n + 1) (n + 1)) := (World.cell?_of_block (w := w2) (C.below.block _ (by show w.heap.size < w2.heap.size; have := HS2.out; omega))).trans y1;
                                        have tf : ∀ i, w4.frozen? ⟨w.heap.size, i, none⟩ = false := fun i => (World.frozen?_of_block (w := w2) (C.below.block _ (by show w.heap.size < w2.heap.size; have := HS2.out; omega))).trans (yf i);
                                        have C2 := Lib.hid C;
                                        clear ho2 hg2 hn2 C))
      all_goals
        go_wp2_with fail
        go_meet
        have hC := C2.out
        have hel : xs.eraseIdx n = (xs.drop 0).take n ++ (xs.drop (n + 1)).take 0 := by rw [HEL.out, show xs.length - (n + 1) = 0 by rw [← HL.out]; omega]
        rw [← hel] at hC
        exact takeR_of HB2.out HS2.out hC E1'.out E2'.out
    · have hc2 : ¬ (cap : Int) = (n : Int) + 1 := by omega
      go_region_law (first
                                 | (refine step_append_at rfl (.tmp 18) (.tmp 22) 27 27 9 rfl i9 _ 1 16 Try.underlying27 hi9 hz9 hs9 hb9 rfl (.slice (some ⟨w2.heap.size, 0, none⟩) 0 0) (.slice (some ⟨g, o, none⟩) n cap) 0 [] (by simp [Act.eval, Act.put]) (by simp [Act.eval, Act.put]) (row_none (heap_alloc_new w2 _)) n (((xs.drop 0).take n).map Value.string) (src_part (by exact RowS.kept HR2.out fun k hk => Below.heap_alloc _ _ _ (RowS.lt HR2.out k hk)) 0 n cap (by rw [← HL.out]; omega) (some ⟨g, o, none⟩) (fun g' o' e _ => by simpa using e) (fun _ => trivial) (fun e => by cases e) (fun _ _ => trivial)) (.inr (by simp [Value.ownBlock])) (by unfold maxLen; omega) (by omega) ?_;
                                        intro v1 w3 ho1 hg1 hn1;
                                        have C := copied_first (w := w2) (xs := (xs.drop 0).take n) ho1 rfl (by rw [List.drop_zero, List.length_take, ← HL.out]; omega) ⟨hg1.os, hg1.tape, hg1.output, hg1.size, hg1.block⟩ (by simpa [Value.ownBlock] using hn1);
                                        have t1 : w3.cell? ⟨w.heap.size, 1, none⟩ = some (.slice (some ⟨g, o, none⟩) L cap) := (World.cell?_of_block (w := w2) (C.below.block _ (by show w.heap.size < w2.heap.size; have := HS2.out; omega))).trans y1;
                                        have tf : ∀ i, w3.frozen? ⟨w.heap.size, i, none⟩ = false := fun i => (World.frozen?_of_block (w := w2) (C.below.block _ (by show w.heap.size < w2.heap.size; have := HS2.out; omega))).trans (yf i);
                                        have C1 := Lib.hid C;
                                        clear ho1 hg1 hn1 C)
                                 | (refine step_append_at rfl (.tmp 23) (.tmp 28) 27 27 9 rfl i9 _ 1 16 Try.underlying27 hi9 hz9 hs9 hb9 rfl v1 (.slice (some ⟨g, o + (n + 1), none⟩) (L - (n + 1)) (cap - (n + 1))) n (((xs.drop 0).take n).map Value.string) (by simp [Act.eval, Act.put]) (by simp [Act.eval, Act.put]) (by have := C1.out.row; rw [List.drop_zero, List.length_take, ← HL.out, Nat.min_eq_left (by omega)] at this; exact this) (L - (n + 1)) (((xs.drop (n + 1)).take (L - (n + 1))).map Value.string) (src_part (by exact RowS.below HR2.out C1.out.below) (n + 1) (L - (n + 1)) (cap - (n + 1)) (by rw [← HL.out]; omega) (some ⟨g, o + (n + 1), none⟩) (fun g' o' e _ => by simp only [Option.some.injEq, Addr.mk.injEq, and_true] at e; obtain ⟨rfl, rfl⟩ := e; rfl) (fun _ => trivial) (fun e => by cases e) (fun _ _ => trivial)) (.inr C1.out.some_) (by unfold maxLen; omega) (by omega) ?_;
                                        intro v2 w4 ho2 hg2 hn2;
                                        have C := C1.out.more (ys := (xs.drop (n + 1)).take (L - (n + 1))) ho2 rfl (by rw [List.drop_zero, List.length_take, ← HL.out]; omega) (by rw [List.length_take, List.length_drop, ← HL.out]; omega) (Below.refl _ _) hg2 hn2;
                                        obtain ⟨a2, cap2, rfl⟩ := ho2.shape;
                                        have t1 : w4.cell? ⟨w.heap.size, 1, none⟩ = some (.slice (some ⟨g, o, none⟩) L cap) := (World.cell?_of_block (w := w2) (C.below.block _ (by show w.heap.size < w2.heap.size; have := HS2.out; omega))).trans y1;
                                        have tf : ∀ i, w4.frozen? ⟨w.heap.size, i, none⟩ = false := fun i => (World.frozen?_of_block (w := w2) (C.below.block _ (by show w.heap.size < w2.heap.size; have := HS2.out; omega))).trans (yf i);
                                        have C2 := Lib.hid C;
                                        clear ho2 hg2 hn2 C))
      all_goals
        go_wp2_with fail
        go_meet
        have hC := C2.out
        have hel : xs.eraseIdx n = (xs.drop 0).take n ++ (xs.drop (n + 1)).take (L - (n + 1)) := by rw [HL.out]; exact HEL.out
        rw [← hel] at hC
        exact takeR_of HB2.out HS2.out hC E1'.out E2'.out
  case rest =>
    obtain ⟨v', a', c', rfl, e1, e2, hr, ho, hb, hnn⟩ := hcut
    have HNN := Lib.hid hnn
    clear hnn
    obtain ⟨x0, x1, _⟩ := cells2 e1
    obtain ⟨u0, u1, uf⟩ := cells2 e2
    have G2 := Lib.hid e2
    have HO := Lib.hid ho
    have HBC := Lib.hid hb
    have HRC := Lib.hid hr
    clear e1 e2 hr ho hb y0 y1 yf z0 z1 zf y1' yf' q
    go_wp2_with fail
    have g2 := set2 G2.out (.int .i64 r) (.slice a' (xs.eraseIdx n).length c')
    have hb := below_sets HBC.out (Nat.le_succ _) (.int .i64 r) (.slice a' (xs.eraseIdx n).length c')
    have hr5 : RowS ((wc.setCell ⟨w.heap.size + 1, 0, none⟩ (.int .i64 r)).setCell ⟨w.heap.size + 1, 1, none⟩ (.slice a' (xs.eraseIdx n).length c')) (.slice a' (xs.eraseIdx n).length c') (xs.eraseIdx n) :=
      RowS.kept HRC.out fun k hk => (Below.heap_setCell _ _ _ _ (by show k ≠ w.heap.size + 1; have := HO.out k hk; omega)).trans (Below.heap_setCell _ _ _ _ (by show k ≠ w.heap.size + 1; have := HO.out k hk; omega))
    clear x0 x1 u0 u1 uf HW
    generalize ((World.setCell _ _ _).setCell _ _) = W5 at *
    obtain ⟨p0, p1, _⟩ := cells2 g2
    have hfin : RefS w r (.slice (some ⟨g, o, none⟩) L cap) (xs.eraseIdx n) [.string x, .bool true] (.returned (.tuple #[.agg #[.int .i64 r, .slice a' (xs.eraseIdx n).length c'], .string x, .bool true])) W5 := RefS.of hr5 (fun k hk => by have := HO.out k hk; omega) hb HNN.out
    refine bodyPost_ret (v := .tuple #[.agg #[.int .i64 r, .slice a' (xs.eraseIdx n).length c'], .string x, .bool true]) ?_ rfl hfin
    clear hfin g2 hb hr5 G2 HO HBC HRC HNN
    simp only [results, Try.f24]
    go_simp
end Go.Proofs.Ytgfklfpjibjhmaa

/-
  The document's Forget.
-/
import Derived.Test.YtoeekjooigijbaaRbox
namespace Go.Proofs.Ytoeekjooigijbaa
open Go.RowKit
set_option linter.unusedVariables false
set_option linter.unusedSimpArgs false

/-- A part of a row of things, as append takes it. -/
theorem src_th {w : World} {g o n cap : Nat} {l : List Th} (h : RowT w (.slice (some ⟨g, o, none⟩) n cap) l) (k m c : Nat) (hm : k + m ≤ l.length) (g' o' : Nat) (ha : 0 < m → g' = g ∧ o' = o + k * 2) :
    Src Try.prog 2 27 (.slice (some ⟨g', o', none⟩) m c) m (flat ((l.drop k).take m)) w := by
  have e : flat ((l.drop k).take m) = ((flat l).drop (k * 2)).take (m * 2) := by rw [flat_drop, flat_take]
  have hlen : (flat ((l.drop k).take m)).length = m * 2 := by rw [flat_len, List.length_take, List.length_drop, Nat.min_eq_left (by omega)]
  refine Src.ofSlice _ Try.underlying27 _ _ _ _ hlen (fun j u hu => ?_) (flat_one _)
  have hj := (List.getElem?_eq_some_iff.1 hu).1
  rw [hlen] at hj
  obtain ⟨rfl, rfl⟩ := ha (by omega)
  rw [e, List.getElem?_take, if_pos hj, List.getElem?_drop] at hu
  obtain ⟨g2, o2, c2, hv, hc⟩ := OffRow.cells h hu
  simp only [Value.slice.injEq, Option.some.injEq, Addr.mk.injEq, and_true] at hv
  obtain ⟨⟨rfl, rfl⟩, _⟩ := hv
  rw [addr_add, Nat.add_assoc]
  exact hc
/-- '[]Thing{}'. -/
theorem made_none (w : World) : Made w (w.alloc (.cells #[] 64)) 64 2 (.slice (some ⟨w.heap.size, 0, none⟩) 0 0) 0 [] :=
  ⟨⟨rfl, .inr ⟨w.heap.size, 0, 0, _, rfl, heap_alloc_new w _, Nat.le_refl _, Nat.zero_le _, by simp, rfl⟩⟩, fun k hk => by simp [Value.ownBlock] at hk; omega, (Below.refl _ w).alloc (Nat.le_refl _) _⟩
theorem made_first {w w' : World} {v' : Value} {m : Nat} {news : List Value} (hr : OffRow w' 64 2 v' (0 + m) ([] ++ news)) (hg : (w.alloc (.cells #[] 64)).grownBy w' (some w.heap.size)) (ho : v'.ownBlock = some w.heap.size ∨ v'.ownBlock = some (w.alloc (.cells #[] 64)).heap.size) : Made w w' 64 2 v' m news := by
  have h := (made_none w).more (Below.refl _ _) hr (by simpa [Value.ownBlock] using hg) (by simpa [Value.ownBlock] using ho)
  rw [Nat.zero_add, List.nil_append] at h
  exact h
theorem nn_of {w : World} {v' : Value} {a b : Nat} (ho : v'.ownBlock = some a ∨ v'.ownBlock = some b) : v'.ownBlock ≠ none := by rcases ho with e | e <;> rw [e] <;> simp
theorem RB.set1 {w wx w' : World} {X Y size asked : Nat} {tv0 cv0 tv cv : Value} {l : List Th} {cs : Cs} (h : RB w X Y wx size tv0 cv0 tv cv l cs asked) {tv' : Value} {l' : List Th} (hm : Made wx w' 64 2 tv' l'.length (flat l')) : RB w X Y (w'.setCell ⟨X, 1, none⟩ tv') size tv0 cv0 tv' cv l' cs asked := by
  have ex := (hm.below.block X (lt_of_block h.x)).trans h.x
  have ey := (hm.below.block Y (lt_of_block h.y)).trans h.y
  have hs := h.below.size
  have hc := h.c.below hm.below
  refine ⟨?_, (Below.heap_setCell _ _ _ _ (Ne.symm h.ne)).trans ey, OffRow.kept hm.row fun k hk => Below.heap_setCell _ _ _ _ ?_, hc.kept fun k hk => Below.heap_setCell _ _ _ _ ?_, fun k hk => ?_, h.oc, h.hx, h.hy, h.ne, (h.below.trans (hm.below.mono hs)).setCell h.hx _⟩
  · simp only [World.setCell, Array.getElem?_modify, if_pos rfl, ex]; rfl
  · rintro rfl; exact off_ne hm.row ex (by decide) hk
  · rintro rfl; exact off_ne hc ex (by decide) hk
  · exact .inr (Nat.le_trans hs (hm.own k hk))

theorem forgetS_eq {s : St} (k : ByteArray) : forgetS s k = match place s.all k with | some i => (⟨s.size, s.all.eraseIdx i, s.cs, s.asked⟩, true) | none => (⟨s.size, s.all, s.cs, s.asked⟩, false) := by
  unfold forgetS
  cases place s.all k <;> rfl

set_option maxHeartbeats 4000000 in
set_option maxRecDepth 100000 in
theorem rforget_any (s : St) (tv cv : Value) (k : ByteArray) (w : World) (hi : Inv s) (ht : RowT w tv s.all) (hc : RowC w cv s.cs) :
    Calls Try.prog 18 #[refV s.size tv cv s.asked, .string k] w (RefPost w tv cv (forgetS s k).1 [.bool (forgetS s k).2]) := by
  rw [forgetS_eq]
  obtain ⟨ta, tc, rfl⟩ := OffRow.shape ht
  obtain ⟨ca, cc, rfl⟩ := OffRow.shape hc
  obtain ⟨i64, hi64, hz64, hs64, hb64⟩ := info_parts info64
  have h0 := box2_start s.size s.asked ht hc
  obtain ⟨w1, hw1⟩ : ∃ w1, w1 = (w.alloc (.cells #[.int .i64 s.size, .slice ta s.all.length tc, .slice ca s.cs.length cc, .int .i64 s.asked] 30)).alloc (.cells #[.int .i64 0, .slice none 0 0, .slice none 0 0, .int .i64 0] 30 (0, 0)) := ⟨_, rfl⟩
  rw [← hw1] at h0
  have D1 := rfind_any s.size s.asked (.slice ta s.all.length tc) (.slice ca s.cs.length cc) s.all k w1 h0.t (by have := hi.all_le; omega)
  have HI := Lib.hid hi
  have H0 := Lib.hid h0
  have HW := Lib.hid hw1
  unfold refV at D1 ⊢
  have D1 := Lib.hid D1
  clear ht hc h0 hw1 hi
  cases hp : place s.all k with
  | none =>
    have e : placeI s.all k = -1 := by unfold placeI; rw [hp]
    rw [e] at D1
    clear e hp
    go_enter Try.func18, Try.ntmps18
    go_upto_region 1 with fail
    rw [← HW.out]
    obtain ⟨x0, x1, x2, x3, xf⟩ := cells4 H0.out.x
    go_wp2_with fail
    refine D1.out.mono ?_
    rintro e w2 ⟨rfl, hb⟩
    have h2 := H0.out.keep hb
    have H2 := Lib.hid h2
    obtain ⟨z0, z1, z2, z3, zf⟩ := cells4 h2.x
    obtain ⟨d0, d1, d2, d3, df⟩ := cells4 h2.y
    clear hb h2 x0 x1 x2 x3 xf
    go_wp2_with fail
    have ⟨g2, hfin⟩ := H2.out.same
    unfold put4 at g2 hfin
    generalize ((((World.setCell _ _ _).setCell _ _).setCell _ _).setCell _ _) = W9 at *
    obtain ⟨p0, p1, p2, p3, _⟩ := cells4 g2
    refine bodyPost_ret (v := .tuple #[.agg #[.int .i64 s.size, .slice ta s.all.length tc, .slice ca s.cs.length cc, .int .i64 s.asked], .bool false]) ?_ rfl ⟨_, _, rfl, hfin⟩
    clear g2 hfin HI H0 HW H2 D1 i64 hi64 hz64 hs64 hb64 z0 z1 z2 z3 zf d0 d1 d2 d3 df
    simp only [results, Try.f18]
    go_simp
  | some i =>
    dsimp only
    obtain ⟨p, hpi, hpk, _⟩ := place_lt hp
    have e : placeI s.all k = i := by unfold placeI; rw [hp]
    rw [e] at D1
    have hin := (List.getElem?_eq_some_iff.1 hpi).1
    obtain ⟨_, ⟨_, h0⟩ | ⟨g, o, cap, cur, hv, _, hcap, hmx, _⟩⟩ := id H0.out.t
    · omega
    simp only [Value.slice.injEq, true_and] at hv
    obtain ⟨rfl, rfl⟩ := hv
    have hel : s.all.eraseIdx i = (s.all.drop 0).take i ++ (s.all.drop (i + 1)).take (s.all.length - (i + 1)) := by
      rw [List.eraseIdx_eq_take_drop_succ, List.drop_zero, List.take_of_length_le (l := s.all.drop (i + 1)) (by simp)]
    have HEL := Lib.hid hel
    obtain ⟨ys, hys⟩ : ∃ ys, ys = s.all.eraseIdx i := ⟨_, rfl⟩
    have HYS := Lib.hid hys
    rw [← hys] at hel ⊢
    obtain ⟨L, hL⟩ : ∃ L, L = s.all.length := ⟨_, rfl⟩
    have HL := Lib.hid hL
    rw [← hL] at D1 hin hcap HW H0 ⊢
    have hl : L ≤ 64 := by rw [hL]; exact HI.out.all_le
    have m1 : (i : Int) < (L : Int) := by omega
    have m2 : (L : Int) ≤ (tc : Int) := by omega
    have m3 : (i : Int) ≤ (L : Int) := by omega
    have m4 : (i : Int) + 1 ≤ (L : Int) := by omega
    have m5 : (i : Int) ≤ (tc : Int) := by omega
    have m7 : (L : Int) ≤ 64 := by omega
    have m9 : (0 : Int) ≤ (i : Int) + 1 := by omega
    have hwr : IntKind.i64.wrap ((i : Int) + 1) = (i : Int) + 1 := by rw [IntKind.wrap_i64]; omega
    clear e hp hpi hpk hel hys hL
    go_enter Try.func18, Try.ntmps18
    go_upto_region 1 with fail
    rw [← HW.out]
    obtain ⟨x0, x1, x2, x3, xf⟩ := cells4 H0.out.x
    go_wp2_with fail
    refine D1.out.mono ?_
    rintro e w2 ⟨rfl, hb⟩
    have h2 := H0.out.keep hb
    have H2 := Lib.hid h2
    obtain ⟨z0, z1, z2, z3, zf⟩ := cells4 h2.x
    have hlx := lt_of_block h2.x
    have z1' : ∀ u, (w2.alloc u).cell? ⟨w.heap.size, 1, none⟩ = some (.slice (some ⟨g, o, none⟩) L tc) := fun u => (World.cell?_of_block (w := w2) (Below.heap_alloc _ _ _ hlx)).trans z1
    have zf' : ∀ u i, (w2.alloc u).frozen? ⟨w.heap.size, i, none⟩ = false := fun u i => (World.frozen?_of_block (w := w2) (Below.heap_alloc _ _ _ hlx)).trans (zf i)
    have HLX := Lib.hid hlx
    clear hb h2 x0 x1 x2 x3 xf hlx
    go_upto_region 4 with fail
    go_cut [] (fun wx => ∃ tv1, RB w w.heap.size (w.heap.size + 1) wx s.size (.slice (some ⟨g, o, none⟩) L tc) (.slice ca s.cs.length cc) tv1 (.slice ca s.cs.length cc) ys s.cs s.asked)
    case first =>
      by_cases hc : tc = i + 1
      · subst hc
        have hLn : L = i + 1 := by omega
        subst hLn
        have m8 : (i : Int) ≤ (i : Int) + 1 := by omega
        go_region_law (first
                                         | (refine step_append_at rfl (.tmp 13) (.tmp 17) 27 27 64 rfl i64 _ 2 32 Try.underlying27 hi64 hz64 hs64 hb64 rfl (.slice (some ⟨w2.heap.size, 0, none⟩) 0 0) (.slice (some ⟨g, o, none⟩) i (i + 1)) 0 [] (by simp [Act.eval, Act.put]) (by simp [Act.eval, Act.put]) (by exact (made_none w2).row) i (flat ((s.all.drop 0).take i)) (src_th (by exact OffRow.kept H2.out.t fun k hk => Below.heap_alloc _ _ _ (OffRow.lt H2.out.t k hk)) 0 i (i + 1) (by rw [← HL.out]; omega) g o (fun _ => ⟨rfl, by omega⟩)) (.inr (by simp [Value.ownBlock])) (by unfold maxLen; omega) (by omega) ?_;
                                                intro v1 w3 ho1 hg1 hn1;
                                                have M := made_first (w := w2) ho1 ⟨hg1.os, hg1.tape, hg1.output, hg1.size, hg1.block⟩ (by simpa [Value.ownBlock] using hn1);
                                                have t1 : w3.cell? ⟨w.heap.size, 1, none⟩ = some (.slice (some ⟨g, o, none⟩) (i + 1) (i + 1)) := (World.cell?_of_block (w := w2) (M.below.block _ HLX.out)).trans z1;
                                                have tf : ∀ i, w3.frozen? ⟨w.heap.size, i, none⟩ = false := fun i => (World.frozen?_of_block (w := w2) (M.below.block _ HLX.out)).trans (zf i);
                                                have M1 := Lib.hid M;
                                                have NN := Lib.hid (nn_of (w := w) hn1);
                                                clear ho1 hg1 hn1 M)
                                         | (refine step_append_at rfl (.tmp 18) (.tmp 23) 27 27 64 rfl i64 _ 2 32 Try.underlying27 hi64 hz64 hs64 hb64 rfl v1 (.slice (some ⟨g, o, none⟩) (0) (0)) i (flat ((s.all.drop 0).take i)) (by simp [Act.eval, Act.put]) (by simp [Act.eval, Act.put]) (by exact M1.out.row) (0) (flat ((s.all.drop (i + 1)).take (0))) (src_th (by exact RowT.below H2.out.t M1.out.below) (i + 1) (0) (0) (by rw [← HL.out]; omega) g (o) (fun h => by first | omega | exact ⟨rfl, rfl⟩)) (.inr NN.out) (by unfold maxLen; omega) (by omega) ?_;
                                                intro v2 w4 ho2 hg2 hn2;
                                                have M := M1.out.more (Below.refl _ _) ho2 hg2 hn2;
                                                obtain ⟨a2, cap2, rfl⟩ := ho2.shape;
                                                have t1 : w4.cell? ⟨w.heap.size, 1, none⟩ = some (.slice (some ⟨g, o, none⟩) (i + 1) (i + 1)) := (World.cell?_of_block (w := w2) (M.below.block _ HLX.out)).trans z1;
                                                have tf : ∀ i, w4.frozen? ⟨w.heap.size, i, none⟩ = false := fun i => (World.frozen?_of_block (w := w2) (M.below.block _ HLX.out)).trans (zf i);
                                                have M2 := Lib.hid M;
                                                clear ho2 hg2 hn2 M))
        all_goals
          go_wp2_with fail
          go_meet
          have hM : Made w2 w4 64 2 (.slice a2 i cap2) i _ := M2.out
          have ey : ys = (s.all.drop 0).take i ++ (s.all.drop (i + 1)).take 0 := by rw [HYS.out, HEL.out, show s.all.length - (i + 1) = 0 by rw [← HL.out]; omega]
          rw [← flat_append, ← ey] at hM
          have hl : ys.length = i := by rw [HYS.out, List.length_eraseIdx_of_lt (by rw [← HL.out]; omega), ← HL.out]; omega
          clear ey
          have hM' : Made w2 w4 64 2 (.slice a2 (i) cap2) ys.length (flat ys) := by rw [hl]; exact hM
          exact ⟨_, H2.out.set1 hM'⟩
      · have hc2 : ¬ (tc : Int) = (i : Int) + 1 := by omega
        go_region_law (first
                                         | (refine step_append_at rfl (.tmp 13) (.tmp 17) 27 27 64 rfl i64 _ 2 32 Try.underlying27 hi64 hz64 hs64 hb64 rfl (.slice (some ⟨w2.heap.size, 0, none⟩) 0 0) (.slice (some ⟨g, o, none⟩) i tc) 0 [] (by simp [Act.eval, Act.put]) (by simp [Act.eval, Act.put]) (by exact (made_none w2).row) i (flat ((s.all.drop 0).take i)) (src_th (by exact OffRow.kept H2.out.t fun k hk => Below.heap_alloc _ _ _ (OffRow.lt H2.out.t k hk)) 0 i tc (by rw [← HL.out]; omega) g o (fun _ => ⟨rfl, by omega⟩)) (.inr (by simp [Value.ownBlock])) (by unfold maxLen; omega) (by omega) ?_;
                                                intro v1 w3 ho1 hg1 hn1;
                                                have M := made_first (w := w2) ho1 ⟨hg1.os, hg1.tape, hg1.output, hg1.size, hg1.block⟩ (by simpa [Value.ownBlock] using hn1);
                                                have t1 : w3.cell? ⟨w.heap.size, 1, none⟩ = some (.slice (some ⟨g, o, none⟩) L tc) := (World.cell?_of_block (w := w2) (M.below.block _ HLX.out)).trans z1;
                                                have tf : ∀ i, w3.frozen? ⟨w.heap.size, i, none⟩ = false := fun i => (World.frozen?_of_block (w := w2) (M.below.block _ HLX.out)).trans (zf i);
                                                have M1 := Lib.hid M;
                                                have NN := Lib.hid (nn_of (w := w) hn1);
                                                clear ho1 hg1 hn1 M)
                                         | (refine step_append_at rfl (.tmp 18) (.tmp 23) 27 27 64 rfl i64 _ 2 32 Try.underlying27 hi64 hz64 hs64 hb64 rfl v1 (.slice (some ⟨g, o + (i + 1) * 2, none⟩) (L - (i + 1)) (tc - (i + 1))) i (flat ((s.all.drop 0).take i)) (by simp [Act.eval, Act.put]) (by simp [Act.eval, Act.put]) (by exact M1.out.row) (L - (i + 1)) (flat ((s.all.drop (i + 1)).take (L - (i + 1)))) (src_th (by exact RowT.below H2.out.t M1.out.below) (i + 1) (L - (i + 1)) (tc - (i + 1)) (by rw [← HL.out]; omega) g (o + (i + 1) * 2) (fun h => by first | omega | exact ⟨rfl, rfl⟩)) (.inr NN.out) (by unfold maxLen; omega) (by omega) ?_;
                                                intro v2 w4 ho2 hg2 hn2;
                                                have M := M1.out.more (Below.refl _ _) ho2 hg2 hn2;
                                                obtain ⟨a2, cap2, rfl⟩ := ho2.shape;
                                                have t1 : w4.cell? ⟨w.heap.size, 1, none⟩ = some (.slice (some ⟨g, o, none⟩) L tc) := (World.cell?_of_block (w := w2) (M.below.block _ HLX.out)).trans z1;
                                                have tf : ∀ i, w4.frozen? ⟨w.heap.size, i, none⟩ = false := fun i => (World.frozen?_of_block (w := w2) (M.below.block _ HLX.out)).trans (zf i);
                                                have M2 := Lib.hid M;
                                                clear ho2 hg2 hn2 M))
        all_goals
          go_wp2_with fail
          go_meet
          have hM := M2.out
          have ey : ys = (s.all.drop 0).take i ++ (s.all.drop (i + 1)).take (L - (i + 1)) := by rw [HYS.out, HEL.out, HL.out]
          rw [← flat_append, ← ey] at hM
          have hl : ys.length = i + (L - (i + 1)) := by rw [HYS.out, List.length_eraseIdx_of_lt (by rw [← HL.out]; omega), ← HL.out]; omega
          clear ey
          have hM' : Made w2 w4 64 2 (.slice a2 (i + (L - (i + 1))) cap2) ys.length (flat ys) := by rw [hl]; exact hM
          exact ⟨_, H2.out.set1 hM'⟩
    case rest =>
      obtain ⟨tv1, h3⟩ := hcut
      obtain ⟨a3, c3, rfl⟩ := OffRow.shape h3.t
      have H3 := Lib.hid h3
      obtain ⟨y0, y1, y2, y3, yf⟩ := cells4 h3.x
      obtain ⟨d0, d1, d2, d3, df⟩ := cells4 h3.y
      clear h3 z0 z1 z2 z3 zf z1' zf' H2
      go_wp2_with fail
      have ⟨g2, hfin⟩ := H3.out.same
      unfold put4 at g2 hfin
      generalize ((((World.setCell _ _ _).setCell _ _).setCell _ _).setCell _ _) = W9 at *
      obtain ⟨p0, p1, p2, p3, _⟩ := cells4 g2
      refine bodyPost_ret (v := .tuple #[.agg #[.int .i64 s.size, .slice a3 ys.length c3, .slice ca s.cs.length cc, .int .i64 s.asked], .bool true]) ?_ rfl ⟨_, _, rfl, hfin⟩
      clear g2 hfin HI H0 HW H3 D1 i64 hi64 hz64 hs64 hb64 y0 y1 y2 y3 yf d0 d1 d2 d3 df HEL HYS HL HLX
      simp only [results, Try.f18]
      go_simp
end Go.Proofs.Ytoeekjooigijbaa

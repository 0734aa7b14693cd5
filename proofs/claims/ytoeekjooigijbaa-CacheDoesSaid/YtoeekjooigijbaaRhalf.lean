/-
  The document's halved.
-/
import Derived.Test.YtoeekjooigijbaaApp
namespace Go.Proofs.Ytoeekjooigijbaa
open Go.RowKit
set_option linter.unusedVariables false
set_option linter.unusedSimpArgs false

theorem setAll {w : World} {b : Nat} {a0 a1 a2 a3 : Value} (h : w.heap[b]? = some (.cells #[a0, a1, a2, a3] 30 (0, 0))) (x0 x1 x2 x3 : Value) :
    ((((w.setCell ⟨b, 0, none⟩ x0).setCell ⟨b, 1, none⟩ x1).setCell ⟨b, 2, none⟩ x2).setCell ⟨b, 3, none⟩ x3).heap[b]? = some (.cells #[x0, x1, x2, x3] 30 (0, 0)) := by
  have h0 : (w.setCell ⟨b, 0, none⟩ x0).heap[b]? = some (.cells #[x0, a1, a2, a3] 30 (0, 0)) := by simp only [World.setCell, Array.getElem?_modify, if_pos rfl, h]; rfl
  generalize w.setCell ⟨b, 0, none⟩ x0 = w0 at *
  have h1 : (w0.setCell ⟨b, 1, none⟩ x1).heap[b]? = some (.cells #[x0, x1, a2, a3] 30 (0, 0)) := by simp only [World.setCell, Array.getElem?_modify, if_pos rfl, h0]; rfl
  generalize w0.setCell ⟨b, 1, none⟩ x1 = w1 at *
  simp only [World.setCell, Array.getElem?_modify, if_pos rfl, h1]
  rfl
theorem set23 {w : World} {b : Nat} {a0 a1 a2 a3 : Value} (h : w.heap[b]? = some (.cells #[a0, a1, a2, a3] 30 (0, 0))) (x2 x3 : Value) : ((w.setCell ⟨b, 2, none⟩ x2).setCell ⟨b, 3, none⟩ x3).heap[b]? = some (.cells #[a0, a1, x2, x3] 30 (0, 0)) := by
  simp only [World.setCell, Array.getElem?_modify, if_pos rfl, h]
  rfl

theorem halved_succ (cs : Cs) (j : Nat) {p : ByteArray × Nat} (hp : cs[j]? = some p) : halved (cs.take (j + 1)) = halved (cs.take j) ++ if 1 < p.2 then [(p.1, p.2 / 2)] else [] := by
  unfold halved
  rw [List.take_add_one, hp, List.filterMap_append]
  by_cases h : 1 < p.2 <;> simp [h]

theorem src_cells {W : World} {t e : TypeId} (ht : Try.prog.underlying t = some (.slice e)) {b : Nat} (vs : List Value) (size : Nat) (hl : vs.length = size) (h1 : ∀ u ∈ vs, u.oneCell' = true) (h : W.heap[b]? = some (.cells vs.toArray e (0, 0))) : Src Try.prog size t (.slice (some ⟨b, 0, none⟩) 1 1) 1 vs W := by
  refine Src.ofSlice _ ht ⟨b, 0, none⟩ 1 1 _ (by omega) (fun j u hu => ?_) h1
  rw [addr_add, Nat.zero_add]
  simp only [World.cell?, h]
  simpa using hu
theorem made_box {w w1 w2 w' : World} {e : TypeId} {size : Nat} {v : Value} {n : Nat} {vs : List Value} (h : Made w w1 e size v n vs) (hb : Below w1.heap.size w1 w2) (hg : w2.grownBy w' v.ownBlock) {k : Nat} {cur : Array Value} {e' : TypeId} (hk : w1.heap[k]? = some (.cells cur e' (0, 0))) (he : e' ≠ e) :
    w'.heap[k]? = some (.cells cur e' (0, 0)) := by
  have hlt := lt_of_block hk
  refine (hg.block k (Nat.lt_of_lt_of_le hlt hb.size) (fun e1 => ?_)).trans ((hb.block k hlt).trans hk)
  rcases h.row.2 with ⟨e0, _⟩ | ⟨g', o', cap', cur', e0, hg', _⟩
  · rw [e0] at e1; simp [Value.ownBlock] at e1
  · rw [e0] at e1
    simp only [Value.ownBlock, Option.some.injEq] at e1
    rw [← e1, hk] at hg'
    simp at hg'
    exact he hg'.2

def zero30 : Obj := .cells #[.int .i64 0, .slice none 0 0, .slice none 0 0, .int .i64 0] 30 (0, 0)

set_option maxHeartbeats 4000000 in
set_option maxRecDepth 100000 in
theorem rhalved_any (size asked : Nat) (tv : Value) (cv : Value) (cs : Cs) (w : World) (h : RowC w cv cs) (hl : cs.length ≤ 2000) (hc : ∀ p ∈ cs, p.2 ≤ 15) (htv : ∃ b c d, tv = .slice b c d) :
    Calls Try.prog 32 #[refV size tv cv asked] w fun e w' => ∃ cv', e = .returned (refV size tv cv' 0) ∧ Made w w' 69 2 cv' (halved cs).length (flatC (halved cs)) := by
  obtain ⟨a, cap, hv⟩ := OffRow.shape h
  subst hv
  obtain ⟨tb, tc, td, htv⟩ := htv
  subst htv
  obtain ⟨i69, hi69, hz69, hs69, hb69⟩ := info_parts info69
  obtain ⟨n, hn⟩ : ∃ n, n = cs.length := ⟨_, rfl⟩
  have HR := Lib.hid h
  have HCC := Lib.hid hc
  rw [← hn] at hl ⊢
  have HN := Lib.hid hn
  obtain ⟨w1, hw1⟩ : ∃ w1, w1 = (w.alloc (.cells #[.int .i64 size, .slice tb tc td, .slice a n cap, .int .i64 asked] 30)).alloc zero30 := ⟨_, rfl⟩
  have hb : Below w.heap.size w w1 := by rw [hw1]; exact ((Below.refl _ w).alloc (Nat.le_refl _) _).alloc (by simp) _
  have e1 : w1.heap[w.heap.size]? = some (.cells #[.int .i64 size, .slice tb tc td, .slice a n cap, .int .i64 asked] 30 (0, 0)) := by
    rw [hw1, Below.heap_alloc _ _ _ (by simp)]
    exact heap_alloc_new w _
  have e2 : w1.heap[w.heap.size + 1]? = some zero30 := by
    rw [hw1]
    simpa using heap_alloc_new (w.alloc (.cells #[.int .i64 size, .slice tb tc td, .slice a n cap, .int .i64 asked] 30)) zero30
  unfold zero30 at hw1 e2
  have HW := Lib.hid hw1
  have HB := Lib.hid hb
  have E1 := Lib.hid e1
  have E2 := Lib.hid e2
  unfold refV
  clear h hc hn hw1 hb e1 e2
  go_enter Try.func32, Try.ntmps32
  go_upto_region 1 with fail
  rw [← HW.out]
  go_wp2_with fail
  go_loopw [3, 4] (fun s3 s4 wr => ∃ j : Nat, j ≤ n ∧ s4 = .int .i64 j ∧ Made w wr 69 2 s3 (halved (cs.take j)).length (flatC (halved (cs.take j))) ∧ wr.heap[w.heap.size]? = some (.cells #[.int .i64 size, .slice tb tc td, .slice a n cap, .int .i64 asked] 30 (0, 0)) ∧ wr.heap[w.heap.size + 1]? = some (.cells #[.int .i64 0, .slice none 0 0, .slice none 0 0, .int .i64 0] 30 (0, 0))) (fun _ s4 _ => n - (intOf s4).toNat)
  case atStart => exact ⟨0, Nat.zero_le _, rfl, by simpa [halved, flatC] using Made.start w 69 2 HB.out, E1.out, E2.out⟩
  case round =>
    obtain ⟨j, hj, rfl, hm, hx, hy⟩ := hrel
    obtain ⟨c0, c1, c2, c3, cf⟩ := cells4 hx
    have HM := Lib.hid hm
    have HX := Lib.hid hx
    have HY := Lib.hid hy
    by_cases hjn : j < n
    · obtain ⟨p, hp⟩ : ∃ p, cs[j]? = some p := ⟨_, List.getElem?_eq_getElem (by rw [← HN.out]; exact hjn)⟩
      obtain ⟨f0, f1⟩ := flatC_at _ _ _ hp
      obtain ⟨g, o, cap', hv, q0, q1⟩ := cell2 (RowC.below HR.out hm.below) f0 f1
      simp only [Value.slice.injEq, true_and] at hv
      obtain ⟨rfl, hnl, rfl⟩ := hv
      have y1 : (j : Int) < (n : Int) := by omega
      have hp15 := HCC.out p (List.mem_of_getElem? hp)
      have hsu := halved_succ cs j hp
      have ROWS := Lib.hid (fun (w' : World) (hb : Below w.heap.size w w') => (show w'.cell? ⟨g, o + j * 2, none⟩ = some (.string p.1) ∧ w'.cell? ⟨g, o + j * 2 + 1, none⟩ = some (.int .i64 p.2) from by
        obtain ⟨g', o', c', hv', q0', q1'⟩ := cell2 (RowC.below HR.out hb) f0 f1
        simp only [Value.slice.injEq, Option.some.injEq, Addr.mk.injEq, and_true] at hv'
        obtain ⟨⟨rfl, rfl⟩, _, rfl⟩ := hv'
        exact ⟨q0', q1'⟩))
      clear f0 f1 hp hm hx hy
      by_cases h1 : 1 < p.2
      · have y2 : (1 : Int) < (p.2 : Int) := by omega
        have y3 : decide (1 < p.2) = true := decide_eq_true h1
        rw [if_pos h1] at hsu
        have HSU := Lib.hid hsu
        clear hsu
        have HQ : Hid ((p.2 : Int) / 2 = ((p.2 / 2 : Nat) : Int)) := Lib.hid (by omega)
        have hp15i : (p.2 : Int) ≤ 15 := by omega
        have hwr : IntKind.i64.wrap ((p.2 : Int) / 2) = (p.2 : Int) / 2 := by rw [IntKind.wrap_i64]; omega
        obtain ⟨a3, q3, rfl⟩ := OffRow.shape HM.out.row
        have hml : (halved (cs.take j)).length ≤ 2000 := by
          unfold halved
          exact Nat.le_trans (List.length_filterMap_le _ _) (by rw [List.length_take]; omega)
        go_upto_region 6 with fail
        go_region_held3 (fun w' => w'.cell? ⟨w.heap.size, 2, none⟩ = some (.slice (some ⟨g, o, none⟩) n cap) ∧ w'.cell? ⟨g, o + j * 2, none⟩ = some (.string p.1) ∧ w'.cell? ⟨g, o + j * 2 + 1, none⟩ = some (.int .i64 p.2)) (first | assumption | (refine ⟨?_, ?_, ?_⟩ <;> assumption) | go_keep)
                                  (first
                                    | (refine step_append_at rfl (.tmp 19) (.tmp 34) 28 28 69 rfl i69 _ 2 24 Try.underlying28 hi69 hz69 hs69 hb69 rfl (.slice a3 (halved (cs.take j)).length q3) (.slice (some ⟨wr.heap.size, 0, none⟩) 1 1) (halved (cs.take j)).length (flatC (halved (cs.take j))) (by simp [Act.eval, Act.put]) (by simp [Act.eval, Act.put]) (by exact OffRow.kept HM.out.row fun k hk => Below.heap_alloc _ _ _ (OffRow.lt HM.out.row k hk)) 1 [.string p.1, .int .i64 ((p.2 : Int) / 2)] (by exact src_cells Try.underlying28 [.string p.1, .int .i64 ((p.2 : Int) / 2)] 2 rfl (by simp [Value.oneCell']) (by exact heap_alloc_new wr _)) (.inl (by omega)) (by unfold maxLen; omega) (by omega) ?_;
                                       intro v1 w2 ho1 hg1 hn1;
                                       obtain ⟨a4, q4, rfl⟩ := ho1.shape;
                                       have hg2 : (wr.alloc (.cells #[.string p.1, .int .i64 ((p.2 : Int) / 2)] 69)).grownBy w2 (Value.slice a3 (halved (cs.take j)).length q3).ownBlock := ⟨hg1.os, hg1.tape, hg1.output, hg1.size, hg1.block⟩;
                                       have M := HM.out.more ((Below.refl _ wr).alloc (Nat.le_refl _) _) ho1 hg2 (by simpa using hn1);
                                       have B1 := made_box HM.out ((Below.refl _ wr).alloc (Nat.le_refl _) _) hg2 HX.out (by decide);
                                       have B2 := made_box HM.out ((Below.refl _ wr).alloc (Nat.le_refl _) _) hg2 HY.out (by decide);
                                       obtain ⟨t0, t1, t2, t3, tf⟩ := cells4 B1;
                                       obtain ⟨r0, r1⟩ := ROWS.out w2 M.below;
                                       have M1 := Lib.hid (And.intro M (And.intro B1 B2));
                                       clear ho1 hg1 hn1 hg2 M B1 B2))
        all_goals
          go_wp2_with fail
          obtain ⟨M, B1, B2⟩ := M1.out
          refine ⟨⟨j + 1, by omega, by go_num, ?_, B1, B2⟩, by simp [intOf]; omega⟩
          rw [HSU.out, flatC_append, List.length_append]
          rw [HQ.out] at M
          exact M
      · have y2 : ¬ (1 : Int) < (p.2 : Int) := by omega
        have y3 : decide (1 < p.2) = false := decide_eq_false h1
        rw [if_neg h1, List.append_nil] at hsu
        have HSU := Lib.hid hsu
        clear hsu
        go_wp2_with fail
        refine ⟨⟨j + 1, by omega, by go_num, ?_, HX.out, HY.out⟩, by simp [intOf]; omega⟩
        rw [HSU.out]
        exact HM.out
    · have y1 : ¬ (j : Int) < (n : Int) := by omega
      have hjn : j = n := by omega
      have hm := HM.out
      rw [hjn, List.take_of_length_le (by rw [← HN.out]; omega)] at hm
      have HM2 := Lib.hid hm
      obtain ⟨d0, d1, d2, d3, df⟩ := cells4 HY.out
      obtain ⟨a3, q3, rfl⟩ := OffRow.shape HM2.out.row
      clear hm hx hy HM
      go_upto_region 9 with fail
      have e1 := set23 HX.out (.slice a3 (halved cs).length q3) (.int .i64 0)
      have e2 : ((wr.setCell ⟨w.heap.size, 2, none⟩ (.slice a3 (halved cs).length q3)).setCell ⟨w.heap.size, 3, none⟩ (.int .i64 0)).heap[w.heap.size + 1]? = some (.cells #[.int .i64 0, .slice none 0 0, .slice none 0 0, .int .i64 0] 30 (0, 0)) := by
        rw [Below.heap_setCell _ _ _ _ (by show w.heap.size + 1 ≠ w.heap.size; omega), Below.heap_setCell _ _ _ _ (by show w.heap.size + 1 ≠ w.heap.size; omega)]
        exact HY.out
      have hm9 : Made w ((wr.setCell ⟨w.heap.size, 2, none⟩ (.slice a3 (halved cs).length q3)).setCell ⟨w.heap.size, 3, none⟩ (.int .i64 0)) 69 2 (.slice a3 (halved cs).length q3) (halved cs).length (flatC (halved cs)) := by
        have hne : ∀ k, (Value.slice a3 (halved cs).length q3).ownBlock = some k → k ≠ w.heap.size := fun k hk e => by
          subst e
          rcases HM2.out.row.2 with ⟨e0, _⟩ | ⟨g', o', cap', cur', e0, hg', _⟩
          · rw [e0] at hk; simp [Value.ownBlock] at hk
          · rw [e0] at hk
            simp only [Value.ownBlock, Option.some.injEq] at hk
            rw [hk, HX.out] at hg'
            simp at hg'
        exact ⟨OffRow.kept HM2.out.row fun k hk => (Below.heap_setCell _ _ _ _ (hne k hk)).trans (Below.heap_setCell _ _ _ _ (hne k hk)), HM2.out.own, (HM2.out.below.setCell (Nat.le_refl _) _).setCell (Nat.le_refl _) _⟩
      generalize ((World.setCell _ _ _).setCell _ _) = w8 at *
      obtain ⟨x0, x1, x2, x3, xf⟩ := cells4 e1
      clear d0 d1 d2 d3 df c0 c1 c2 c3 cf
      obtain ⟨d0, d1, d2, d3, df⟩ := cells4 e2
      have E2' := Lib.hid e2
      have HM9 := Lib.hid hm9
      clear e1 e2 hm9
      go_wp2_with fail
      have g2 := setAll E2'.out (.int .i64 size) (.slice tb tc td) (.slice a3 (halved cs).length q3) (.int .i64 0)
      have hne : ∀ k, (Value.slice a3 (halved cs).length q3).ownBlock = some k → k ≠ w.heap.size + 1 := fun k hk e => by
        subst e
        rcases HM9.out.row.2 with ⟨e0, _⟩ | ⟨g', o', cap', cur', e0, hg', _⟩
        · rw [e0] at hk; simp [Value.ownBlock] at hk
        · rw [e0] at hk
          simp only [Value.ownBlock, Option.some.injEq] at hk
          rw [hk, E2'.out] at hg'
          simp at hg'
      have hm10 : Made w ((((w8.setCell ⟨w.heap.size + 1, 0, none⟩ (.int .i64 size)).setCell ⟨w.heap.size + 1, 1, none⟩ (.slice tb tc td)).setCell ⟨w.heap.size + 1, 2, none⟩ (.slice a3 (halved cs).length q3)).setCell ⟨w.heap.size + 1, 3, none⟩ (.int .i64 0)) 69 2 (.slice a3 (halved cs).length q3) (halved cs).length (flatC (halved cs)) :=
        ⟨OffRow.kept HM9.out.row fun k hk => (Below.heap_setCell _ _ _ _ (hne k hk)).trans ((Below.heap_setCell _ _ _ _ (hne k hk)).trans ((Below.heap_setCell _ _ _ _ (hne k hk)).trans (Below.heap_setCell _ _ _ _ (hne k hk)))), HM9.out.own,
          (((HM9.out.below.setCell (Nat.le_succ _) _).setCell (Nat.le_succ _) _).setCell (Nat.le_succ _) _).setCell (Nat.le_succ _) _⟩
      generalize ((((World.setCell _ _ _).setCell _ _).setCell _ _).setCell _ _) = W9 at *
      obtain ⟨p0, p1, p2, p3, _⟩ := cells4 g2
      refine bodyPost_ret (v := .agg #[.int .i64 size, .slice tb tc td, .slice a3 (halved cs).length q3, .int .i64 0]) ?_ rfl ⟨_, rfl, hm10⟩
      clear g2 hne hm10 HM9 E2' HM2 HX HY x0 x1 x2 x3 xf d0 d1 d2 d3 df E1 E2 HB HW HR HCC
      simp only [results, Try.f32]
      go_simp
end Go.Proofs.Ytoeekjooigijbaa

/-
  The document's counted.
-/
import Derived.Test.YtoeekjooigijbaaRfirst
namespace Go.Proofs.Ytoeekjooigijbaa
open Go.RowKit
set_option linter.unusedVariables false
set_option linter.unusedSimpArgs false

def upd (l : Cs) (k : ByteArray) : Cs := l.map fun p => if p.1 = k then (p.1, min (p.2 + 1) 15) else p
theorem upd_succ (l : Cs) (k : ByteArray) (j : Nat) {p : ByteArray × Nat} (hp : l[j]? = some p) : upd (l.take (j + 1)) k = upd (l.take j) k ++ [if p.1 = k then (p.1, min (p.2 + 1) 15) else p] := by
  unfold upd
  rw [List.take_add_one, hp, List.map_append]
  rfl
theorem there_succ (l : Cs) (k : ByteArray) (j : Nat) {p : ByteArray × Nat} (hp : l[j]? = some p) : there (l.take (j + 1)) k = (there (l.take j) k || decide (p.1 = k)) := by
  unfold there
  rw [List.take_add_one, hp, List.any_append]
  simp
theorem counted_upd (l : Cs) (k : ByteArray) : counted l k = upd l k ++ if there l k then [] else [(k, 1)] := by
  unfold counted
  cases h : there l k with
  | true => simp [upd]
  | false =>
    have : upd l k = l := by
      unfold upd
      unfold there at h
      rw [List.any_eq_false] at h
      rw [List.map_congr_left (g := id) fun p hp => by have := h p hp; simp at this; simp [this], List.map_id]
    rw [this]
    simp
theorem upd_len (l : Cs) (k : ByteArray) (j : Nat) : (upd (l.take j) k).length ≤ l.length := by
  unfold upd
  rw [List.length_map, List.length_take]
  omega

set_option maxHeartbeats 4000000 in
set_option maxRecDepth 100000 in
theorem rcounted_any (size asked : Nat) (tv cv : Value) (l : Cs) (k : ByteArray) (w : World) (h : RowC w cv l) (hl : l.length ≤ 2000) (hc : ∀ p ∈ l, p.2 ≤ 15) (htv : ∃ b c d, tv = .slice b c d) (hask : asked ≤ 2000) :
    Calls Try.prog 29 #[refV size tv cv asked, .string k] w fun e w' => ∃ cv', e = .returned (refV size tv cv' (asked + 1)) ∧ Made w w' 69 2 cv' (counted l k).length (flatC (counted l k)) := by
  obtain ⟨cb, cc, cd, rfl⟩ := htv
  obtain ⟨a, cap, hv⟩ := OffRow.shape h
  subst hv
  obtain ⟨i69, hi69, hz69, hs69, hb69⟩ := info_parts info69
  obtain ⟨n, hn⟩ : ∃ n, n = l.length := ⟨_, rfl⟩
  have HR := Lib.hid h
  have HCC := Lib.hid hc
  rw [← hn] at hl ⊢
  have HN := Lib.hid hn
  obtain ⟨w1, hw1⟩ : ∃ w1, w1 = (w.alloc (.cells #[.int .i64 size, .slice cb cc cd, .slice a n cap, .int .i64 asked] 30)).alloc zero30 := ⟨_, rfl⟩
  have hb : Below w.heap.size w w1 := by rw [hw1]; exact ((Below.refl _ w).alloc (Nat.le_refl _) _).alloc (by simp) _
  have e1 : w1.heap[w.heap.size]? = some (.cells #[.int .i64 size, .slice cb cc cd, .slice a n cap, .int .i64 asked] 30 (0, 0)) := by
    rw [hw1, Below.heap_alloc _ _ _ (by simp)]
    exact heap_alloc_new w _
  have e2 : w1.heap[w.heap.size + 1]? = some zero30 := by
    rw [hw1]
    simpa using heap_alloc_new (w.alloc (.cells #[.int .i64 size, .slice cb cc cd, .slice a n cap, .int .i64 asked] 30)) zero30
  unfold zero30 at hw1 e2
  have hs1 : w1.heap.size = w.heap.size + 2 := by rw [hw1]; simp
  have HW := Lib.hid hw1
  have HB := Lib.hid hb
  have E1 := Lib.hid e1
  have E2 := Lib.hid e2
  have HS1 := Lib.hid hs1
  unfold refV
  clear h hc hn hw1 hb e1 e2 hs1
  go_enter Try.func29, Try.ntmps29
  go_upto_region 1 with fail
  rw [← HW.out]
  go_wp2_with fail
  go_loopw [5, 6, 7, 8] (fun s5 s6 s7 _ wr => ∃ j : Nat, j ≤ n ∧ s7 = .int .i64 j ∧ s6 = .bool (there (l.take j) k) ∧ Made w1 wr 69 2 s5 (upd (l.take j) k).length (flatC (upd (l.take j) k))) (fun _ _ s7 _ _ => n - (intOf s7).toNat)
  case atStart => exact ⟨0, Nat.zero_le _, rfl, rfl, Made.start w1 69 2 (Below.refl _ _)⟩
  case round =>
    obtain ⟨j, hj, rfl, rfl, hm⟩ := hrel
    have HM := Lib.hid hm
    have hx := (hm.below.block w.heap.size (by rw [HS1.out]; omega)).trans E1.out
    obtain ⟨c0, c1, c2, c3, cf⟩ := cells4 hx
    have HX := Lib.hid hx
    by_cases hjn : j < n
    · obtain ⟨p, hp⟩ : ∃ p, l[j]? = some p := ⟨_, List.getElem?_eq_getElem (by rw [← HN.out]; exact hjn)⟩
      obtain ⟨f0, f1⟩ := flatC_at _ _ _ hp
      obtain ⟨g, o, cap', hv, q0, q1⟩ := cell2 (RowC.below HR.out (HB.out.trans (hm.below.mono HB.out.size))) f0 f1
      simp only [Value.slice.injEq, true_and] at hv
      obtain ⟨rfl, _, rfl⟩ := hv
      have y1 : (j : Int) < (n : Int) := by omega
      have hp15 := HCC.out p (List.mem_of_getElem? hp)
      have hp15i : (p.2 : Int) ≤ 15 := by omega
      have hsu := upd_succ l k j hp
      have hth := there_succ l k j hp
      have hol := upd_len l k j
      rw [← HN.out] at hol
      obtain ⟨a3, q3, rfl⟩ := OffRow.shape HM.out.row
      clear f0 f1 hp hm hx
      by_cases e : p.1 = k
      · have y2 : (p.1.toList == k.toList) = true := by rw [str_beq]; exact decide_eq_true e
        rw [decide_eq_true e, Bool.or_true] at hth
        have HTH := Lib.hid hth
        by_cases h15 : p.2 + 1 ≤ 15
        · rw [if_pos e, Nat.min_eq_left h15, e] at hsu
          have HSU := Lib.hid hsu
          have m1 : (p.2 : Int) + 1 ≤ 15 := by omega
          clear hsu hth
          have BW := Lib.hid (((Below.refl wr.heap.size wr).alloc (Nat.le_refl _) (.cells #[.string k, .int .i64 ((p.2 : Int) + 1)] 69)).alloc (by simp) (.cells #[.string k, .int .i64 ((p.2 : Int) + 1)] 69))
          go_wp2_with (at_builtin; refine wpList_append_off rfl (.tmp 30) (.tmp 32) 28 28 69 rfl i69 _ 2 24 Try.underlying28 hi69 hz69 hs69 hb69 rfl _ (upd (l.take j) k).length (flatC (upd (l.take j) k)) rfl (OffRow.kept HM.out.row fun q hq => (BW.out.block q (OffRow.lt HM.out.row q hq))) 1 [.string k, .int .i64 ((p.2 : Int) + 1)] (by exact src_cells Try.underlying28 [.string k, .int .i64 ((p.2 : Int) + 1)] 2 rfl (by simp [Value.oneCell']) (by have := heap_alloc_new (wr.alloc (.cells #[.string k, .int .i64 ((p.2 : Int) + 1)] 69)) (.cells #[.string k, .int .i64 ((p.2 : Int) + 1)] 69); rw [World.size_alloc] at this; exact this)) (.inl (by omega)) (by unfold maxLen; omega) (by omega) ?_)
          intro v1 w4 ho1 hg1 hn1
          have hm1 := HM.out.more BW.out ho1 hg1 (by simpa using hn1)
          have M1 := Lib.hid hm1
          clear ho1 hg1 hn1 hm1 HM c0 c1 c2 c3 cf q0 q1
          go_wp2_with fail
          refine ⟨⟨j + 1, by omega, by go_num, by rw [HTH.out], ?_⟩, by simp [intOf]; omega⟩
          have hsu := HSU.out
          rw [hsu, flatC_append, List.length_append]
          exact M1.out
        · rw [if_pos e, Nat.min_eq_right (by omega), e] at hsu
          have HSU := Lib.hid hsu
          have m1 : ¬ (p.2 : Int) + 1 ≤ 15 := by omega
          have m2 : (15 : Int) < (p.2 : Int) + 1 := by omega
          clear hsu hth
          have BW := Lib.hid (((Below.refl wr.heap.size wr).alloc (Nat.le_refl _) (.cells #[.string k, .int .i64 15] 69)).alloc (by simp) (.cells #[.string k, .int .i64 15] 69))
          go_wp2_with (at_builtin; refine wpList_append_off rfl (.tmp 30) (.tmp 32) 28 28 69 rfl i69 _ 2 24 Try.underlying28 hi69 hz69 hs69 hb69 rfl _ (upd (l.take j) k).length (flatC (upd (l.take j) k)) rfl (OffRow.kept HM.out.row fun q hq => (BW.out.block q (OffRow.lt HM.out.row q hq))) 1 [.string k, .int .i64 15] (by exact src_cells Try.underlying28 [.string k, .int .i64 15] 2 rfl (by simp [Value.oneCell']) (by have := heap_alloc_new (wr.alloc (.cells #[.string k, .int .i64 15] 69)) (.cells #[.string k, .int .i64 15] 69); rw [World.size_alloc] at this; exact this)) (.inl (by omega)) (by unfold maxLen; omega) (by omega) ?_)
          intro v1 w4 ho1 hg1 hn1
          have hm1 := HM.out.more BW.out ho1 hg1 (by simpa using hn1)
          have M1 := Lib.hid hm1
          clear ho1 hg1 hn1 hm1 HM c0 c1 c2 c3 cf q0 q1
          go_wp2_with fail
          refine ⟨⟨j + 1, by omega, by go_num, by rw [HTH.out], ?_⟩, by simp [intOf]; omega⟩
          have hsu := HSU.out
          rw [hsu, flatC_append, List.length_append]
          exact M1.out
      · have y2 : (p.1.toList == k.toList) = false := by rw [str_beq]; exact decide_eq_false e
        rw [decide_eq_false e, Bool.or_false] at hth
        have HTH := Lib.hid hth
        rw [if_neg e] at hsu
        have HSU := Lib.hid hsu
        clear hsu hth e
        have BW := Lib.hid (((Below.refl wr.heap.size wr).alloc (Nat.le_refl _) (.cells #[.string p.1, .int .i64 (p.2 : Int)] 69)).alloc (by simp) (.cells #[.string p.1, .int .i64 (p.2 : Int)] 69))
        go_wp2_with (at_builtin; refine wpList_append_off rfl (.tmp 30) (.tmp 32) 28 28 69 rfl i69 _ 2 24 Try.underlying28 hi69 hz69 hs69 hb69 rfl _ (upd (l.take j) k).length (flatC (upd (l.take j) k)) rfl (OffRow.kept HM.out.row fun q hq => (BW.out.block q (OffRow.lt HM.out.row q hq))) 1 [.string p.1, .int .i64 (p.2 : Int)] (by exact src_cells Try.underlying28 [.string p.1, .int .i64 (p.2 : Int)] 2 rfl (by simp [Value.oneCell']) (by have := heap_alloc_new (wr.alloc (.cells #[.string p.1, .int .i64 (p.2 : Int)] 69)) (.cells #[.string p.1, .int .i64 (p.2 : Int)] 69); rw [World.size_alloc] at this; exact this)) (.inl (by omega)) (by unfold maxLen; omega) (by omega) ?_)
        intro v1 w4 ho1 hg1 hn1
        have hm1 := HM.out.more BW.out ho1 hg1 (by simpa using hn1)
        have M1 := Lib.hid hm1
        clear ho1 hg1 hn1 hm1 HM c0 c1 c2 c3 cf q0 q1
        go_wp2_with fail
        refine ⟨⟨j + 1, by omega, by go_num, by rw [HTH.out], ?_⟩, by simp [intOf]; omega⟩
        have hsu := HSU.out
        rw [hsu, flatC_append, List.length_append]
        exact M1.out
    · have y1 : ¬ (j : Int) < (n : Int) := by omega
      have hjn : j = n := by omega
      have hm := HM.out
      rw [hjn, List.take_of_length_le (by rw [← HN.out]; omega)] at hm
      rw [hjn, List.take_of_length_le (by rw [← HN.out]; omega)]
      have hcu := counted_upd l k
      cases hth : there l k with
      | true =>
        rw [hth, if_pos rfl, List.append_nil] at hcu
        rw [← hcu] at hm
        obtain ⟨a4, q4, rfl⟩ := OffRow.shape hm.row
        obtain ⟨W9, hW9⟩ : ∃ W9, W9 = wr := ⟨_, rfl⟩
        rw [← hW9] at hm ⊢
        have M9 := Lib.hid hm
        clear hm hx c0 c1 c2 c3 cf HM HX hcu hth hW9
        have hx := (M9.out.below.block w.heap.size (by rw [HS1.out]; omega)).trans E1.out
        have hy := (M9.out.below.block (w.heap.size + 1) (by rw [HS1.out]; omega)).trans E2.out
        obtain ⟨c0, c1, c2, c3, cf⟩ := cells4 hx
        have HX := Lib.hid hx
        have HY := Lib.hid hy
        have hwr : IntKind.i64.wrap ((asked : Int) + 1) = (asked : Int) + 1 := by rw [IntKind.wrap_i64]; omega
        have hai : (asked : Int) ≤ 2000 := by omega
        clear hx hy
        go_upto_region 15 with fail
        have e1 := set23 HX.out (.slice a4 (counted l k).length q4) (.int .i64 ((asked : Int) + 1))
        have e2 : ((W9.setCell ⟨w.heap.size, 2, none⟩ (.slice a4 (counted l k).length q4)).setCell ⟨w.heap.size, 3, none⟩ (.int .i64 ((asked : Int) + 1))).heap[w.heap.size + 1]? = some (.cells #[.int .i64 0, .slice none 0 0, .slice none 0 0, .int .i64 0] 30 (0, 0)) := by
          rw [Below.heap_setCell _ _ _ _ (by show w.heap.size + 1 ≠ w.heap.size; omega), Below.heap_setCell _ _ _ _ (by show w.heap.size + 1 ≠ w.heap.size; omega)]
          exact HY.out
        have hne : ∀ q, (Value.slice a4 (counted l k).length q4).ownBlock = some q → w.heap.size + 2 ≤ q := fun q hq => by have := M9.out.own q hq; rw [HS1.out] at this; exact this
        have hr9 := OffRow.kept (w' := (W9.setCell ⟨w.heap.size, 2, none⟩ (.slice a4 (counted l k).length q4)).setCell ⟨w.heap.size, 3, none⟩ (.int .i64 ((asked : Int) + 1))) M9.out.row fun q hq => (Below.heap_setCell _ _ _ _ (by show q ≠ w.heap.size; have := hne q hq; omega)).trans (Below.heap_setCell _ _ _ _ (by show q ≠ w.heap.size; have := hne q hq; omega))
        have hbw : Below w.heap.size w ((W9.setCell ⟨w.heap.size, 2, none⟩ (.slice a4 (counted l k).length q4)).setCell ⟨w.heap.size, 3, none⟩ (.int .i64 ((asked : Int) + 1))) := ((HB.out.trans (M9.out.below.mono HB.out.size)).setCell (Nat.le_refl _) _).setCell (Nat.le_refl _) _
        generalize ((World.setCell _ _ _).setCell _ _) = w8 at *
        obtain ⟨x0, x1, x2, x3, xf⟩ := cells4 e1
        clear c0 c1 c2 c3 cf
        obtain ⟨d0, d1, d2, d3, df⟩ := cells4 e2
        have E2' := Lib.hid e2
        have HBW := Lib.hid hbw
        have HR9 := Lib.hid hr9
        have HNE := Lib.hid hne
        clear e1 e2 hbw hr9 hne
        go_wp2_with fail
        have g2 := setAll E2'.out (.int .i64 size) (.slice cb cc cd) (.slice a4 (counted l k).length q4) (.int .i64 ((asked : Int) + 1))
        have hne : ∀ q, (Value.slice a4 (counted l k).length q4).ownBlock = some q → q ≠ w.heap.size + 1 := fun q hq => by have := HNE.out q hq; omega
        have hm10 : Made w ((((w8.setCell ⟨w.heap.size + 1, 0, none⟩ (.int .i64 size)).setCell ⟨w.heap.size + 1, 1, none⟩ (.slice cb cc cd)).setCell ⟨w.heap.size + 1, 2, none⟩ (.slice a4 (counted l k).length q4)).setCell ⟨w.heap.size + 1, 3, none⟩ (.int .i64 ((asked : Int) + 1))) 69 2 (.slice a4 (counted l k).length q4) (counted l k).length (flatC (counted l k)) :=
          ⟨OffRow.kept HR9.out fun q hq => (Below.heap_setCell _ _ _ _ (hne q hq)).trans ((Below.heap_setCell _ _ _ _ (hne q hq)).trans ((Below.heap_setCell _ _ _ _ (hne q hq)).trans (Below.heap_setCell _ _ _ _ (hne q hq)))), fun q hq => by have := HNE.out q hq; omega,
            (((HBW.out.setCell (Nat.le_succ _) _).setCell (Nat.le_succ _) _).setCell (Nat.le_succ _) _).setCell (Nat.le_succ _) _⟩
        generalize ((((World.setCell _ _ _).setCell _ _).setCell _ _).setCell _ _) = W10 at *
        obtain ⟨p0, p1, p2, p3, _⟩ := cells4 g2
        refine bodyPost_ret (v := .agg #[.int .i64 size, .slice cb cc cd, .slice a4 (counted l k).length q4, .int .i64 ((asked : Int) + 1)]) ?_ rfl ⟨_, rfl, hm10⟩
        clear g2 hne hm10 HR9 HNE HBW E2' M9 HX HY x0 x1 x2 x3 xf d0 d1 d2 d3 df E1 E2 HB HW HR HS1 HCC
        simp only [results, Try.f29]
        go_simp
      | false =>
        rw [hth, if_neg (by simp)] at hcu
        have HCU := Lib.hid hcu
        have hol := upd_len l k n
        rw [List.take_of_length_le (by rw [← HN.out]; omega), ← HN.out] at hol
        obtain ⟨a3, q3, rfl⟩ := OffRow.shape hm.row
        have HM2 := Lib.hid hm
        clear hm hx HM hcu hth
        go_wp2_with (at_builtin; refine wpList_append_off rfl (.tmp 36) (.tmp 39) 28 28 69 rfl i69 _ 2 24 Try.underlying28 hi69 hz69 hs69 hb69 rfl _ (upd l k).length (flatC (upd l k)) rfl (OffRow.kept HM2.out.row fun q hq => Below.heap_alloc _ _ _ (OffRow.lt HM2.out.row q hq)) 1 [.string k, .int .i64 1] (by exact src_new (w := wr) Try.underlying28 [.string k, .int .i64 1] 2 rfl (by simp [Value.oneCell'])) (.inl (by omega)) (by unfold maxLen; omega) (by omega) ?_)
        intro v1 W9 ho1 hg1 hn1
        have hm := HM2.out.more ((Below.refl _ wr).alloc (Nat.le_refl _) _) ho1 hg1 (by simpa using hn1)
        have hm9 : Made w1 W9 69 2 v1 (counted l k).length (flatC (counted l k)) := by
          rw [HCU.out, flatC_append, List.length_append]
          exact hm
        obtain ⟨a4, q4, rfl⟩ := OffRow.shape hm9.row
        have M9 := Lib.hid hm9
        clear hm hm9 ho1 hg1 hn1 HM2 HCU c0 c1 c2 c3 cf HX hol
        have hx := (M9.out.below.block w.heap.size (by rw [HS1.out]; omega)).trans E1.out
        have hy := (M9.out.below.block (w.heap.size + 1) (by rw [HS1.out]; omega)).trans E2.out
        obtain ⟨c0, c1, c2, c3, cf⟩ := cells4 hx
        have HX := Lib.hid hx
        have HY := Lib.hid hy
        have hwr : IntKind.i64.wrap ((asked : Int) + 1) = (asked : Int) + 1 := by rw [IntKind.wrap_i64]; omega
        have hai : (asked : Int) ≤ 2000 := by omega
        clear hx hy
        go_upto_region 15 with fail
        have e1 := set23 HX.out (.slice a4 (counted l k).length q4) (.int .i64 ((asked : Int) + 1))
        have e2 : ((W9.setCell ⟨w.heap.size, 2, none⟩ (.slice a4 (counted l k).length q4)).setCell ⟨w.heap.size, 3, none⟩ (.int .i64 ((asked : Int) + 1))).heap[w.heap.size + 1]? = some (.cells #[.int .i64 0, .slice none 0 0, .slice none 0 0, .int .i64 0] 30 (0, 0)) := by
          rw [Below.heap_setCell _ _ _ _ (by show w.heap.size + 1 ≠ w.heap.size; omega), Below.heap_setCell _ _ _ _ (by show w.heap.size + 1 ≠ w.heap.size; omega)]
          exact HY.out
        have hne : ∀ q, (Value.slice a4 (counted l k).length q4).ownBlock = some q → w.heap.size + 2 ≤ q := fun q hq => by have := M9.out.own q hq; rw [HS1.out] at this; exact this
        have hr9 := OffRow.kept (w' := (W9.setCell ⟨w.heap.size, 2, none⟩ (.slice a4 (counted l k).length q4)).setCell ⟨w.heap.size, 3, none⟩ (.int .i64 ((asked : Int) + 1))) M9.out.row fun q hq => (Below.heap_setCell _ _ _ _ (by show q ≠ w.heap.size; have := hne q hq; omega)).trans (Below.heap_setCell _ _ _ _ (by show q ≠ w.heap.size; have := hne q hq; omega))
        have hbw : Below w.heap.size w ((W9.setCell ⟨w.heap.size, 2, none⟩ (.slice a4 (counted l k).length q4)).setCell ⟨w.heap.size, 3, none⟩ (.int .i64 ((asked : Int) + 1))) := ((HB.out.trans (M9.out.below.mono HB.out.size)).setCell (Nat.le_refl _) _).setCell (Nat.le_refl _) _
        generalize ((World.setCell _ _ _).setCell _ _) = w8 at *
        obtain ⟨x0, x1, x2, x3, xf⟩ := cells4 e1
        clear c0 c1 c2 c3 cf
        obtain ⟨d0, d1, d2, d3, df⟩ := cells4 e2
        have E2' := Lib.hid e2
        have HBW := Lib.hid hbw
        have HR9 := Lib.hid hr9
        have HNE := Lib.hid hne
        clear e1 e2 hbw hr9 hne
        go_wp2_with fail
        have g2 := setAll E2'.out (.int .i64 size) (.slice cb cc cd) (.slice a4 (counted l k).length q4) (.int .i64 ((asked : Int) + 1))
        have hne : ∀ q, (Value.slice a4 (counted l k).length q4).ownBlock = some q → q ≠ w.heap.size + 1 := fun q hq => by have := HNE.out q hq; omega
        have hm10 : Made w ((((w8.setCell ⟨w.heap.size + 1, 0, none⟩ (.int .i64 size)).setCell ⟨w.heap.size + 1, 1, none⟩ (.slice cb cc cd)).setCell ⟨w.heap.size + 1, 2, none⟩ (.slice a4 (counted l k).length q4)).setCell ⟨w.heap.size + 1, 3, none⟩ (.int .i64 ((asked : Int) + 1))) 69 2 (.slice a4 (counted l k).length q4) (counted l k).length (flatC (counted l k)) :=
          ⟨OffRow.kept HR9.out fun q hq => (Below.heap_setCell _ _ _ _ (hne q hq)).trans ((Below.heap_setCell _ _ _ _ (hne q hq)).trans ((Below.heap_setCell _ _ _ _ (hne q hq)).trans (Below.heap_setCell _ _ _ _ (hne q hq)))), fun q hq => by have := HNE.out q hq; omega,
            (((HBW.out.setCell (Nat.le_succ _) _).setCell (Nat.le_succ _) _).setCell (Nat.le_succ _) _).setCell (Nat.le_succ _) _⟩
        generalize ((((World.setCell _ _ _).setCell _ _).setCell _ _).setCell _ _) = W10 at *
        obtain ⟨p0, p1, p2, p3, _⟩ := cells4 g2
        refine bodyPost_ret (v := .agg #[.int .i64 size, .slice cb cc cd, .slice a4 (counted l k).length q4, .int .i64 ((asked : Int) + 1)]) ?_ rfl ⟨_, rfl, hm10⟩
        clear g2 hne hm10 HR9 HNE HBW E2' M9 HX HY x0 x1 x2 x3 xf d0 d1 d2 d3 df E1 E2 HB HW HR HS1 HCC
        simp only [results, Try.f29]
        go_simp
end Go.Proofs.Ytoeekjooigijbaa

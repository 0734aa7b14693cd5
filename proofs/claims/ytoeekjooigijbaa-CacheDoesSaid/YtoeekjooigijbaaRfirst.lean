/-
  The document's first.
-/
import Derived.Test.YtoeekjooigijbaaRhalf
namespace Go.Proofs.Ytoeekjooigijbaa
open Go.RowKit
set_option linter.unusedVariables false
set_option linter.unusedSimpArgs false

def others (l : List Th) (k : ByteArray) : List Th := l.filter fun p => !decide (p.1 = k)
theorem others_succ (l : List Th) (k : ByteArray) (j : Nat) {p : Th} (hp : l[j]? = some p) : others (l.take (j + 1)) k = others (l.take j) k ++ if p.1 = k then [] else [p] := by
  unfold others
  rw [List.take_add_one, hp, List.filter_append]
  by_cases h : p.1 = k <;> simp [h]
theorem others_len (l : List Th) (k : ByteArray) (j : Nat) : (others (l.take j) k).length ≤ l.length := by
  unfold others
  exact Nat.le_trans (List.length_filter_le _ _) (by rw [List.length_take]; omega)

set_option maxHeartbeats 4000000 in
set_option maxRecDepth 100000 in
theorem rfirst_any (size asked : Nat) (tv cv : Value) (l : List Th) (k x : ByteArray) (w : World) (h : RowT w tv l) (hl : l.length ≤ 2000) (hcv : ∃ b c d, cv = .slice b c d) :
    Calls Try.prog 31 #[refV size tv cv asked, .agg #[.string k, .string x]] w fun e w' => ∃ tv', e = .returned (refV size tv' cv asked) ∧ Made w w' 64 2 tv' (others l k).length.succ (flat ((k, x) :: others l k)) := by
  obtain ⟨cb, cc, cd, rfl⟩ := hcv
  obtain ⟨a, cap, hv⟩ := OffRow.shape h
  subst hv
  obtain ⟨i64, hi64, hz64, hs64, hb64⟩ := info_parts info64
  obtain ⟨n, hn⟩ : ∃ n, n = l.length := ⟨_, rfl⟩
  have HR := Lib.hid h
  rw [← hn] at hl ⊢
  have HN := Lib.hid hn
  obtain ⟨w1, hw1⟩ : ∃ w1, w1 = ((w.alloc (.cells #[.int .i64 size, .slice a n cap, .slice cb cc cd, .int .i64 asked] 30)).alloc (.cells #[.string k, .string x] 64)).alloc zero30 := ⟨_, rfl⟩
  have hb : Below w.heap.size w w1 := by rw [hw1]; exact (((Below.refl _ w).alloc (Nat.le_refl _) _).alloc (by simp) _).alloc (by simp; omega) _
  have e1 : w1.heap[w.heap.size]? = some (.cells #[.int .i64 size, .slice a n cap, .slice cb cc cd, .int .i64 asked] 30 (0, 0)) := by
    rw [hw1, Below.heap_alloc _ _ _ (by simp; omega), Below.heap_alloc _ _ _ (by simp)]
    exact heap_alloc_new w _
  have e3 : w1.heap[w.heap.size + 1]? = some (.cells #[.string k, .string x] 64 (0, 0)) := by
    rw [hw1, Below.heap_alloc _ _ _ (by simp)]
    simpa using heap_alloc_new (w.alloc (.cells #[.int .i64 size, .slice a n cap, .slice cb cc cd, .int .i64 asked] 30)) (.cells #[.string k, .string x] 64)
  have e2 : w1.heap[w.heap.size + 2]? = some zero30 := by
    rw [hw1]
    simpa using heap_alloc_new ((w.alloc (.cells #[.int .i64 size, .slice a n cap, .slice cb cc cd, .int .i64 asked] 30)).alloc (.cells #[.string k, .string x] 64)) zero30
  unfold zero30 at hw1 e2
  have hs1 : w1.heap.size = w.heap.size + 3 := by rw [hw1]; simp
  have t0 : w1.cell? ⟨w.heap.size + 1, 0, none⟩ = some (.string k) := by simp only [World.cell?, e3]; rfl
  have t1 : w1.cell? ⟨w.heap.size + 1, 1, none⟩ = some (.string x) := by simp only [World.cell?, e3]; rfl
  have HW := Lib.hid hw1
  have HB := Lib.hid hb
  have E1 := Lib.hid e1
  have E2 := Lib.hid e2
  have E3 := Lib.hid e3
  have HS1 := Lib.hid hs1
  unfold refV
  clear h hn hw1 hb e1 e2 e3 hs1
  go_enter Try.func31, Try.ntmps31
  go_upto_region 1 with fail
  rw [← HW.out]
  go_upto_region 2 with fail
  have hm0 : Made w1 (w1.alloc (.cells #[.string k, .string x] 64)) 64 2 (.slice (some ⟨w1.heap.size, 0, none⟩) 1 1) ((others (l.take 0) k).length + 1) (flat ((k, x) :: others (l.take 0) k)) :=
    ⟨⟨rfl, .inr ⟨w1.heap.size, 0, 1, _, rfl, heap_alloc_new w1 _, Nat.le_refl _, by unfold maxLen; omega, by simp, rfl⟩⟩, fun q hq => by simp [Value.ownBlock] at hq; omega, (Below.refl _ w1).alloc (Nat.le_refl _) _⟩
  have HM0 := Lib.hid hm0
  clear hm0
  go_wp2_with fail
  go_loopw [5, 6] (fun s5 s6 wr => ∃ j : Nat, j ≤ n ∧ s6 = .int .i64 j ∧ Made w1 wr 64 2 s5 ((others (l.take j) k).length + 1) (flat ((k, x) :: others (l.take j) k))) (fun _ s6 _ => n - (intOf s6).toNat)
  case atStart => exact ⟨0, Nat.zero_le _, rfl, HM0.out⟩
  case round =>
    obtain ⟨j, hj, rfl, hm⟩ := hrel
    have HM := Lib.hid hm
    have hx := (hm.below.block w.heap.size (by rw [HS1.out]; omega)).trans E1.out
    have hz := (hm.below.block (w.heap.size + 1) (by rw [HS1.out]; omega)).trans E3.out
    obtain ⟨c0, c1, c2, c3, cf⟩ := cells4 hx
    have s0 : wr.cell? ⟨w.heap.size + 1, 0, none⟩ = some (.string k) := by simp only [World.cell?, hz]; rfl
    have HX := Lib.hid hx
    clear t0 t1 HM0
    by_cases hjn : j < n
    · obtain ⟨p, hp⟩ : ∃ p, l[j]? = some p := ⟨_, List.getElem?_eq_getElem (by rw [← HN.out]; exact hjn)⟩
      obtain ⟨f0, f1⟩ := flatT_at _ _ _ hp
      obtain ⟨g, o, cap', hv, q0, q1⟩ := cell2 (RowT.below HR.out (HB.out.trans (hm.below.mono HB.out.size))) f0 f1
      simp only [Value.slice.injEq, true_and] at hv
      obtain ⟨rfl, _, rfl⟩ := hv
      have y1 : (j : Int) < (n : Int) := by omega
      have hsu := others_succ l k j hp
      have hol := others_len l k j
      rw [← HN.out] at hol
      clear f0 f1 hp hm hx hz
      by_cases e : p.1 = k
      · have y2 : (p.1.toList == k.toList) = true := by rw [str_beq]; exact decide_eq_true e
        rw [if_pos e, List.append_nil] at hsu
        have HSU := Lib.hid hsu
        clear hsu e
        go_wp2_with fail
        go_quiet (fail)
        go_wp2_with fail
        refine ⟨⟨j + 1, by omega, by go_num, ?_⟩, by simp [intOf]; omega⟩
        rw [HSU.out]
        exact HM.out.keep ⟨rfl, rfl, rfl, Nat.le_refl _, fun _ _ => rfl⟩
      · have y2 : (p.1.toList == k.toList) = false := by rw [str_beq]; exact decide_eq_false e
        rw [if_neg e] at hsu
        have HSU := Lib.hid hsu
        clear hsu e
        obtain ⟨a3, q3, rfl⟩ := OffRow.shape HM.out.row
        go_wp2_with fail
        go_quiet (fail)
        have HM2 := Lib.hid (HM.out.keep (w2 := wr.drewN nq) ⟨rfl, rfl, rfl, Nat.le_refl _, fun _ _ => rfl⟩)
        go_wp2_with (at_builtin; refine wpList_append_off rfl (.tmp 25) (.tmp 31) 27 27 64 rfl i64 _ 2 32 Try.underlying27 hi64 hz64 hs64 hb64 rfl _ ((others (l.take j) k).length + 1) (flat ((k, x) :: others (l.take j) k)) rfl (OffRow.kept HM2.out.row fun k hk => Below.heap_alloc _ _ _ (OffRow.lt HM2.out.row k hk)) 1 [.string p.1, .string p.2] (by exact src_new (w := wr.drewN nq) Try.underlying27 [.string p.1, .string p.2] 2 rfl (by simp [Value.oneCell'])) (.inl (by omega)) (by unfold maxLen; omega) (by omega) ?_)
        intro v1 w4 ho1 hg1 hn1
        have hm1 := HM2.out.more ((Below.refl _ _).alloc (Nat.le_refl _) _) ho1 hg1 (by simpa using hn1)
        have M1 := Lib.hid hm1
        clear ho1 hg1 hn1 hm1 HM HM2 c0 c1 c2 c3 cf q0 q1
        go_wp2_with fail
        refine ⟨⟨j + 1, by omega, by go_num, ?_⟩, by simp [intOf]; omega⟩
        rw [HSU.out, ← List.cons_append, flatT_append, List.length_append]
        exact M1.out
    · have y1 : ¬ (j : Int) < (n : Int) := by omega
      have hjn : j = n := by omega
      have hm := HM.out
      rw [hjn, List.take_of_length_le (by rw [← HN.out]; omega)] at hm
      have HM2 := Lib.hid hm
      have hy := (hm.below.block (w.heap.size + 2) (by rw [HS1.out]; omega)).trans E2.out
      have HY := Lib.hid hy
      obtain ⟨a3, q3, rfl⟩ := OffRow.shape HM2.out.row
      clear hm hx hz hy HM
      go_upto_region 8 with fail
      have e1 : (wr.setCell ⟨w.heap.size, 1, none⟩ (.slice a3 ((others l k).length + 1) q3)).heap[w.heap.size]? = some (.cells #[.int .i64 size, .slice a3 ((others l k).length + 1) q3, .slice cb cc cd, .int .i64 asked] 30 (0, 0)) := by
        simp only [World.setCell, Array.getElem?_modify, if_pos rfl, HX.out]
        rfl
      have e2 : (wr.setCell ⟨w.heap.size, 1, none⟩ (.slice a3 ((others l k).length + 1) q3)).heap[w.heap.size + 2]? = some (.cells #[.int .i64 0, .slice none 0 0, .slice none 0 0, .int .i64 0] 30 (0, 0)) := by
        rw [Below.heap_setCell _ _ _ _ (by show w.heap.size + 2 ≠ w.heap.size; omega)]
        exact HY.out
      have hne : ∀ q, (Value.slice a3 ((others l k).length + 1) q3).ownBlock = some q → w.heap.size + 3 ≤ q := fun q hq => by have := HM2.out.own q hq; rw [HS1.out] at this; exact this
      have hbw : Below w.heap.size w (wr.setCell ⟨w.heap.size, 1, none⟩ (.slice a3 ((others l k).length + 1) q3)) := (HB.out.trans (HM2.out.below.mono HB.out.size)).setCell (Nat.le_refl _) _
      have hr9 := OffRow.kept (w' := wr.setCell ⟨w.heap.size, 1, none⟩ (.slice a3 ((others l k).length + 1) q3)) HM2.out.row fun q hq => Below.heap_setCell _ _ _ _ (by show q ≠ w.heap.size; have := hne q hq; omega)
      generalize World.setCell _ _ _ = w8 at *
      obtain ⟨x0, x1, x2, x3, xf⟩ := cells4 e1
      clear c0 c1 c2 c3 cf s0
      obtain ⟨d0, d1, d2, d3, df⟩ := cells4 e2
      have E2' := Lib.hid e2
      have HBW := Lib.hid hbw
      have HR9 := Lib.hid hr9
      have HNE := Lib.hid hne
      clear e1 e2 hbw hr9 hne
      go_wp2_with fail
      have g2 := setAll E2'.out (.int .i64 size) (.slice a3 ((others l k).length + 1) q3) (.slice cb cc cd) (.int .i64 asked)
      have hne : ∀ q, (Value.slice a3 ((others l k).length + 1) q3).ownBlock = some q → q ≠ w.heap.size + 2 := fun q hq => by have := HNE.out q hq; omega
      have hm10 : Made w ((((w8.setCell ⟨w.heap.size + 2, 0, none⟩ (.int .i64 size)).setCell ⟨w.heap.size + 2, 1, none⟩ (.slice a3 ((others l k).length + 1) q3)).setCell ⟨w.heap.size + 2, 2, none⟩ (.slice cb cc cd)).setCell ⟨w.heap.size + 2, 3, none⟩ (.int .i64 asked)) 64 2 (.slice a3 ((others l k).length + 1) q3) (others l k).length.succ (flat ((k, x) :: others l k)) :=
        ⟨OffRow.kept HR9.out fun q hq => (Below.heap_setCell _ _ _ _ (hne q hq)).trans ((Below.heap_setCell _ _ _ _ (hne q hq)).trans ((Below.heap_setCell _ _ _ _ (hne q hq)).trans (Below.heap_setCell _ _ _ _ (hne q hq)))), fun q hq => by have := HNE.out q hq; omega,
          (((HBW.out.setCell (show w.heap.size ≤ w.heap.size + 2 by omega) _).setCell (show w.heap.size ≤ w.heap.size + 2 by omega) _).setCell (show w.heap.size ≤ w.heap.size + 2 by omega) _).setCell (show w.heap.size ≤ w.heap.size + 2 by omega) _⟩
      generalize ((((World.setCell _ _ _).setCell _ _).setCell _ _).setCell _ _) = W9 at *
      obtain ⟨p0, p1, p2, p3, _⟩ := cells4 g2
      have p0' : W9.cell? ⟨w.heap.size + 1 + 1, 0, none⟩ = _ := p0
      have p1' : W9.cell? ⟨w.heap.size + 1 + 1, 1, none⟩ = _ := p1
      have p2' : W9.cell? ⟨w.heap.size + 1 + 1, 2, none⟩ = _ := p2
      have p3' : W9.cell? ⟨w.heap.size + 1 + 1, 3, none⟩ = _ := p3
      refine bodyPost_ret (v := .agg #[.int .i64 size, .slice a3 ((others l k).length + 1) q3, .slice cb cc cd, .int .i64 asked]) ?_ rfl ⟨_, rfl, hm10⟩
      clear g2 hne hm10 HR9 HNE HBW E2' HM2 HX HY x0 x1 x2 x3 xf d0 d1 d2 d3 df E1 E2 E3 HB HW HR HS1
      simp only [results, Try.f31]
      go_simp
end Go.Proofs.Ytoeekjooigijbaa

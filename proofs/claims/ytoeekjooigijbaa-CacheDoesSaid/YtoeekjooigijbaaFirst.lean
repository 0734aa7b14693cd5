/-
  A thing comes first in a cache.
-/
import Derived.Test.YtoeekjooigijbaaAt
import Derived.Deep.RegionHeld3
namespace Go.Proofs.Ytoeekjooigijbaa
open Go.RowKit
set_option linter.unusedVariables false
set_option linter.unusedSimpArgs false

theorem slice_of {w : World} {base n : Nat} {v : Value} {xs : List Value} (h : w.ownsRow base 60 2 v n xs) : ∃ a cap, v = .slice a n cap := by
  rcases h.2 with ⟨rfl, rfl⟩ | ⟨g, cap, cur, rfl, _⟩
  · exact ⟨_, _, rfl⟩
  · exact ⟨_, _, rfl⟩

theorem ins_fin {cb b : Nat} {v1 v3 : Value} {s1 : St} {w1 w3 : World} {o : Obj} (h : CacheAt w1 cb b v1 s1) (x : Th) (hroom : s1.all.length < s1.size)
    (ho : w3.ownsRow 0 60 2 v3 (s1.all.length + 1) ([.string x.1, .string x.2] ++ flat s1.all)) (hg : (w1.alloc o).drew.grownBy w3 v1.ownBlock)
    (hb : v3.ownBlock = v1.ownBlock ∨ v3.ownBlock = some (w1.alloc o).drew.heap.size) :
    CacheAt (w3.setCell ⟨cb, 1, none⟩ v3) cb b v3 { s1 with all := x :: s1.all } ∧ Turned w1.heap.size w1 (w3.setCell ⟨cb, 1, none⟩ v3) cb b v1 v3 := by
  have old : ∀ k, k < w1.heap.size → v1.ownBlock ≠ some k → w3.heap[k]? = w1.heap[k]? := fun k hk hv => by
    have h1 : (w1.alloc o).drew.heap[k]? = w1.heap[k]? := Below.heap_alloc w1 o k hk
    rw [hg.block k (by simp; omega) (fun e => hv e.symm), h1]
  have hcb := old cb h.lt h.ne_own
  have hbm := old b h.cnt.lt h.ne_map
  have hne : ∀ k, v3.ownBlock = some k → k ≠ cb := fun k hk e => by
    subst e
    rcases hb with e1 | e1
    · exact h.ne_own (by rw [← e1, hk])
    · rw [hk] at e1
      have := h.lt
      simp at e1
      omega
  refine ⟨⟨box_set1 (hcb.trans h.box), row_kept ho (fun k hk => Below.heap_setCell _ _ _ _ (hne k hk)), (h.cnt.block hbm).block (Below.heap_setCell _ _ _ _ (Ne.symm h.ne_b)), h.hi, by show (x :: s1.all).length ≤ s1.size; rw [List.length_cons]; omega, h.few, h.low⟩, ?_⟩
  refine ⟨hg.os, hg.tape, hg.output, ?_, fun k hk hkc _ hkv => ?_, fun k hk => ?_⟩
  · have := hg.size; simp at this ⊢; omega
  · rw [Below.heap_setCell _ _ _ _ hkc]; exact old k hk hkv
  · rcases hb with e1 | e1
    · exact .inl (by rw [← e1, hk])
    · rw [hk] at e1
      simp at e1
      exact .inr (by omega)

theorem St.eta (s : St) : { s with all := s.all } = s := rfl

set_option maxHeartbeats 1000000 in
theorem first_new (cb b : Nat) (v : Value) (s : St) (x : Th) (at_ : Int) (w : World) (h : CacheAt w cb b v s) (hroom : s.all.length < s.size) (hat : at_ < 0) :
    Calls Try.prog 28 #[.pointer (some ⟨cb, 0, none⟩), .int .i64 at_, .agg #[.string x.1, .string x.2]] w (CachePost w cb b v { s with all := x :: s.all } (.tuple #[])) := by
  obtain ⟨x1, x2⟩ := x
  have hA := h.alloc (.cells #[.string x1, .string x2] 60)
  have hT := Turned.alloc w.heap.size w (.cells #[.string x1, .string x2] 60) (Nat.le_refl _) cb b v
  have hx0 : ∃ xb, xb = w.heap.size := ⟨_, rfl⟩
  obtain ⟨w1, hw1⟩ : ∃ w1, w1 = w.alloc (.cells #[.string x1, .string x2] 60) := ⟨_, rfl⟩
  rw [← hw1] at hA hT
  have hxb : w1.heap[w.heap.size]? = some (.cells #[.string x1, .string x2] 60 (0, 0)) := by rw [hw1]; exact heap_alloc_new w _
  have hxn : w.heap.size ≠ cb ∧ w.heap.size ≠ b ∧ v.ownBlock ≠ some w.heap.size := ⟨by have := h.lt; omega, by have := h.cnt.lt; omega, fun e => by have := h.own_lt _ e; omega⟩
  have D := Lib.hid (insert_own 0 v s.all.length w1.heap.size (flat s.all) [.string x1, .string x2] (w1.alloc (.cells #[.string x1, .string x2] 60)).drew ((hA.alloc _).drewN 1).own (flat_one _) (by have := h.fits; have := h.hi; omega) (Nat.zero_le _)
    (heap_alloc_new w1 _) rfl (by intro u hu; simp at hu; rcases hu with rfl | rfl <;> rfl) (fun e => by have := hA.own_lt _ e; omega))
  have FIN := Lib.hid (fun (v3 : Value) (w3 : World) ho hg hb => ins_fin (v3 := v3) (w3 := w3) (o := .cells #[.string x1, .string x2] 60) hA (x1, x2) hroom ho hg hb)
  have KEEP := Lib.hid (fun (w3 : World) (hg : (w1.alloc (.cells #[.string x1, .string x2] 60)).drew.grownBy w3 v.ownBlock) => show w3.cell? ⟨cb, 1, none⟩ = some v ∧ w3.frozen? ⟨cb, 1, none⟩ = false from by
    have e : w3.heap[cb]? = w1.heap[cb]? := (hg.block cb (by have := hA.lt; simp; omega) (fun e => hA.ne_own e.symm)).trans (Below.heap_alloc w1 _ cb hA.lt)
    exact ⟨(World.cell?_of_block e).trans hA.c1, (World.frozen?_of_block e).trans (hA.f 1)⟩)
  have KX := Lib.hid (fun (w3 : World) (hg : (w1.alloc (.cells #[.string x1, .string x2] 60)).drew.grownBy w3 v.ownBlock) (hq : (w1.alloc (.cells #[.string x1, .string x2] 60)).cell? ⟨w.heap.size, 0, none⟩ = some (.string x1) ∧ (w1.alloc (.cells #[.string x1, .string x2] 60)).cell? ⟨w.heap.size, 1, none⟩ = some (.string x2)) => show w3.cell? ⟨w.heap.size, 0, none⟩ = some (.string x1) ∧ w3.cell? ⟨w.heap.size, 1, none⟩ = some (.string x2) from by
    have e := hg.block w.heap.size (by have := lt_of_block hxb; simp; omega) (fun e => hxn.2.2 e.symm)
    exact ⟨(World.cell?_of_block e).trans hq.1, (World.cell?_of_block e).trans hq.2⟩)
  have c1 := hA.c1
  have f1 := hA.f 1
  have y0 : w1.cell? ⟨w.heap.size, 0, none⟩ = some (.string x1) := by simp [World.cell?, hxb]
  have y1 : w1.cell? ⟨w.heap.size, 1, none⟩ = some (.string x2) := by simp [World.cell?, hxb]
  have HT := Lib.hid hT
  have HA := Lib.hid hA
  have HXN := Lib.hid hxn
  have n1 : ¬ (0 : Int) ≤ at_ := by omega
  obtain ⟨xb, hxbe⟩ : ∃ xb, xb = w.heap.size := ⟨_, rfl⟩
  rw [← hxbe] at y0 y1 HXN KX
  clear h hA hT hxb hxn hat hx0 hroom
  go_enter Try.func28, Try.ntmps28
  go_wp2_with fail
  rw [← hxbe, ← hw1]
  have HW1 := Lib.hid hw1
  have HXB := Lib.hid hxbe
  clear hw1 hxbe
  refine wp_region_held_drew (S := fun w' : World => w'.cell? ⟨xb, 0, none⟩ = some (.string x1) ∧ w'.cell? ⟨xb, 1, none⟩ = some (.string x2)) (by kernel_rfl) ⟨y0, y1⟩ (fun hH => ?_)
  refine wpAnyH_take (i := 0) (v := .pointer (some ⟨cb, 0, none⟩)) rfl (by kernel_rfl) (by kernel_rfl) (by kernel_rfl) (fun _ _ _ h => h) (Or.inl ⟨by rfl, ?_⟩) hH ?_
  · rintro w ⟨q1, q2⟩
    go_simp
  try simp only [Act.put, List.setIfInBounds_toArray, List.set_cons_zero, List.set_cons_succ]
  refine wpAnyH_take (i := 1) (v := .pointer (some ⟨cb, 0, none⟩)) rfl (by kernel_rfl) (by kernel_rfl) (by kernel_rfl) (fun _ _ _ h => h) (Or.inl ⟨by rfl, ?_⟩) hH ?_
  · rintro w ⟨q1, q2⟩
    go_simp
  try simp only [Act.put, List.setIfInBounds_toArray, List.set_cons_zero, List.set_cons_succ]
  refine wpAnyH_take (i := 2) (v := .pointer (some ⟨cb, 0, none⟩)) rfl (by kernel_rfl) (by kernel_rfl) (by kernel_rfl) (fun _ _ _ h => h) (Or.inl ⟨by rfl, ?_⟩) hH ?_
  · rintro w ⟨q1, q2⟩
    go_simp
  try simp only [Act.put, List.setIfInBounds_toArray, List.set_cons_zero, List.set_cons_succ]
  refine wpAnyH_take (i := 3) (v := .pointer (some ⟨cb, 1, none⟩)) rfl (by kernel_rfl) (by kernel_rfl) (by kernel_rfl) (fun _ _ _ h => h) (Or.inl ⟨by rfl, ?_⟩) hH ?_
  · rintro w ⟨q1, q2⟩
    go_simp
  try simp only [Act.put, List.setIfInBounds_toArray, List.set_cons_zero, List.set_cons_succ]
  refine wpAnyH_take (i := 5) (v := .agg #[.string x1, .string x2]) rfl (by kernel_rfl) (by kernel_rfl) (by kernel_rfl) (fun _ _ _ h => h) (Or.inl ⟨by rfl, ?_⟩) hH ?_
  · rintro w ⟨q1, q2⟩
    go_simp
  try simp only [Act.put, List.setIfInBounds_toArray, List.set_cons_zero, List.set_cons_succ]
  have keepA : ∀ (W : World) (o : Obj), (W.cell? ⟨xb, 0, none⟩ = some (.string x1) ∧ W.cell? ⟨xb, 1, none⟩ = some (.string x2)) → ((W.alloc o).cell? ⟨xb, 0, none⟩ = some (.string x1) ∧ (W.alloc o).cell? ⟨xb, 1, none⟩ = some (.string x2)) := by
    rintro W o ⟨q1, q2⟩
    exact ⟨by rw [World.cell?_alloc_some _ _ _ (by simp [q1])]; exact q1, by rw [World.cell?_alloc_some _ _ _ (by simp [q2])]; exact q2⟩
  have KA := Lib.hid keepA
  clear keepA
  have HhH := Lib.hid hH
  refine wpAnyH_ready (rs := [4, 6]) (by kernel_rfl) (by simp) ?_
  refine AllReadyH.cons rfl (fun K' hK => ?_) (AllReadyH.cons rfl (fun K' hK => ?_) AllReadyH.nil)
  · go_simp
    refine hK.out _ _ HhH.out (fun hHeld => ?_)
    clear hK K' hHeld hH
    try simp only [Act.put, List.setIfInBounds_toArray, List.set_cons_zero, List.set_cons_succ]
    refine wpAnyH_ready (rs := [6]) (by kernel_rfl) (by simp) ?_
    refine AllReadyH.cons rfl (fun K' hK => ?_) AllReadyH.nil
    go_simp
    refine hK.out _ _ (KA.out _ _ HhH.out) (fun hHeld => ?_)
    clear hK K'
    try simp only [Act.put, List.setIfInBounds_toArray, List.set_cons_zero, List.set_cons_succ]
    refine wpAnyH_ready (rs := [7]) (by kernel_rfl) (by simp) ?_
    refine AllReadyH.cons rfl (fun K' hK => ?_) AllReadyH.nil
    go_simp
    clear hHeld
    refine D.out.mono ?_
    rintro e w3 ⟨v3, rfl, ho, hg, hb⟩
    obtain ⟨a3, cap3, rfl⟩ := slice_of ho
    have c3 := (KEEP.out w3 hg).1
    have f3 := (KEEP.out w3 hg).2
    have hH : w3.cell? ⟨xb, 0, none⟩ = some (.string x1) ∧ w3.cell? ⟨xb, 1, none⟩ = some (.string x2) := KX.out w3 hg (KA.out _ (.cells #[.string x1, .string x2] 60) HhH.out)
    have FN := Lib.hid (FIN.out _ w3 ho hg hb)
    clear ho hg hb
    refine hK.out _ _ hH (fun _ => ?_)
    clear hK K'
    try simp only [Act.put, List.setIfInBounds_toArray, List.set_cons_zero, List.set_cons_succ]
    refine wpAnyH_take (i := 8) (v := .pointer (some ⟨cb, 0, none⟩)) rfl (by kernel_rfl) (by kernel_rfl) (by kernel_rfl) (fun _ _ _ h => h) (Or.inl ⟨by rfl, ?_⟩) hH ?_
    · rintro w ⟨q1, q2⟩
      go_simp
    try simp only [Act.put, List.setIfInBounds_toArray, List.set_cons_zero, List.set_cons_succ]
    refine wpAnyH_take (i := 9) (v := .pointer (some ⟨cb, 1, none⟩)) rfl (by kernel_rfl) (by kernel_rfl) (by kernel_rfl) (fun _ _ _ h => h) (Or.inl ⟨by rfl, ?_⟩) hH ?_
    · rintro w ⟨q1, q2⟩
      go_simp
    try simp only [Act.put, List.setIfInBounds_toArray, List.set_cons_zero, List.set_cons_succ]
    refine wpAnyH_ready (rs := [10]) (by kernel_rfl) (by simp) ?_
    refine AllReadyH.cons rfl (fun K' hK => ?_) AllReadyH.nil
    have keepS : Hid (∀ u, (w3.setCell ⟨cb, 1, none⟩ u).cell? ⟨xb, 0, none⟩ = some (.string x1) ∧ (w3.setCell ⟨cb, 1, none⟩ u).cell? ⟨xb, 1, none⟩ = some (.string x2)) := Lib.hid (fun u => ⟨by rw [World.cell?_setCell_far _ _ _ _ (Ne.symm HXN.out.1)]; exact hH.1, by rw [World.cell?_setCell_far _ _ _ _ (Ne.symm HXN.out.1)]; exact hH.2⟩)
    clear hH
    go_simp
    refine hK.out _ _ (keepS.out _) (fun _ => ?_)
    clear hK K' keepS
    refine wpAnyH_done (by kernel_rfl) ?_ _
    try simp only [Act.put, List.setIfInBounds_toArray, List.set_cons_zero, List.set_cons_succ]
    go_wp2_with fail
    go_end0
    exact ⟨rfl, _, FN.out.1, HT.out.trans (FN.out.2.mono (by rw [HW1.out]; simp))⟩
  · go_simp
    refine hK.out _ _ (KA.out _ _ HhH.out) (fun hHeld => ?_)
    clear hK K' hHeld hH
    try simp only [Act.put, List.setIfInBounds_toArray, List.set_cons_zero, List.set_cons_succ]
    refine wpAnyH_ready (rs := [4]) (by kernel_rfl) (by simp) ?_
    refine AllReadyH.cons rfl (fun K' hK => ?_) AllReadyH.nil
    have c1A : (w1.alloc (.cells #[.string x1, .string x2] 60)).cell? ⟨cb, 1, none⟩ = some v := by rw [World.cell?_alloc_some _ _ _ (by simp [c1])]; exact c1
    go_simp
    clear c1A
    refine hK.out _ _ (KA.out _ _ HhH.out) (fun hHeld => ?_)
    clear hK K'
    try simp only [Act.put, List.setIfInBounds_toArray, List.set_cons_zero, List.set_cons_succ]
    refine wpAnyH_ready (rs := [7]) (by kernel_rfl) (by simp) ?_
    refine AllReadyH.cons rfl (fun K' hK => ?_) AllReadyH.nil
    go_simp
    clear hHeld
    refine D.out.mono ?_
    rintro e w3 ⟨v3, rfl, ho, hg, hb⟩
    obtain ⟨a3, cap3, rfl⟩ := slice_of ho
    have c3 := (KEEP.out w3 hg).1
    have f3 := (KEEP.out w3 hg).2
    have hH : w3.cell? ⟨xb, 0, none⟩ = some (.string x1) ∧ w3.cell? ⟨xb, 1, none⟩ = some (.string x2) := KX.out w3 hg (KA.out _ (.cells #[.string x1, .string x2] 60) HhH.out)
    have FN := Lib.hid (FIN.out _ w3 ho hg hb)
    clear ho hg hb
    refine hK.out _ _ hH (fun _ => ?_)
    clear hK K'
    try simp only [Act.put, List.setIfInBounds_toArray, List.set_cons_zero, List.set_cons_succ]
    refine wpAnyH_take (i := 8) (v := .pointer (some ⟨cb, 0, none⟩)) rfl (by kernel_rfl) (by kernel_rfl) (by kernel_rfl) (fun _ _ _ h => h) (Or.inl ⟨by rfl, ?_⟩) hH ?_
    · rintro w ⟨q1, q2⟩
      go_simp
    try simp only [Act.put, List.setIfInBounds_toArray, List.set_cons_zero, List.set_cons_succ]
    refine wpAnyH_take (i := 9) (v := .pointer (some ⟨cb, 1, none⟩)) rfl (by kernel_rfl) (by kernel_rfl) (by kernel_rfl) (fun _ _ _ h => h) (Or.inl ⟨by rfl, ?_⟩) hH ?_
    · rintro w ⟨q1, q2⟩
      go_simp
    try simp only [Act.put, List.setIfInBounds_toArray, List.set_cons_zero, List.set_cons_succ]
    refine wpAnyH_ready (rs := [10]) (by kernel_rfl) (by simp) ?_
    refine AllReadyH.cons rfl (fun K' hK => ?_) AllReadyH.nil
    have keepS : Hid (∀ u, (w3.setCell ⟨cb, 1, none⟩ u).cell? ⟨xb, 0, none⟩ = some (.string x1) ∧ (w3.setCell ⟨cb, 1, none⟩ u).cell? ⟨xb, 1, none⟩ = some (.string x2)) := Lib.hid (fun u => ⟨by rw [World.cell?_setCell_far _ _ _ _ (Ne.symm HXN.out.1)]; exact hH.1, by rw [World.cell?_setCell_far _ _ _ _ (Ne.symm HXN.out.1)]; exact hH.2⟩)
    clear hH
    go_simp
    refine hK.out _ _ (keepS.out _) (fun _ => ?_)
    clear hK K' keepS
    refine wpAnyH_done (by kernel_rfl) ?_ _
    try simp only [Act.put, List.setIfInBounds_toArray, List.set_cons_zero, List.set_cons_succ]
    go_wp2_with fail
    go_end0
    exact ⟨rfl, _, FN.out.1, HT.out.trans (FN.out.2.mono (by rw [HW1.out]; simp))⟩

theorem flat_erase (l : List Th) (i : Nat) : flat (l.eraseIdx i) = (flat l).take (i * 2) ++ (flat l).drop ((i + 1) * 2) := by
  rw [List.eraseIdx_eq_take_drop_succ, flat_append, flat_take, flat_drop]

theorem del_fin {cb b i : Nat} {v1 v3 : Value} {s1 : St} {w1 w3 : World} (h : CacheAt w1 cb b v1 s1) (hi : i < s1.all.length)
    (ho : w3.ownsRow 0 60 2 v3 (s1.all.length - 1) ((flat s1.all).take (i * 2) ++ (flat s1.all).drop ((i + 1) * 2))) (hg : w1.grownBy w3 v1.ownBlock)
    (hb : v3.ownBlock = v1.ownBlock ∨ v3.ownBlock = some w1.heap.size) :
    CacheAt (w3.setCell ⟨cb, 1, none⟩ v3) cb b v3 { s1 with all := s1.all.eraseIdx i } ∧ Turned w1.heap.size w1 (w3.setCell ⟨cb, 1, none⟩ v3) cb b v1 v3 := by
  have hcb := hg.block cb h.lt (fun e => h.ne_own e.symm)
  have hbm := hg.block b h.cnt.lt (fun e => h.ne_map e.symm)
  have hne : ∀ k, v3.ownBlock = some k → k ≠ cb := fun k hk e => by
    subst e
    rcases hb with e1 | e1
    · exact h.ne_own (by rw [← e1, hk])
    · rw [hk] at e1
      have := h.lt
      simp at e1
      omega
  have hl : (s1.all.eraseIdx i).length = s1.all.length - 1 := List.length_eraseIdx_of_lt hi
  rw [← flat_erase, ← hl] at ho
  refine ⟨⟨box_set1 (hcb.trans h.box), row_kept ho (fun k hk => Below.heap_setCell _ _ _ _ (hne k hk)), (h.cnt.block hbm).block (Below.heap_setCell _ _ _ _ (Ne.symm h.ne_b)), h.hi, by show (s1.all.eraseIdx i).length ≤ s1.size; have := h.fits; omega, h.few, h.low⟩, ?_⟩
  refine ⟨hg.os, hg.tape, hg.output, ?_, fun k hk hkc _ hkv => ?_, fun k hk => ?_⟩
  · have := hg.size; simp at this ⊢; omega
  · rw [Below.heap_setCell _ _ _ _ hkc]; exact hg.block k hk (fun e => hkv e.symm)
  · rcases hb with e1 | e1
    · exact .inl (by rw [← e1, hk])
    · rw [hk] at e1
      simp at e1
      exact .inr (by omega)

set_option maxHeartbeats 1000000 in
theorem first_old (cb b i : Nat) (v0 : Value) (s : St) (x : Th) (w : World) (h : CacheAt w cb b v0 s) (hi : i < s.all.length) :
    Calls Try.prog 28 #[.pointer (some ⟨cb, 0, none⟩), .int .i64 i, .agg #[.string x.1, .string x.2]] w (CachePost w cb b v0 { s with all := x :: s.all.eraseIdx i } (.tuple #[])) := by
  obtain ⟨x1, x2⟩ := x
  have hA := h.alloc (.cells #[.string x1, .string x2] 60)
  have hT := Turned.alloc w.heap.size w (.cells #[.string x1, .string x2] 60) (Nat.le_refl _) cb b v0
  have hfit := h.fits
  have hhi := h.hi
  have D0 := Lib.hid (delete_own 0 v0 s.all.length i (flat s.all) _ hA.own (flat_one _) hi)
  have hxb : (w.alloc (.cells #[.string x1, .string x2] 60)).heap[w.heap.size]? = some (.cells #[.string x1, .string x2] 60 (0, 0)) := heap_alloc_new w _
  have hxn : w.heap.size ≠ cb ∧ w.heap.size ≠ b ∧ v0.ownBlock ≠ some w.heap.size := ⟨by have := h.lt; omega, by have := h.cnt.lt; omega, fun e => by have := h.own_lt _ e; omega⟩
  have c0 := hA.c1
  have HA0 := Lib.hid hA
  have HT0 := Lib.hid hT
  have HXN0 := Lib.hid hxn
  have HXB0 := Lib.hid hxb
  have HFIT := Lib.hid (And.intro hfit hhi)
  have HI := Lib.hid hi
  have hw1 : IntKind.i64.wrap ((i : Int) + 1) = (i : Int) + 1 := by rw [IntKind.wrap_i64]; omega
  have n1 : (0 : Int) ≤ (i : Int) := by omega
  clear h hA hT hxb hxn hfit hhi hi
  go_enter Try.func28, Try.ntmps28
  go_wp2_with fail
  refine D0.out.mono ?_
  rintro e w2 ⟨v, rfl, ho, hg, hb⟩
  obtain ⟨a2, cap2, rfl⟩ := slice_of ho
  have e2 : w2.heap[cb]? = (w.alloc (.cells #[.string x1, .string x2] 60)).heap[cb]? := hg.block cb HA0.out.lt (fun e => HA0.out.ne_own e.symm)
  have c1' := (World.cell?_of_block (a := ⟨cb, 1, none⟩) e2).trans HA0.out.c1
  have f1' := (World.frozen?_of_block (a := ⟨cb, 1, none⟩) e2).trans (HA0.out.f 1)
  have hx2 : w2.heap[w.heap.size]? = some (.cells #[.string x1, .string x2] 60 (0, 0)) := (hg.block w.heap.size (by simp) (fun e => HXN0.out.2.2 e.symm)).trans HXB0.out
  have hdf := del_fin HA0.out HI.out ho hg hb
  have HDF := Lib.hid hdf
  have HX2 := Lib.hid hx2
  clear ho hg hb e2 hdf hx2 c0
  go_upto_region 3 with fail
  obtain ⟨v, hv⟩ : ∃ v, v = Value.slice a2 (s.all.length - 1) cap2 := ⟨_, rfl⟩
  rw [← hv] at HDF ⊢
  have hsl : ∃ a c, v = .slice a (s.all.length - 1) c := ⟨_, _, hv⟩
  clear hv
  obtain ⟨w1, hw1e⟩ : ∃ w1, w1 = w2.setCell ⟨cb, 1, none⟩ v := ⟨_, rfl⟩
  rw [← hw1e] at HDF ⊢
  have hA := HDF.out.1
  obtain ⟨s1, hs1⟩ : ∃ s1, s1 = { s with all := s.all.eraseIdx i } := ⟨_, rfl⟩
  have hT1 := HDF.out.2
  have hroom : (s.all.eraseIdx i).length < s.size := by rw [List.length_eraseIdx_of_lt HI.out]; have := HI.out; have := HFIT.out.1; omega
  have hxb : w1.heap[w.heap.size]? = some (.cells #[.string x1, .string x2] 60 (0, 0)) := by rw [hw1e, Below.heap_setCell _ _ _ _ HXN0.out.1]; exact HX2.out
  have hxv : v.ownBlock ≠ some w.heap.size := fun e => by
    rcases hT1.own _ e with e' | e'
    · exact HXN0.out.2.2 e'
    · simp at e'
      omega
  have hxn : w.heap.size ≠ cb ∧ w.heap.size ≠ b ∧ v.ownBlock ≠ some w.heap.size := ⟨HXN0.out.1, HXN0.out.2.1, hxv⟩
  have hl1 : ({ s with all := s.all.eraseIdx i } : St).all.length ≤ 1000 := by show (s.all.eraseIdx i).length ≤ 1000; have := HFIT.out.2; omega
  have D := Lib.hid (insert_own 0 v _ w1.heap.size (flat (s.all.eraseIdx i)) [.string x1, .string x2] (w1.alloc (.cells #[.string x1, .string x2] 60)).drew ((hA.alloc _).drewN 1).own (flat_one _) hl1 (Nat.zero_le _)
    (heap_alloc_new w1 _) rfl (by intro u hu; simp at hu; rcases hu with rfl | rfl <;> rfl) (fun e => by have := hA.own_lt _ e; omega))
  have FIN := Lib.hid (fun (v3 : Value) (w3 : World) ho hg hb => ins_fin (v3 := v3) (w3 := w3) (o := .cells #[.string x1, .string x2] 60) hA (x1, x2) hroom ho hg hb)
  have KEEP := Lib.hid (fun (w3 : World) (hg : (w1.alloc (.cells #[.string x1, .string x2] 60)).drew.grownBy w3 v.ownBlock) => show w3.cell? ⟨cb, 1, none⟩ = some v ∧ w3.frozen? ⟨cb, 1, none⟩ = false from by
    have e : w3.heap[cb]? = w1.heap[cb]? := (hg.block cb (by have := hA.lt; simp; omega) (fun e => hA.ne_own e.symm)).trans (Below.heap_alloc w1 _ cb hA.lt)
    exact ⟨(World.cell?_of_block e).trans hA.c1, (World.frozen?_of_block e).trans (hA.f 1)⟩)
  have KX := Lib.hid (fun (w3 : World) (hg : (w1.alloc (.cells #[.string x1, .string x2] 60)).drew.grownBy w3 v.ownBlock) (hq : (w1.alloc (.cells #[.string x1, .string x2] 60)).cell? ⟨w.heap.size, 0, none⟩ = some (.string x1) ∧ (w1.alloc (.cells #[.string x1, .string x2] 60)).cell? ⟨w.heap.size, 1, none⟩ = some (.string x2)) => show w3.cell? ⟨w.heap.size, 0, none⟩ = some (.string x1) ∧ w3.cell? ⟨w.heap.size, 1, none⟩ = some (.string x2) from by
    have e := hg.block w.heap.size (by have := lt_of_block hxb; simp; omega) (fun e => hxn.2.2 e.symm)
    exact ⟨(World.cell?_of_block e).trans hq.1, (World.cell?_of_block e).trans hq.2⟩)
  have c1 := hA.c1
  have f1 := hA.f 1
  have y0 : w1.cell? ⟨w.heap.size, 0, none⟩ = some (.string x1) := by simp [World.cell?, hxb]
  have y1 : w1.cell? ⟨w.heap.size, 1, none⟩ = some (.string x2) := by simp [World.cell?, hxb]
  have HT1 := Lib.hid hT1
  have HXN := Lib.hid hxn
  obtain ⟨a1, cap1, hv1⟩ := hsl
  have HV1 := Lib.hid hv1
  obtain ⟨xb, hxbe⟩ : ∃ xb, xb = w.heap.size := ⟨_, rfl⟩
  rw [← hxbe] at y0 y1 HXN KX ⊢
  have HXE := Lib.hid hxbe
  clear hA hT1 hxb hxn hroom hl1 hv1 hw1e hs1 hxv c1' f1' hxbe
  refine wp_region_held_drew (S := fun w' : World => w'.cell? ⟨xb, 0, none⟩ = some (.string x1) ∧ w'.cell? ⟨xb, 1, none⟩ = some (.string x2)) (by kernel_rfl) ⟨y0, y1⟩ (fun hH => ?_)
  refine wpAnyH_take (i := 0) (v := .pointer (some ⟨cb, 0, none⟩)) rfl (by kernel_rfl) (by kernel_rfl) (by kernel_rfl) (fun _ _ _ h => h) (Or.inl ⟨by rfl, ?_⟩) hH ?_
  · rintro w ⟨q1, q2⟩
    go_simp
  try simp only [Act.put, List.setIfInBounds_toArray, List.set_cons_zero, List.set_cons_succ]
  refine wpAnyH_take (i := 1) (v := .pointer (some ⟨cb, 0, none⟩)) rfl (by kernel_rfl) (by kernel_rfl) (by kernel_rfl) (fun _ _ _ h => h) (Or.inl ⟨by rfl, ?_⟩) hH ?_
  · rintro w ⟨q1, q2⟩
    go_simp
  try simp only [Act.put, List.setIfInBounds_toArray, List.set_cons_zero, List.set_cons_succ]
  refine wpAnyH_take (i := 2) (v := .pointer (some ⟨cb, 0, none⟩)) rfl (by kernel_rfl) (by kernel_rfl) (by kernel_rfl) (fun _ _ _ h => h) (Or.inl ⟨by rfl, ?_⟩) hH ?_
  · rintro w ⟨q1, q2⟩
    go_simp
  try simp only [Act.put, List.setIfInBounds_toArray, List.set_cons_zero, List.set_cons_succ]
  refine wpAnyH_take (i := 3) (v := .pointer (some ⟨cb, 1, none⟩)) rfl (by kernel_rfl) (by kernel_rfl) (by kernel_rfl) (fun _ _ _ h => h) (Or.inl ⟨by rfl, ?_⟩) hH ?_
  · rintro w ⟨q1, q2⟩
    go_simp
  try simp only [Act.put, List.setIfInBounds_toArray, List.set_cons_zero, List.set_cons_succ]
  refine wpAnyH_take (i := 5) (v := .agg #[.string x1, .string x2]) rfl (by kernel_rfl) (by kernel_rfl) (by kernel_rfl) (fun _ _ _ h => h) (Or.inl ⟨by rfl, ?_⟩) hH ?_
  · rintro w ⟨q1, q2⟩
    go_simp
  try simp only [Act.put, List.setIfInBounds_toArray, List.set_cons_zero, List.set_cons_succ]
  have keepA : ∀ (W : World) (o : Obj), (W.cell? ⟨xb, 0, none⟩ = some (.string x1) ∧ W.cell? ⟨xb, 1, none⟩ = some (.string x2)) → ((W.alloc o).cell? ⟨xb, 0, none⟩ = some (.string x1) ∧ (W.alloc o).cell? ⟨xb, 1, none⟩ = some (.string x2)) := by
    rintro W o ⟨q1, q2⟩
    exact ⟨by rw [World.cell?_alloc_some _ _ _ (by simp [q1])]; exact q1, by rw [World.cell?_alloc_some _ _ _ (by simp [q2])]; exact q2⟩
  have KA := Lib.hid keepA
  clear keepA
  have HhH := Lib.hid hH
  refine wpAnyH_ready (rs := [4, 6]) (by kernel_rfl) (by simp) ?_
  refine AllReadyH.cons rfl (fun K' hK => ?_) (AllReadyH.cons rfl (fun K' hK => ?_) AllReadyH.nil)
  · go_simp
    refine hK.out _ _ HhH.out (fun hHeld => ?_)
    clear hK K' hHeld hH
    try simp only [Act.put, List.setIfInBounds_toArray, List.set_cons_zero, List.set_cons_succ]
    refine wpAnyH_ready (rs := [6]) (by kernel_rfl) (by simp) ?_
    refine AllReadyH.cons rfl (fun K' hK => ?_) AllReadyH.nil
    go_simp
    refine hK.out _ _ (KA.out _ _ HhH.out) (fun hHeld => ?_)
    clear hK K'
    try simp only [Act.put, List.setIfInBounds_toArray, List.set_cons_zero, List.set_cons_succ]
    refine wpAnyH_ready (rs := [7]) (by kernel_rfl) (by simp) ?_
    refine AllReadyH.cons rfl (fun K' hK => ?_) AllReadyH.nil
    go_simp
    clear hHeld
    refine D.out.mono ?_
    rintro e w3 ⟨v3, rfl, ho, hg, hb⟩
    obtain ⟨a3, cap3, rfl⟩ := slice_of ho
    have c3 := (KEEP.out w3 hg).1
    have f3 := (KEEP.out w3 hg).2
    have hH : w3.cell? ⟨xb, 0, none⟩ = some (.string x1) ∧ w3.cell? ⟨xb, 1, none⟩ = some (.string x2) := KX.out w3 hg (KA.out _ (.cells #[.string x1, .string x2] 60) HhH.out)
    have FN := Lib.hid (FIN.out _ w3 ho hg hb)
    clear ho hg hb
    refine hK.out _ _ hH (fun _ => ?_)
    clear hK K'
    try simp only [Act.put, List.setIfInBounds_toArray, List.set_cons_zero, List.set_cons_succ]
    refine wpAnyH_take (i := 8) (v := .pointer (some ⟨cb, 0, none⟩)) rfl (by kernel_rfl) (by kernel_rfl) (by kernel_rfl) (fun _ _ _ h => h) (Or.inl ⟨by rfl, ?_⟩) hH ?_
    · rintro w ⟨q1, q2⟩
      go_simp
    try simp only [Act.put, List.setIfInBounds_toArray, List.set_cons_zero, List.set_cons_succ]
    refine wpAnyH_take (i := 9) (v := .pointer (some ⟨cb, 1, none⟩)) rfl (by kernel_rfl) (by kernel_rfl) (by kernel_rfl) (fun _ _ _ h => h) (Or.inl ⟨by rfl, ?_⟩) hH ?_
    · rintro w ⟨q1, q2⟩
      go_simp
    try simp only [Act.put, List.setIfInBounds_toArray, List.set_cons_zero, List.set_cons_succ]
    refine wpAnyH_ready (rs := [10]) (by kernel_rfl) (by simp) ?_
    refine AllReadyH.cons rfl (fun K' hK => ?_) AllReadyH.nil
    have keepS : Hid (∀ u, (w3.setCell ⟨cb, 1, none⟩ u).cell? ⟨xb, 0, none⟩ = some (.string x1) ∧ (w3.setCell ⟨cb, 1, none⟩ u).cell? ⟨xb, 1, none⟩ = some (.string x2)) := Lib.hid (fun u => ⟨by rw [World.cell?_setCell_far _ _ _ _ (Ne.symm HXN.out.1)]; exact hH.1, by rw [World.cell?_setCell_far _ _ _ _ (Ne.symm HXN.out.1)]; exact hH.2⟩)
    clear hH
    go_simp
    refine hK.out _ _ (keepS.out _) (fun _ => ?_)
    clear hK K' keepS
    refine wpAnyH_done (by kernel_rfl) ?_ _
    try simp only [Act.put, List.setIfInBounds_toArray, List.set_cons_zero, List.set_cons_succ]
    go_wp2_with fail
    go_end0
    exact ⟨rfl, _, FN.out.1, HT0.out.trans ((HT1.out.mono (by simp)).trans (FN.out.2.mono (by have := HT1.out.size; simp at this; omega)))⟩
  · go_simp
    refine hK.out _ _ (KA.out _ _ HhH.out) (fun hHeld => ?_)
    clear hK K' hHeld hH
    try simp only [Act.put, List.setIfInBounds_toArray, List.set_cons_zero, List.set_cons_succ]
    refine wpAnyH_ready (rs := [4]) (by kernel_rfl) (by simp) ?_
    refine AllReadyH.cons rfl (fun K' hK => ?_) AllReadyH.nil
    have c1A : (w1.alloc (.cells #[.string x1, .string x2] 60)).cell? ⟨cb, 1, none⟩ = some v := by rw [World.cell?_alloc_some _ _ _ (by simp [c1])]; exact c1
    go_simp
    clear c1A
    refine hK.out _ _ (KA.out _ _ HhH.out) (fun hHeld => ?_)
    clear hK K'
    try simp only [Act.put, List.setIfInBounds_toArray, List.set_cons_zero, List.set_cons_succ]
    refine wpAnyH_ready (rs := [7]) (by kernel_rfl) (by simp) ?_
    refine AllReadyH.cons rfl (fun K' hK => ?_) AllReadyH.nil
    go_simp
    clear hHeld
    refine D.out.mono ?_
    rintro e w3 ⟨v3, rfl, ho, hg, hb⟩
    obtain ⟨a3, cap3, rfl⟩ := slice_of ho
    have c3 := (KEEP.out w3 hg).1
    have f3 := (KEEP.out w3 hg).2
    have hH : w3.cell? ⟨xb, 0, none⟩ = some (.string x1) ∧ w3.cell? ⟨xb, 1, none⟩ = some (.string x2) := KX.out w3 hg (KA.out _ (.cells #[.string x1, .string x2] 60) HhH.out)
    have FN := Lib.hid (FIN.out _ w3 ho hg hb)
    clear ho hg hb
    refine hK.out _ _ hH (fun _ => ?_)
    clear hK K'
    try simp only [Act.put, List.setIfInBounds_toArray, List.set_cons_zero, List.set_cons_succ]
    refine wpAnyH_take (i := 8) (v := .pointer (some ⟨cb, 0, none⟩)) rfl (by kernel_rfl) (by kernel_rfl) (by kernel_rfl) (fun _ _ _ h => h) (Or.inl ⟨by rfl, ?_⟩) hH ?_
    · rintro w ⟨q1, q2⟩
      go_simp
    try simp only [Act.put, List.setIfInBounds_toArray, List.set_cons_zero, List.set_cons_succ]
    refine wpAnyH_take (i := 9) (v := .pointer (some ⟨cb, 1, none⟩)) rfl (by kernel_rfl) (by kernel_rfl) (by kernel_rfl) (fun _ _ _ h => h) (Or.inl ⟨by rfl, ?_⟩) hH ?_
    · rintro w ⟨q1, q2⟩
      go_simp
    try simp only [Act.put, List.setIfInBounds_toArray, List.set_cons_zero, List.set_cons_succ]
    refine wpAnyH_ready (rs := [10]) (by kernel_rfl) (by simp) ?_
    refine AllReadyH.cons rfl (fun K' hK => ?_) AllReadyH.nil
    have keepS : Hid (∀ u, (w3.setCell ⟨cb, 1, none⟩ u).cell? ⟨xb, 0, none⟩ = some (.string x1) ∧ (w3.setCell ⟨cb, 1, none⟩ u).cell? ⟨xb, 1, none⟩ = some (.string x2)) := Lib.hid (fun u => ⟨by rw [World.cell?_setCell_far _ _ _ _ (Ne.symm HXN.out.1)]; exact hH.1, by rw [World.cell?_setCell_far _ _ _ _ (Ne.symm HXN.out.1)]; exact hH.2⟩)
    clear hH
    go_simp
    refine hK.out _ _ (keepS.out _) (fun _ => ?_)
    clear hK K' keepS
    refine wpAnyH_done (by kernel_rfl) ?_ _
    try simp only [Act.put, List.setIfInBounds_toArray, List.set_cons_zero, List.set_cons_succ]
    go_wp2_with fail
    go_end0
    exact ⟨rfl, _, FN.out.1, HT0.out.trans ((HT1.out.mono (by simp)).trans (FN.out.2.mono (by have := HT1.out.size; simp at this; omega)))⟩
end Go.Proofs.Ytoeekjooigijbaa

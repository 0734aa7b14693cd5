/-
  slices.Delete and slices.Insert at []thing (two cells an element), as this program calls them: one element goes, one element comes to the head. Told block by block.
-/
import Derived.Test.YtoeekjooigijbaaRows
import Derived.Test.YtoeekjooigijbaaBase
import Derived.Lib.Overlaps
import Derived.Lib.AppendZerosOnto
import Derived.Laws.Externs
namespace Go.Proofs.Ytoeekjooigijbaa
open Go.RowKit
set_option linter.unusedVariables false
set_option linter.unusedSimpArgs false

theorem info60 : (Try.prog.info? 60).map (fun i => (i.zero, i.size, i.bytes)) = some (some (.agg #[.string ⟨#[]⟩, .string ⟨#[]⟩]), 2, 32) := by kernel_rfl
theorem zero60 (w : World) : (zeroValue 60).run Try.prog w = .ok (.agg #[.string ⟨#[]⟩, .string ⟨#[]⟩]) w := by kernel_rfl
def zz : Value := .agg #[.string ⟨#[]⟩, .string ⟨#[]⟩]

def DeletePost (g n cap i : Nat) (cur : Array Value) (w : World) (e : Ending) (w' : World) : Prop :=
  e = .returned (.slice (some ⟨g, 0, none⟩) (n - 1) cap) ∧ ∃ cur', w'.heap[g]? = some (.cells cur' 60 (0, 0)) ∧ cur'.size = cur.size ∧
    cur'.toList.take ((n - 1) * 2) = (cur.toList.take (i * 2)) ++ (cur.toList.take (n * 2)).drop ((i + 1) * 2) ∧ SameBut g w w'

theorem delete_cells (L Z : List Value) (n i : Nat) (hi : i < n) (hn : n * 2 ≤ L.length) (hz : Z.length = 2) :
    let L1 := L.take (i * 2) ++ (L.take (n * 2)).drop ((i + 1) * 2) ++ L.drop (i * 2 + ((L.take (n * 2)).drop ((i + 1) * 2)).length)
    let L2 := L1.take ((n - 1) * 2) ++ Z ++ L1.drop ((n - 1) * 2 + 2)
    L2.length = L.length ∧ L2.take ((n - 1) * 2) = L.take (i * 2) ++ (L.take (n * 2)).drop ((i + 1) * 2) := by
  have hl : (L.take (i * 2) ++ (L.take (n * 2)).drop ((i + 1) * 2)).length = (n - 1) * 2 := by simp; omega
  intro L1 L2
  have h1 : L1.length = L.length := by simp only [L1, List.length_append, hl]; simp; omega
  have ht : L1.take ((n - 1) * 2) = L.take (i * 2) ++ (L.take (n * 2)).drop ((i + 1) * 2) := by
    simp only [L1]
    rw [List.take_append_of_le_length (by omega), List.take_of_length_le (by omega)]
  constructor
  · simp only [L2, List.length_append, ht, hl, List.length_drop, h1, hz]; omega
  · simp only [L2, List.append_assoc]
    rw [List.take_append_of_le_length (by rw [ht]; omega), List.take_of_length_le (by rw [ht]; omega), ht]

set_option maxHeartbeats 400000 in
theorem delete_any (g n cap i : Nat) (cur : Array Value) (w : World) (hg : w.heap[g]? = some (.cells cur 60 (0, 0))) (hc : cur.size = cap * 2) (hn : n ≤ cap) (hi : i < n) (hcap : cap ≤ maxLen)
   (h1 : ∀ v ∈ cur.toList.take (n * 2), v.oneCell' = true) :
    Calls Try.prog 33 #[.slice (some ⟨g, 0, none⟩) n cap, .int .i64 i, .int .i64 (i + 1)] w (DeletePost g n cap i cur w) := by
  unfold maxLen at hcap
  obtain ⟨i0, hi0, hz0, hz1, hz2⟩ := info_parts info60
  have mixed : Try.prog.follows .mixedOrders = true := by kernel_rfl
  have hne : (((i : Nat) : Int) == ((i : Int) + 1)) = false := by rw [beq_eq_false_iff_ne]; omega
  have a1 : (0 : Int) ≤ (i : Int) + 1 := by omega
  have a2 : ((i : Int) + 1).toNat = i + 1 := by omega
  have a3 : (i : Int) + 1 ≤ (n : Int) := by omega
  obtain ⟨news, hnews⟩ : ∃ news, news = (cur.toList.take (n * 2)).drop ((i + 1) * 2) := ⟨_, rfl⟩
  have hnl : news.length = (n - (i + 1)) * 2 := by rw [hnews]; simp; omega
  obtain ⟨A, hA, hsrc⟩ : ∃ A : Addr, (if cap = i + 1 then some (⟨g, 0, none⟩ : Addr) else some ⟨g, (i + 1) * 2, none⟩) = some A ∧ (∀ j u, news[j]? = some u → w.drew.cell? (A.add j) = some u) := by
    by_cases h : cap = i + 1
    · refine ⟨_, by rw [if_pos h], fun j u hu => ?_⟩
      have h0 : news = [] := List.length_eq_zero_iff.1 (by omega)
      rw [h0] at hu
      simp at hu
    · refine ⟨_, by rw [if_neg h], fun j u hu => ?_⟩
      rw [addr_add]
      rw [hnews, List.getElem?_drop, List.getElem?_take] at hu
      split at hu
      · simpa [World.cell?, show w.drew.heap[g]? = _ from hg] using hu
      · cases hu
  have hrun := fun ty => run_append_room (P := Try.prog) w.drew 55 ty 60 i0 Try.underlying55 hi0 g i cap cur hg A (n - (i + 1)) (cap - (i + 1)) news (by rw [hz1, hnl]) hsrc
    (by rw [hnews]; exact fun u hu => h1 u (List.mem_of_mem_drop hu)) (by omega) (by rw [hz1, hnl]; omega)
  rw [hz1] at hrun
  obtain ⟨W1, hW1⟩ : ∃ W1, W1 = w.drew.setRow g (cur.toList.take (i * 2) ++ news ++ cur.toList.drop (i * 2 + news.length)).toArray := ⟨_, rfl⟩
  rw [← hW1] at hrun
  obtain ⟨cur1, hcur1⟩ : ∃ c1 : Array Value, c1 = (cur.toList.take (i * 2) ++ news ++ cur.toList.drop (i * 2 + news.length)).toArray := ⟨_, rfl⟩
  have hg1 : W1.heap[g]? = some (.cells cur1 60 (0, 0)) := by rw [hW1, hcur1]; exact setRow_heap _ g cur _ 60 _ hg
  have hs1 : cur1.size = cap * 2 := by rw [hcur1]; simp; omega
  have e1 : i + (n - (i + 1)) = n - 1 := by omega
  rw [e1] at hrun
  obtain ⟨W2, hW2⟩ : ∃ W2, W2 = W1.setRow g (cur1.toList.take ((n - 1) * 2) ++ (Builtin.zeroCells zz.cells 1).toList ++ cur1.toList.drop ((n - 1) * 2 + 1 * zz.cells.size)).toArray := ⟨_, rfl⟩
  have hclr : ∀ ty m c, m = 1 → (Builtin.clear_ #[55] ty #[.slice (some ⟨g, (n - 1) * 2, none⟩) m c]).run Try.prog W1 = .ok (.tuple #[]) W2 := by
    intro ty m c hm
    subst hm
    rw [hW2]
    exact run_clear_row (P := Try.prog) W1 55 60 ty zz Try.underlying55 zero60 g ((n - 1) * 2) 1 c (by omega) cur1 60 hg1 (by simp [zz, Value.cells]; omega) (by intro v hv; simp [zz, Builtin.zeroCells, Value.cells] at hv; obtain ⟨a, ha, rfl⟩ := hv; rcases (show a = 0 ∨ a = 1 by omega) with rfl | rfl <;> rfl)
  have HW2 := Lib.hid hW2
  have e2 : n - 1 ≤ cap := by omega
  have e3 : (i : Int) + ((n : Int) - ((i : Int) + 1)) ≤ n := by omega
  have HR := Lib.hid hrun
  have HC := Lib.hid hclr
  have fin := delete_cells cur.toList (Builtin.zeroCells zz.cells 1).toList n i hi (by simp; omega) (by rw [zeroCells_list]; rfl)
  rw [← hnews] at fin
  have HF := Lib.hid fin
  have HS := Lib.hid hs1
  have HG := Lib.hid hg1
  have HW := Lib.hid hW1
  have HC1 := Lib.hid hcur1
  have HCC := Lib.hid hc
  have HN := Lib.hid e1
  have hlt : 1 ≤ n := by omega
  have HNW := Lib.hid hnews
  clear hrun hclr hW2 hsrc hnews hnl hg h1 hc hg1 hs1 hW1 hcur1 fin e1
  have hic : i ≤ cap := by omega
  have hjc : i + 1 ≤ cap := by omega
  go_enter Try.func33, Try.ntmps33
  go_wp2_with fail
  have hone : n - (n - 1) = 1 := by omega
  have HO := Lib.hid hone
  clear hone
  go_region_law (refine step_run rfl (exec_append rfl (by simp [Act.eval, Act.put]) (by simp [Act.eval, Act.put]) (HR.out _)) ?_)
  go_wp2_with (with_reducible refine wpList_run rfl (exec_clear rfl rfl (HC.out _ _ _ HO.out)) ?_)
  go_ret
  rw [HW2.out]
  refine ⟨rfl, _, setRow_heap _ g cur1 _ 60 _ HG.out, ?_, ?_, ?_⟩
  · have := HF.out.1
    rw [HC1.out]
    simpa [zz, Value.cells] using this
  · rw [HC1.out, ← HNW.out]
    exact HF.out.2
  · rw [HW.out]
    exact ((SameBut.drew g w).trans (SameBut.setRow g _ _)).trans (SameBut.setRow g _ _)

theorem size60 (w : World) : (Go.sizeOf 60).run Try.prog w = .ok 2 w := by kernel_rfl
theorem size60' : (Try.prog.info? 60).map (·.size) = some 2 := by kernel_rfl

theorem shape_of (w : World) (g : Nat) (cur : Array Value) (hg : w.heap[g]? = some (.cells cur 60 (0, 0))) : w.shape? g = some (60, cur.size) := by
  simp [World.shape?, hg]

theorem insert_cells (L x : List Value) (n : Nat) (hx : x.length = 2) (hn : (n + 1) * 2 ≤ L.length) :
    let N := L.take (n * 2)
    let L1 := L.take 2 ++ N ++ L.drop (2 + N.length)
    let L2 := L1.take 0 ++ x ++ L1.drop (0 + x.length)
    L2.length = L.length ∧ L2.take ((n + 1) * 2) = x ++ N := by
  intro N L1 L2
  have hN : N.length = n * 2 := by simp [N]; omega
  have h1 : L1.length = L.length := by simp only [L1, List.length_append, hN, List.length_drop, List.length_take]; omega
  have hd : L1.drop (0 + x.length) = N ++ L.drop (2 + N.length) := by
    simp only [L1, List.append_assoc, hx]
    rw [List.drop_append_of_le_length (by simp; omega), List.drop_of_length_le (by simp; omega)]
    rfl
  constructor
  · simp only [L2, hd, List.length_append, List.length_take, List.length_drop, hN, hx]; omega
  · simp only [L2, hd, List.take_zero, List.nil_append]
    rw [← List.append_assoc, List.take_append_of_le_length (by simp [hN, hx]; omega), List.take_of_length_le (by simp [hN, hx]; omega)]

def RowPost (g n cap : Nat) (cs : List Value) (w : World) (e : Ending) (w' : World) : Prop :=
  e = .returned (.slice (some ⟨g, 0, none⟩) n cap) ∧ ∃ cur', w'.heap[g]? = some (.cells cur' 60 (0, 0)) ∧ cur'.size = cap * 2 ∧ cur'.toList.take (n * 2) = cs ∧ SameBut g w w'

set_option maxHeartbeats 400000 in
theorem insert_room (g n cap vb : Nat) (cur : Array Value) (x : List Value) (w : World) (hg : w.heap[g]? = some (.cells cur 60 (0, 0))) (hc : cur.size = cap * 2) (hn : n + 1 ≤ cap) (hi : 0 < n) (hcap : cap ≤ maxLen)
   (h1 : ∀ v ∈ cur.toList.take (n * 2), v.oneCell' = true) (hv : w.heap[vb]? = some (.cells x.toArray 60 (0, 0))) (hx2 : x.length = 2) (hx : ∀ u ∈ x, u.oneCell' = true) (hne : vb ≠ g) :
    Calls Try.prog 36 #[.slice (some ⟨g, 0, none⟩) n cap, .int .i64 0, .slice (some ⟨vb, 0, none⟩) 1 1] w (RowPost g (n + 1) cap (x ++ cur.toList.take (n * 2)) w) := by
  unfold maxLen at hcap
  have mixed : Try.prog.follows .mixedOrders = true := by kernel_rfl
  have hov : ∀ lb cb, (callFunc 37 #[.slice (some ⟨vb, 0, none⟩) 1 1, .slice (some ⟨g, 2, none⟩) lb cb]).run Try.prog w = .ok (.value (.bool false)) w := fun lb cb => by
    rw [run_callFunc_extern Try.func37 (by kernel_rfl) (by kernel_rfl) (by kernel_rfl) (e := Extern.SlicesOverlaps.overlaps #[55, 55] #[4]) (by kernel_rfl),
      Lib.run_overlaps_apart w 55 4 60 Try.underlying55 2 size60 ⟨vb, 0, none⟩ ⟨g, 2, none⟩ 1 1 lb cb hne 60 60 2 (cap * 2) (by rw [shape_of w vb _ hv]; simp [hx2]) (by rw [← hc]; exact shape_of w g _ hg) (by omega) (by simp [World.frozen?, hv]) (by simp [World.frozen?, hv])]
    rfl
  have hn1 : ((0 : Int) == (n : Int)) = false := by rw [beq_eq_false_iff_ne]; omega
  have a0 : (n : Int) + 1 ≤ (cap : Int) := by omega
  have a3 : (1 : Int) ≤ (n : Int) := by omega
  have a5 : ¬ (cap = 1) := by omega
  have a6 : ¬ (cap = 0) := by omega
  obtain ⟨news, hnews⟩ : ∃ news, news = cur.toList.take (n * 2) := ⟨_, rfl⟩
  have hnl : news.length = n * 2 := by rw [hnews]; simp; omega
  obtain ⟨cur1, hcur1⟩ : ∃ c1 : Array Value, c1 = (cur.toList.take 2 ++ news ++ cur.toList.drop (2 + news.length)).toArray := ⟨_, rfl⟩
  obtain ⟨W1, hW1⟩ : ∃ W1, W1 = w.drew.setRow g cur1 := ⟨_, rfl⟩
  have hcp1 : ∀ ty m dc sc k, k = n + 1 → m = n → (Builtin.copy_ #[55, 55] ty #[.slice (some ⟨g, 2, none⟩) m dc, .slice (some ⟨g, 0, none⟩) k sc]).run Try.prog w.drew = .ok (goInt (n : Nat)) W1 := by
    intro ty m dc sc k hk hm
    subst hk hm
    rw [hW1, hcur1]
    refine run_copy_at (P := Try.prog) w.drew 55 55 ty 60 2 g 2 _ dc ⟨g, 0, none⟩ _ sc m cur 60 news Try.underlying55 size60' hg (by show min _ _ = _; omega) hnl ?_ (by rw [hnl]; omega) (by rw [hnews]; exact fun u hu => h1 u hu)
    intro j u hu
    rw [addr_add]
    rw [hnews, List.getElem?_take] at hu
    split at hu
    · simpa [World.cell?, show w.drew.heap[g]? = _ from hg] using hu
    · cases hu
  have hg1 : W1.heap[g]? = some (.cells cur1 60 (0, 0)) := by rw [hW1]; exact setRow_heap _ g cur _ 60 _ hg
  have hs1 : cur1.size = cap * 2 := by rw [hcur1]; simp; omega
  have hv1 : W1.heap[vb]? = some (.cells x.toArray 60 (0, 0)) := by rw [hW1, setRow_other _ _ _ _ hne]; exact hv
  obtain ⟨W2, hW2⟩ : ∃ W2, W2 = W1.setRow g (cur1.toList.take 0 ++ x ++ cur1.toList.drop (0 + x.length)).toArray := ⟨_, rfl⟩
  have hcp2 : ∀ ty m dc, m = n + 1 → (Builtin.copy_ #[55, 55] ty #[.slice (some ⟨g, 0, none⟩) m dc, .slice (some ⟨vb, 0, none⟩) 1 1]).run Try.prog W1 = .ok (goInt (1 : Nat)) W2 := by
    intro ty m dc hm
    subst hm
    rw [hW2]
    refine run_copy_at (P := Try.prog) W1 55 55 ty 60 2 g 0 _ dc ⟨vb, 0, none⟩ 1 1 1 cur1 60 x Try.underlying55 size60' hg1 (by show min _ _ = _; omega) hx2 ?_ (by rw [hx2]; omega) hx
    intro j u hu
    rw [addr_add]
    simpa [World.cell?, hv1] using hu
  have a7 : (1 : Int) ≤ (n : Int) + 1 := by omega
  have a8 : (0 : Int) ≤ (n : Int) + 1 := by omega
  have hw1 : IntKind.i64.wrap 1 = 1 := by kernel_rfl
  have hlt : n < cap := by omega
  have fin := insert_cells cur.toList x n hx2 (by simp; omega)
  rw [← hnews] at fin ⊢
  have hcc : cur.toList.length = cap * 2 := by simpa using hc
  rw [hcc] at fin
  have HF := Lib.hid fin
  have H1 := Lib.hid hcp1
  have H2 := Lib.hid hcp2
  have HW1 := Lib.hid hW1
  have HW2 := Lib.hid hW2
  have HG1 := Lib.hid hg1
  have HC1 := Lib.hid hcur1
  have HN := Lib.hid hnews
  clear hcp1 hcp2 hW1 hW2 hg1 hs1 hv1 hcur1 hnews hnl h1 hv hx hg hc fin hx2 hcc
  go_enter Try.func36, Try.ntmps36
  go_wp2_with (simp only [hov])
  go_region_law (refine step_run rfl (exec_copy rfl (by simp [Act.eval, Act.put]) (by simp [Act.eval, Act.put]) (H1.out _ n (cap - 1) cap (n + 1) rfl rfl)) ?_)
  go_wp2_with (with_reducible refine wpList_run rfl (exec_copy rfl rfl rfl (H2.out _ _ _ rfl)) ?_)
  go_ret
  rw [HW2.out]
  refine ⟨rfl, _, setRow_heap _ g cur1 _ 60 _ HG1.out, ?_, ?_, ?_⟩
  · rw [HC1.out]
    simpa using HF.out.1
  · rw [HC1.out]
    simpa using HF.out.2
  · rw [HW1.out]
    exact ((SameBut.drew g w).trans (SameBut.setRow g _ _)).trans (SameBut.setRow g _ _)

/-- Where there is no room: a new row. -/
def GrowPost (n : Nat) (cs : List Value) (w : World) (e : Ending) (w' : World) : Prop :=
  ∃ gc cur', e = .returned (.slice (some ⟨w.heap.size, 0, none⟩) n gc) ∧ w'.heap[w.heap.size]? = some (.cells cur' 60 (0, 0)) ∧ n ≤ gc ∧ gc ≤ maxLen ∧ cur'.size = gc * 2 ∧ cur'.toList.take (n * 2) = cs ∧ w.grownBy w' none

theorem grow_cells (L x N : List Value) (n : Nat) (hx : x.length = 2) (hN : N.length = n * 2) (hn : (n + 1) * 2 ≤ L.length) :
    let L1 := L.take 0 ++ x ++ L.drop (0 + x.length)
    let L2 := L1.take 2 ++ N ++ L1.drop (2 + N.length)
    L2.length = L.length ∧ L2.take ((n + 1) * 2) = x ++ N := by
  intro L1 L2
  have h1 : L1.length = L.length := by simp only [L1, List.length_append, List.length_take, List.length_drop, hx]; omega
  have ht : L1.take 2 = x := by
    simp only [L1, List.take_zero, List.nil_append]
    rw [List.take_append_of_le_length (by omega), List.take_of_length_le (by omega)]
  constructor
  · simp only [L2, ht, List.length_append, List.length_drop, h1, hx, hN]; omega
  · simp only [L2, ht]
    rw [List.take_append_of_le_length (by simp [hN, hx]; omega), List.take_of_length_le (by simp [hN, hx]; omega)]

set_option maxHeartbeats 800000 in
theorem insert_grow (g n cap vb : Nat) (cur : Array Value) (x : List Value) (w : World) (hg : w.heap[g]? = some (.cells cur 60 (0, 0))) (hc : cur.size = cap * 2) (hn : n ≤ cap) (hfull : cap < n + 1) (hi : 0 < n) (hcap : n ≤ 1000)
   (h1 : ∀ v ∈ cur.toList.take (n * 2), v.oneCell' = true) (hv : w.heap[vb]? = some (.cells x.toArray 60 (0, 0))) (hx2 : x.length = 2) (hx : ∀ u ∈ x, u.oneCell' = true) :
    Calls Try.prog 36 #[.slice (some ⟨g, 0, none⟩) n cap, .int .i64 0, .slice (some ⟨vb, 0, none⟩) 1 1] w (GrowPost (n + 1) (x ++ cur.toList.take (n * 2)) w) := by
  obtain ⟨i0, hi0, hz0, hz1, hz2⟩ := info_parts info60
  have mixed : Try.prog.follows .mixedOrders = true := by kernel_rfl
  have hlg := lt_of_block hg
  have hlv := lt_of_block hv
  have hn1 : ((0 : Int) == (n : Int)) = false := by rw [beq_eq_false_iff_ne]; omega
  have a0 : ¬ (n : Int) + 1 ≤ (cap : Int) := by omega
  have a0' : (cap : Int) < (n : Int) + 1 := by omega
  have a3 : (1 : Int) ≤ (n : Int) := by omega
  obtain ⟨gc, hgc⟩ : ∃ gc, gc = grownCap w (0 + (n + 1)) cap 60 := ⟨_, rfl⟩
  have hge : n + 1 ≤ gc := by rw [hgc]; have := grownCap_ge w (0 + (n + 1)) cap 60; omega
  have hgm : gc ≤ maxLen := by rw [hgc]; exact grownCap_le_maxLen w (0 + (n + 1)) cap 60 (by unfold maxLen; omega)
  have a5 : ¬ (gc = 1) := by omega
  have a6 : ¬ (gc = 0) := by omega
  obtain ⟨cur0, hcur0⟩ : ∃ c0 : Array Value, c0 = (#[] ++ Builtin.zeroCells zz.cells (n + 1) ++ Builtin.zeroCells zz.cells (gc - (n + 1)) : Array Value) := ⟨_, rfl⟩
  have hs0 : cur0.size = gc * 2 := by rw [hcur0]; simp [size_zeroCells, zz, Value.cells]; omega
  obtain ⟨W0, hW0⟩ : ∃ W0, W0 = w.drew.alloc (.cells cur0 60) := ⟨_, rfl⟩
  have happ : ∀ ty k, k = (n : Int) + 1 → (Builtin.append_ #[55, 3] ty #[.slice (some ⟨g, 0, none⟩) 0 cap, .int .i64 k]).run Try.prog w = .ok (.slice (some ⟨w.heap.size, 0, none⟩) (n + 1) gc) W0 := by
    intro ty k hk
    subst hk
    have h := Lib.run_append_grow_zeros (P := Try.prog) w 55 3 ty 60 i0 zz .i64 .i64 Try.underlying55 Try.underlying3 hi0 hz0 (some ⟨g, 0, none⟩) 0 cap [] (run_firstCells_some w.drew i0.size 0 ⟨g, 0, none⟩ 0 cap [] (by simp) (by simp)) (n + 1) (by omega) (by omega) (by omega) (by omega) (by rw [hz2]; omega)
      (growslice_fits (by omega) (by rw [hz2]; omega))
    rw [hW0, hcur0, hgc]
    simpa using h
  have hng : W0.heap[w.heap.size]? = some (.cells cur0 60 (0, 0)) := by rw [hW0]; exact heap_alloc_new w.drew _
  have hold : ∀ k, k < w.heap.size → W0.heap[k]? = w.heap[k]? := fun k hk => by rw [hW0]; exact Below.heap_alloc w.drew _ k hk
  obtain ⟨news, hnews⟩ : ∃ news, news = cur.toList.take (n * 2) := ⟨_, rfl⟩
  have hnl : news.length = n * 2 := by rw [hnews]; simp; omega
  obtain ⟨cur1, hcur1⟩ : ∃ c1 : Array Value, c1 = (cur0.toList.take 0 ++ x ++ cur0.toList.drop (0 + x.length)).toArray := ⟨_, rfl⟩
  obtain ⟨W1, hW1⟩ : ∃ W1, W1 = W0.setRow w.heap.size cur1 := ⟨_, rfl⟩
  have hcp1 : ∀ ty m dc, m = n + 1 → (Builtin.copy_ #[55, 55] ty #[.slice (some ⟨w.heap.size, 0, none⟩) m dc, .slice (some ⟨vb, 0, none⟩) 1 1]).run Try.prog W0 = .ok (goInt (1 : Nat)) W1 := by
    intro ty m dc hm
    subst hm
    rw [hW1, hcur1]
    refine run_copy_at (P := Try.prog) W0 55 55 ty 60 2 w.heap.size 0 _ dc ⟨vb, 0, none⟩ 1 1 1 cur0 60 x Try.underlying55 size60' hng (by show min _ _ = _; omega) hx2 ?_ (by rw [hx2]; omega) hx
    intro j u hu
    rw [addr_add]
    simpa [World.cell?, hold vb hlv, hv] using hu
  have hs1 : cur1.size = gc * 2 := by rw [hcur1]; simp [hx2]; omega
  have hg1 : W1.heap[w.heap.size]? = some (.cells cur1 60 (0, 0)) := by rw [hW1]; exact setRow_heap _ _ cur0 _ 60 _ hng
  have hgo : W1.heap[g]? = some (.cells cur 60 (0, 0)) := by rw [hW1, setRow_other _ _ _ _ (by omega), hold g hlg]; exact hg
  obtain ⟨W2, hW2⟩ : ∃ W2, W2 = W1.drew.setRow w.heap.size (cur1.toList.take 2 ++ news ++ cur1.toList.drop (2 + news.length)).toArray := ⟨_, rfl⟩
  have hcp2 : ∀ ty m dc k sc, m = n → k = n → (Builtin.copy_ #[55, 55] ty #[.slice (some ⟨w.heap.size, 2, none⟩) m dc, .slice (some ⟨g, 0, none⟩) k sc]).run Try.prog W1.drew = .ok (goInt (n : Nat)) W2 := by
    intro ty m dc k sc hm hk
    subst hm hk
    rw [hW2]
    refine run_copy_at (P := Try.prog) W1.drew 55 55 ty 60 2 w.heap.size 2 _ dc ⟨g, 0, none⟩ _ sc k cur1 60 news Try.underlying55 size60' hg1 (by show min _ _ = _; omega) hnl ?_ (by rw [hnl]; omega) (by rw [hnews]; exact fun u hu => h1 u hu)
    intro j u hu
    rw [addr_add]
    rw [hnews, List.getElem?_take] at hu
    split at hu
    · simpa [World.cell?, show W1.drew.heap[g]? = _ from hgo] using hu
    · cases hu
  have hw1 : IntKind.i64.wrap 1 = 1 := by kernel_rfl
  have a7 : (1 : Int) ≤ (n : Int) + 1 := by omega
  have a8 : (0 : Int) ≤ (n : Int) + 1 := by omega
  have fin := grow_cells cur0.toList x news n hx2 hnl (by simp; omega)
  rw [← hnews]
  have hcc : cur0.toList.length = gc * 2 := by simpa using hs0
  rw [hcc] at fin
  have hg2 : W2.heap[w.heap.size]? = some (.cells (cur1.toList.take 2 ++ news ++ cur1.toList.drop (2 + news.length)).toArray 60 (0, 0)) := by rw [hW2]; exact setRow_heap _ _ cur1 _ 60 _ hg1
  have hgrow : w.grownBy W2 none := by
    refine ⟨by rw [hW2, hW1, hW0]; rfl, by rw [hW2, hW1, hW0]; rfl, by rw [hW2, hW1, hW0]; rfl, by rw [hW2, hW1, hW0]; simp, fun k hk _ => ?_⟩
    rw [hW2, setRow_other _ _ _ _ (by omega)]
    show W1.heap[k]? = _
    rw [hW1, setRow_other _ _ _ _ (by omega)]
    exact hold k hk
  have HF := Lib.hid fin
  have H0 := Lib.hid happ
  have H1 := Lib.hid hcp1
  have H2 := Lib.hid hcp2
  have HG2 := Lib.hid hg2
  have HGR := Lib.hid hgrow
  have HC1 := Lib.hid hcur1
  have HGM := Lib.hid hgm
  clear happ hcp1 hcp2 hW0 hW1 hW2 hng hold hg1 hs1 hgo hcur1 hnews hnl h1 hv hx hg hc fin hx2 hcc hs0 hcur0 hgc hg2 hgrow hgm hlg hlv
  obtain ⟨nb, hnb⟩ : ∃ nb, nb = w.heap.size := ⟨_, rfl⟩
  rw [← hnb] at H0 H1 H2 HG2
  have HNB := Lib.hid hnb
  clear hnb
  go_enter Try.func36, Try.ntmps36
  go_wp2_with (first | (at_builtin; refine wpList_run rfl (exec_append rfl rfl rfl (H0.out _ _ (by omega))) ?_) | (with_reducible refine wpList_run rfl (exec_copy rfl rfl rfl (H1.out _ _ _ rfl)) ?_))
  go_region_law (refine step_run rfl (exec_copy rfl (by simp [Act.eval, Act.put]) (by simp [Act.eval, Act.put]) (H2.out _ n (gc - 1) n cap rfl rfl)) ?_)
  go_wp2_with fail
  go_ret
  refine ⟨gc, _, by rw [← HNB.out]; rfl, by rw [← HNB.out]; exact HG2.out, by omega, HGM.out, ?_, ?_, HGR.out⟩
  · rw [HC1.out]
    simpa using HF.out.1
  · rw [HC1.out]
    simpa using HF.out.2

/-- What a call does to a row that it owns: it is the old one, or a new one; nothing else has turned. -/
def OwnPost (base : Nat) (v : Value) (n : Nat) (xs : List Value) (w : World) (e : Ending) (w' : World) : Prop :=
  ∃ v', e = .returned v' ∧ w'.ownsRow base 60 2 v' n xs ∧ w.grownBy w' v.ownBlock ∧ (v'.ownBlock = v.ownBlock ∨ v'.ownBlock = some w.heap.size)

theorem SameBut.grown {g : Nat} {w w' : World} (h : SameBut g w w') (v : Value) (hv : v.ownBlock = some g) : w.grownBy w' v.ownBlock :=
  ⟨h.os, h.tape, h.output, by rw [h.size]; exact Nat.le_refl _, fun k _ hk => h.block k (fun e => hk (by rw [hv, e]))⟩

theorem delete_own (base : Nat) (v : Value) (n i : Nat) (xs : List Value) (w : World) (hown : w.ownsRow base 60 2 v n xs) (h1 : ∀ u ∈ xs, u.oneCell' = true) (hi : i < n) :
    Calls Try.prog 33 #[v, .int .i64 i, .int .i64 (i + 1)] w (OwnPost base v (n - 1) (xs.take (i * 2) ++ xs.drop ((i + 1) * 2)) w) := by
  obtain ⟨hl, ⟨_, hn0⟩ | ⟨g, cap, cur, rfl, hb, hg, hn, hm, hs, ht⟩⟩ := hown
  · omega
  · refine (delete_any g n cap i cur w hg hs hn hi hm (by rw [ht]; exact h1)).mono fun e w' h => ?_
    obtain ⟨rfl, cur', hg', hs', ht', hsb⟩ := h
    have ht2 : cur.toList.take (i * 2) = xs.take (i * 2) := by rw [← ht, List.take_take]; congr 1; omega
    refine ⟨_, rfl, ⟨by simp [hl]; omega, .inr ⟨g, cap, cur', rfl, hb, hg', by omega, hm, by rw [hs', hs], ?_⟩⟩, hsb.grown _ rfl, .inl rfl⟩
    rw [ht', ht, ht2]

set_option maxHeartbeats 400000 in
theorem insert_own (base : Nat) (v : Value) (n vb : Nat) (xs x : List Value) (w : World) (hown : w.ownsRow base 60 2 v n xs) (h1 : ∀ u ∈ xs, u.oneCell' = true) (hn : n ≤ 1000) (hbase : base ≤ w.heap.size)
    (hv : w.heap[vb]? = some (.cells x.toArray 60 (0, 0))) (hx2 : x.length = 2) (hx : ∀ u ∈ x, u.oneCell' = true) (hne : v.ownBlock ≠ some vb) :
    Calls Try.prog 36 #[v, .int .i64 0, .slice (some ⟨vb, 0, none⟩) 1 1] w (OwnPost base v (n + 1) (x ++ xs) w) := by
  by_cases h0 : n = 0
  · subst h0
    obtain rfl : xs = [] := List.eq_nil_of_length_eq_zero (by simpa using hown.1)
    obtain ⟨i0, hi0, hz0, hz1, hz2⟩ := info_parts info60
    have hsrc : Src Try.prog 2 55 (.slice (some ⟨vb, 0, none⟩) 1 1) 1 x w := Src.ofSlice w Try.underlying55 _ _ _ _ (by rw [hx2]) (fun j u hu => by rw [addr_add]; simpa [World.cell?, hv] using hu) hx
    have HA := Lib.hid (fun ty => run_append_owns (P := Try.prog) w base 55 55 ty 60 i0 zz 2 32 Try.underlying55 hi0 hz0 hz1 hz2 rfl v 0 [] hown _ 1 x hsrc (by unfold maxLen; omega) (by omega) hbase)
    have hsh : v = .slice none 0 0 ∨ ∃ g cap, v = .slice (some ⟨g, 0, none⟩) 0 cap := by
      rcases hown.2 with ⟨rfl, _⟩ | ⟨g, cap, _, rfl, _⟩
      · exact .inl rfl
      · exact .inr ⟨g, cap, rfl⟩
    clear hown hsrc hv hx hne
    rcases hsh with rfl | ⟨g, cap, rfl⟩
    · go_enter Try.func36, Try.ntmps36
      obtain ⟨v', w', hr, ho, hg, hb⟩ := HA.out 55
      have HR := Lib.hid hr
      have HO := Lib.hid (show OwnPost base (.slice none 0 0) (0 + 1) (x ++ []) w (.returned v') w' from ⟨v', rfl, by simpa using ho, hg, hb⟩)
      clear hr ho hg hb
      go_wp2_with (at_builtin; refine wpList_run rfl (exec_append rfl rfl rfl HR.out) ?_)
      go_ret
      exact HO.out
    · go_enter Try.func36, Try.ntmps36
      obtain ⟨v', w', hr, ho, hg, hb⟩ := HA.out 55
      have HR := Lib.hid hr
      have HO := Lib.hid (show OwnPost base (.slice (some ⟨g, 0, none⟩) 0 cap) (0 + 1) (x ++ []) w (.returned v') w' from ⟨v', rfl, by simpa using ho, hg, hb⟩)
      clear hr ho hg hb
      go_wp2_with (at_builtin; refine wpList_run rfl (exec_append rfl rfl rfl HR.out) ?_)
      go_ret
      exact HO.out
  · obtain ⟨hl, ⟨_, hn0⟩ | ⟨g, cap, cur, rfl, hb, hg, hnc, hm, hs, ht⟩⟩ := hown
    · omega
    · by_cases hr : n + 1 ≤ cap
      · refine (insert_room g n cap vb cur x w hg hs hr (by omega) hm (by rw [ht]; exact h1) hv hx2 hx (fun e => hne (by rw [e]; rfl))).mono fun e w' h => ?_
        obtain ⟨rfl, cur', hg', hs', ht', hsb⟩ := h
        exact ⟨_, rfl, ⟨by simp [hl, hx2]; omega, .inr ⟨g, cap, cur', rfl, hb, hg', hr, hm, hs', by rw [ht', ht]⟩⟩, hsb.grown _ rfl, .inl rfl⟩
      · refine (insert_grow g n cap vb cur x w hg hs hnc (by omega) (by omega) hn (by rw [ht]; exact h1) hv hx2 hx).mono fun e w' h => ?_
        obtain ⟨gc, cur', rfl, hg', h2, h3, hs', ht', hgr⟩ := h
        exact ⟨_, rfl, ⟨by simp [hl, hx2]; omega, .inr ⟨w.heap.size, gc, cur', rfl, hbase, hg', h2, h3, hs', by rw [ht', ht]⟩⟩, ⟨hgr.os, hgr.tape, hgr.output, hgr.size, fun k hk _ => hgr.block k hk (by simp)⟩, .inr rfl⟩
end Go.Proofs.Ytoeekjooigijbaa

/-
  slices.Delete and slices.Insert at []string, as this program calls them: one element goes, one element comes, where there is room. Told block by block.
-/
import Derived.Test.YtgfklfpjibjhmaaRows
import Derived.Test.YtgfklfpjibjhmaaBase
import Derived.Lib.Overlaps
import Derived.Laws.Externs
namespace Go.Proofs.Ytgfklfpjibjhmaa
open Go.RowKit
set_option linter.unusedVariables false
set_option linter.unusedSimpArgs false

theorem info9 : (Try.prog.info? 9).map (fun i => (i.zero, i.size, i.bytes)) = some (some (.string ⟨#[]⟩), 1, 16) := by kernel_rfl
theorem zero9 (w : World) : (zeroValue 9).run Try.prog w = .ok (.string ⟨#[]⟩) w := by kernel_rfl

def DeletePost (g n cap i : Nat) (cur : Array Value) (w : World) (e : Ending) (w' : World) : Prop :=
  e = .returned (.slice (some ⟨g, 0, none⟩) (n - 1) cap) ∧ ∃ cur', w'.heap[g]? = some (.cells cur' 9 (0, 0)) ∧ cur'.size = cur.size ∧
    cur'.toList.take (n - 1) = (cur.toList.take i) ++ (cur.toList.take n).drop (i + 1) ∧ SameBut g w w'

theorem delete_cells (L Z : List Value) (n i : Nat) (hi : i < n) (hn : n ≤ L.length) (hz : Z.length = 1) :
    let L1 := L.take i ++ (L.take n).drop (i + 1) ++ L.drop (i + ((L.take n).drop (i + 1)).length)
    let L2 := L1.take (n - 1) ++ Z ++ L1.drop (n - 1 + 1)
    L2.length = L.length ∧ L2.take (n - 1) = L.take i ++ (L.take n).drop (i + 1) := by
  have hl : (L.take i ++ (L.take n).drop (i + 1)).length = n - 1 := by simp; omega
  intro L1 L2
  have h1 : L1.length = L.length := by simp only [L1, List.length_append, hl]; simp; omega
  have ht : L1.take (n - 1) = L.take i ++ (L.take n).drop (i + 1) := by
    simp only [L1]
    rw [List.take_append_of_le_length (by omega), List.take_of_length_le (by omega)]
  constructor
  · simp only [L2, List.length_append, ht, hl, List.length_drop, h1, hz]; omega
  · simp only [L2, List.append_assoc]
    rw [List.take_append_of_le_length (by rw [ht]; omega), List.take_of_length_le (by rw [ht]; omega), ht]

set_option maxHeartbeats 400000 in
theorem delete_any (g n cap i : Nat) (cur : Array Value) (w : World) (hg : w.heap[g]? = some (.cells cur 9 (0, 0))) (hc : cur.size = cap) (hn : n ≤ cap) (hi : i < n) (hcap : cap ≤ maxLen)
   (h1 : ∀ v ∈ cur.toList.take n, v.oneCell' = true) :
    Calls Try.prog 34 #[.slice (some ⟨g, 0, none⟩) n cap, .int .i64 i, .int .i64 (i + 1)] w (DeletePost g n cap i cur w) := by
  unfold maxLen at hcap
  obtain ⟨i0, hi0, hz0, hz1, hz2⟩ := info_parts info9
  have mixed : Try.prog.follows .mixedOrders = true := by kernel_rfl
  have hne : (((i : Nat) : Int) == ((i : Int) + 1)) = false := by rw [beq_eq_false_iff_ne]; omega
  have a1 : (0 : Int) ≤ (i : Int) + 1 := by omega
  have a2 : ((i : Int) + 1).toNat = i + 1 := by omega
  have a3 : (i : Int) + 1 ≤ (n : Int) := by omega
  obtain ⟨news, hnews⟩ : ∃ news, news = (cur.toList.take n).drop (i + 1) := ⟨_, rfl⟩
  have hnl : news.length = n - (i + 1) := by rw [hnews]; simp; omega
  obtain ⟨A, hA, hsrc⟩ : ∃ A : Addr, (if cap = i + 1 then some (⟨g, 0, none⟩ : Addr) else some ⟨g, i + 1, none⟩) = some A ∧ (∀ j u, news[j]? = some u → w.drew.cell? (A.add j) = some u) := by
    by_cases h : cap = i + 1
    · refine ⟨_, by rw [if_pos h], fun j u hu => ?_⟩
      have h0 : news = [] := List.length_eq_zero_iff.1 (by omega)
      rw [h0] at hu
      simp at hu
    · refine ⟨_, by rw [if_neg h], fun j u hu => ?_⟩
      rw [addr_add]
      rw [hnews, List.getElem?_drop, List.getElem?_take] at hu
      split at hu
      · simpa [World.cell?, show w.drew.heap[g]? = _ from hg] using hu
      · cases hu
  have hrun := fun ty => run_append_room (P := Try.prog) w.drew 27 ty 9 i0 Try.underlying27 hi0 g i cap cur hg A (n - (i + 1)) (cap - (i + 1)) news (by rw [hz1, hnl, Nat.mul_one]) hsrc
    (by rw [hnews]; exact fun u hu => h1 u (List.mem_of_mem_drop hu)) (by omega) (by rw [hz1, hnl]; omega)
  rw [hz1, Nat.mul_one] at hrun
  obtain ⟨W1, hW1⟩ : ∃ W1, W1 = w.drew.setRow g (cur.toList.take i ++ news ++ cur.toList.drop (i + news.length)).toArray := ⟨_, rfl⟩
  rw [← hW1] at hrun
  obtain ⟨cur1, hcur1⟩ : ∃ c1 : Array Value, c1 = (cur.toList.take i ++ news ++ cur.toList.drop (i + news.length)).toArray := ⟨_, rfl⟩
  have hg1 : W1.heap[g]? = some (.cells cur1 9 (0, 0)) := by rw [hW1, hcur1]; exact setRow_heap _ g cur _ 9 _ hg
  have hs1 : cur1.size = cap := by rw [hcur1]; simp; omega
  have e1 : i + (n - (i + 1)) = n - 1 := by omega
  rw [e1] at hrun
  obtain ⟨W2, hW2⟩ : ∃ W2, W2 = W1.setRow g (cur1.toList.take (n - 1) ++ (Builtin.zeroCells (Value.string ⟨#[]⟩).cells 1).toList ++ cur1.toList.drop (n - 1 + 1 * (Value.string ⟨#[]⟩).cells.size)).toArray := ⟨_, rfl⟩
  have hclr : ∀ ty m c, m = 1 → (Builtin.clear_ #[27] ty #[.slice (some ⟨g, n - 1, none⟩) m c]).run Try.prog W1 = .ok (.tuple #[]) W2 := by
    intro ty m c hm
    subst hm
    rw [hW2]
    exact run_clear_row (P := Try.prog) W1 27 9 ty _ Try.underlying27 zero9 g (n - 1) 1 c (by omega) cur1 9 hg1 (by simp [Value.cells]; omega) (by intro v hv; simp [Builtin.zeroCells, Value.cells] at hv; subst hv; rfl)
  have HW2 := Lib.hid hW2
  have e2 : n - 1 ≤ cap := by omega
  have e3 : (i : Int) + ((n : Int) - ((i : Int) + 1)) ≤ n := by omega
  have HR := Lib.hid hrun
  have HC := Lib.hid hclr
  have fin := delete_cells cur.toList (Builtin.zeroCells (Value.string ⟨#[]⟩).cells 1).toList n i hi (by simp; omega) (by rw [zeroCells_list]; rfl)
  rw [← hnews] at fin
  have HF := Lib.hid fin
  have HS := Lib.hid hs1
  have HG := Lib.hid hg1
  have HW := Lib.hid hW1
  have HC1 := Lib.hid hcur1
  have HCC := Lib.hid hc
  have HN := Lib.hid e1
  have hlt : 1 ≤ n := by omega
  have HNW := Lib.hid hnews
  clear hrun hclr hW2 hsrc hnews hnl hg h1 hc hg1 hs1 hW1 hcur1 fin e1
  have hic : i ≤ cap := by omega
  have hjc : i + 1 ≤ cap := by omega
  go_enter Try.func34, Try.ntmps34
  go_wp2_with fail
  have hone : n - (n - 1) = 1 := by omega
  have HO := Lib.hid hone
  clear hone
  go_region_law (refine step_run rfl (exec_append rfl (by simp [Act.eval, Act.put]) (by simp [Act.eval, Act.put]) (HR.out _)) ?_)
  go_wp2_with (with_reducible refine wpList_run rfl (exec_clear rfl rfl (HC.out _ _ _ HO.out)) ?_)
  go_ret
  rw [HW2.out]
  refine ⟨rfl, _, setRow_heap _ g cur1 _ 9 _ HG.out, ?_, ?_, ?_⟩
  · have := HF.out.1
    rw [HC1.out]
    simpa [Value.cells] using this
  · rw [HC1.out, ← HNW.out]
    exact HF.out.2
  · rw [HW.out]
    exact ((SameBut.drew g w).trans (SameBut.setRow g _ _)).trans (SameBut.setRow g _ _)
theorem size9 (w : World) : (Go.sizeOf 9).run Try.prog w = .ok 1 w := by kernel_rfl
theorem size9' : (Try.prog.info? 9).map (·.size) = some 1 := by kernel_rfl

def InsertPost (g n cap i : Nat) (cur : Array Value) (x : Value) (w : World) (e : Ending) (w' : World) : Prop :=
  e = .returned (.slice (some ⟨g, 0, none⟩) (n + 1) cap) ∧ ∃ cur', w'.heap[g]? = some (.cells cur' 9 (0, 0)) ∧ cur'.size = cur.size ∧
    cur'.toList.take (n + 1) = cur.toList.take i ++ [x] ++ (cur.toList.take n).drop i ∧ SameBut g w w'

theorem shape_of (w : World) (g : Nat) (cur : Array Value) (hg : w.heap[g]? = some (.cells cur 9 (0, 0))) : w.shape? g = some (9, cur.size) := by
  simp [World.shape?, hg]

theorem insert_cells (L : List Value) (x : Value) (n i : Nat) (hi : i < n) (hn : n + 1 ≤ L.length) :
    let N := (L.take n).drop i
    let L1 := L.take (i + 1) ++ N ++ L.drop (i + 1 + N.length)
    let L2 := L1.take i ++ [x] ++ L1.drop (i + 1)
    L2.length = L.length ∧ L2.take (n + 1) = L.take i ++ [x] ++ N := by
  intro N L1 L2
  have hN : N.length = n - i := by simp [N]; omega
  have h1 : L1.length = L.length := by simp only [L1, List.length_append, hN, List.length_drop, List.length_take]; omega
  have ht : L1.take i = L.take i := by
    simp only [L1, List.append_assoc]
    rw [List.take_append_of_le_length (by simp; omega), List.take_take]
    congr 1; omega
  have hd : L1.drop (i + 1) = N ++ L.drop (i + 1 + N.length) := by
    simp only [L1, List.append_assoc]
    rw [List.drop_append_of_le_length (by simp; omega), List.drop_of_length_le (by simp; omega)]
    rfl
  constructor
  · simp only [L2, List.length_append, ht, hd, List.length_take, List.length_drop, List.length_singleton, hN]; omega
  · simp only [L2, ht, hd]
    rw [← List.append_assoc, List.take_append_of_le_length (by simp [hN]; omega), List.take_of_length_le (by simp [hN]; omega)]

set_option maxHeartbeats 400000 in
theorem insert_mid (g n cap i vb : Nat) (cur : Array Value) (x : Value) (w : World) (hg : w.heap[g]? = some (.cells cur 9 (0, 0))) (hc : cur.size = cap) (hn : n + 1 ≤ cap) (hi : i < n) (hcap : cap ≤ maxLen)
   (h1 : ∀ v ∈ cur.toList.take n, v.oneCell' = true) (hv : w.heap[vb]? = some (.cells #[x] 9 (0, 0))) (hx : x.oneCell' = true) (hne : vb ≠ g) :
    Calls Try.prog 31 #[.slice (some ⟨g, 0, none⟩) n cap, .int .i64 i, .slice (some ⟨vb, 0, none⟩) 1 1] w (InsertPost g n cap i cur x w) := by
  unfold maxLen at hcap
  have mixed : Try.prog.follows .mixedOrders = true := by kernel_rfl
  have hov : ∀ lb cb, (callFunc 35 #[.slice (some ⟨vb, 0, none⟩) 1 1, .slice (some ⟨g, i + 1, none⟩) lb cb]).run Try.prog w = .ok (.value (.bool false)) w := fun lb cb => by
    rw [run_callFunc_extern Try.func35 (by kernel_rfl) (by kernel_rfl) (by kernel_rfl) (e := Extern.SlicesOverlaps.overlaps #[27, 27] #[4]) (by kernel_rfl),
      Lib.run_overlaps_apart w 27 4 9 Try.underlying27 1 size9 ⟨vb, 0, none⟩ ⟨g, i + 1, none⟩ 1 1 lb cb hne 9 9 1 cap (shape_of w vb _ hv) (by rw [← hc]; exact shape_of w g _ hg) (by omega) (by simp [World.frozen?, hv]) (by simp [World.frozen?, hv])]
    rfl
  have hn1 : (((i : Nat) : Int) == (n : Int)) = false := by rw [beq_eq_false_iff_ne]; omega
  have a0 : (n : Int) + 1 ≤ (cap : Int) := by omega
  have a1 : (0 : Int) ≤ (i : Int) + 1 := by omega
  have a2 : ((i : Int) + 1).toNat = i + 1 := by omega
  have a3 : (i : Int) + 1 ≤ (n : Int) := by omega
  have a4 : (i : Int) ≤ (n : Int) := by omega
  have a5 : ¬ (cap = i + 1) := by omega
  have a6 : ¬ (cap = i) := by omega
  obtain ⟨news, hnews⟩ : ∃ news, news = (cur.toList.take n).drop i := ⟨_, rfl⟩
  have hnl : news.length = n - i := by rw [hnews]; simp; omega
  obtain ⟨cur1, hcur1⟩ : ∃ c1 : Array Value, c1 = (cur.toList.take (i + 1) ++ news ++ cur.toList.drop (i + 1 + news.length)).toArray := ⟨_, rfl⟩
  obtain ⟨W1, hW1⟩ : ∃ W1, W1 = w.drew.setRow g cur1 := ⟨_, rfl⟩
  have hcp1 : ∀ ty m dc sc k, k = n + 1 - i → m = n - i → (Builtin.copy_ #[27, 27] ty #[.slice (some ⟨g, i + 1, none⟩) m dc, .slice (some ⟨g, i, none⟩) k sc]).run Try.prog w.drew = .ok (goInt (n - i : Nat)) W1 := by
    intro ty m dc sc k hk hm
    subst hk hm
    rw [hW1, hcur1]
    refine run_copy_at (P := Try.prog) w.drew 27 27 ty 9 1 g (i + 1) _ dc ⟨g, i, none⟩ _ sc (n - i) cur 9 news Try.underlying27 size9' hg (by show min _ _ = _; omega) (by rw [hnl, Nat.mul_one]) ?_ (by rw [hnl]; omega) (by rw [hnews]; exact fun u hu => h1 u (List.mem_of_mem_drop hu))
    intro j u hu
    rw [addr_add]
    rw [hnews, List.getElem?_drop, List.getElem?_take] at hu
    split at hu
    · simpa [World.cell?, show w.drew.heap[g]? = _ from hg] using hu
    · cases hu
  have hg1 : W1.heap[g]? = some (.cells cur1 9 (0, 0)) := by rw [hW1]; exact setRow_heap _ g cur _ 9 _ hg
  have hs1 : cur1.size = cap := by rw [hcur1]; simp; omega
  have hv1 : W1.heap[vb]? = some (.cells #[x] 9 (0, 0)) := by rw [hW1, setRow_other _ _ _ _ hne]; exact hv
  obtain ⟨W2, hW2⟩ : ∃ W2, W2 = W1.setRow g (cur1.toList.take i ++ [x] ++ cur1.toList.drop (i + 1)).toArray := ⟨_, rfl⟩
  have hcp2 : ∀ ty m dc, m = n + 1 - i → (Builtin.copy_ #[27, 27] ty #[.slice (some ⟨g, i, none⟩) m dc, .slice (some ⟨vb, 0, none⟩) 1 1]).run Try.prog W1 = .ok (goInt (1 : Nat)) W2 := by
    intro ty m dc hm
    subst hm
    rw [hW2]
    refine run_copy_at (P := Try.prog) W1 27 27 ty 9 1 g i _ dc ⟨vb, 0, none⟩ 1 1 1 cur1 9 [x] Try.underlying27 size9' hg1 (by show min _ _ = _; omega) rfl ?_ (by simp; omega) (by simpa using hx)
    intro j u hu
    rw [addr_add]
    simpa [World.cell?, hv1] using hu
  have hw1 : IntKind.i64.wrap ((i : Int) + 1) = (i : Int) + 1 := by rw [IntKind.wrap_i64]; omega
  have a7 : (i : Int) + 1 ≤ (n : Int) + 1 := by omega
  have a8 : (i : Int) ≤ (n : Int) + 1 := by omega
  have hlt : n < cap := by omega
  have fin := insert_cells cur.toList x n i hi (by simp; omega)
  rw [← hnews] at fin
  have HF := Lib.hid fin
  have H1 := Lib.hid hcp1
  have H2 := Lib.hid hcp2
  have HW1 := Lib.hid hW1
  have HW2 := Lib.hid hW2
  have HG1 := Lib.hid hg1
  have HC1 := Lib.hid hcur1
  have HN := Lib.hid hnews
  clear hcp1 hcp2 hW1 hW2 hg1 hs1 hv1 hcur1 hnews hnl h1 hv hx hg hc fin
  go_enter Try.func31, Try.ntmps31
  go_wp2_with (simp only [hov])
  go_region_law (refine step_run rfl (exec_copy rfl (by simp [Act.eval, Act.put]) (by simp [Act.eval, Act.put]) (H1.out _ (n - i) (cap - (i + 1)) (cap - i) (n + 1 - i) rfl rfl)) ?_)
  go_wp2_with (with_reducible refine wpList_run rfl (exec_copy rfl rfl rfl (H2.out _ _ _ rfl)) ?_)
  go_ret
  rw [HW2.out]
  refine ⟨rfl, _, setRow_heap _ g cur1 _ 9 _ HG1.out, ?_, ?_, ?_⟩
  · rw [HC1.out]
    simpa using HF.out.1
  · rw [HC1.out, ← HN.out]
    simpa using HF.out.2
  · rw [HW1.out]
    exact ((SameBut.drew g w).trans (SameBut.setRow g _ _)).trans (SameBut.setRow g _ _)

set_option maxHeartbeats 400000 in
theorem insert_end (g n cap vb : Nat) (cur : Array Value) (x : Value) (w : World) (hg : w.heap[g]? = some (.cells cur 9 (0, 0))) (hc : cur.size = cap) (hn : n + 1 ≤ cap) (hcap : cap ≤ maxLen)
   (hv : w.heap[vb]? = some (.cells #[x] 9 (0, 0))) (hx : x.oneCell' = true) :
    Calls Try.prog 31 #[.slice (some ⟨g, 0, none⟩) n cap, .int .i64 n, .slice (some ⟨vb, 0, none⟩) 1 1] w (InsertPost g n cap n cur x w) := by
  unfold maxLen at hcap
  obtain ⟨i0, hi0, hz0, hz1, hz2⟩ := info_parts info9
  obtain ⟨W1, hW1⟩ : ∃ W1, W1 = w.setRow g (cur.toList.take n ++ [x] ++ cur.toList.drop (n + 1)).toArray := ⟨_, rfl⟩
  have hrun : ∀ ty, (Builtin.append_ #[27, 27] ty #[.slice (some ⟨g, 0, none⟩) n cap, .slice (some ⟨vb, 0, none⟩) 1 1]).run Try.prog w = .ok (.slice (some ⟨g, 0, none⟩) (n + 1) cap) W1 := by
    intro ty
    have h := run_append_room (P := Try.prog) w 27 ty 9 i0 Try.underlying27 hi0 g n cap cur hg ⟨vb, 0, none⟩ 1 1 [x] (by simp [hz1]) (by intro j u hu; rw [addr_add]; simpa [World.cell?, hv] using hu) (by simpa using hx) hn (by rw [hz1]; simp; omega)
    rw [h, hW1, hz1]
    simp
  have HR := Lib.hid hrun
  have HW := Lib.hid hW1
  have HG := Lib.hid hg
  have HC := Lib.hid hc
  clear hrun hW1 hg hv hx hc
  go_enter Try.func31, Try.ntmps31
  go_wp2_with (at_builtin; refine wpList_run rfl (exec_append rfl rfl rfl (HR.out _)) ?_)
  go_ret
  have hc := HC.out
  have hl : cur.toList.length = cap := by simpa using hc
  rw [HW.out]
  refine ⟨rfl, _, setRow_heap _ g cur _ 9 _ HG.out, by simp; omega, ?_, SameBut.setRow g _ _⟩
  rw [List.drop_of_length_le (l := List.take n cur.toList) (by simp; omega), List.append_nil]
  show List.take (n + 1) (List.take n cur.toList ++ [x] ++ List.drop (n + 1) cur.toList) = _
  rw [List.take_append_of_le_length (by simp; omega), List.take_of_length_le (by simp; omega)]

theorem insert_any (g n cap i vb : Nat) (cur : Array Value) (x : Value) (w : World) (hg : w.heap[g]? = some (.cells cur 9 (0, 0))) (hc : cur.size = cap) (hn : n + 1 ≤ cap) (hi : i ≤ n) (hcap : cap ≤ maxLen)
   (h1 : ∀ v ∈ cur.toList.take n, v.oneCell' = true) (hv : w.heap[vb]? = some (.cells #[x] 9 (0, 0))) (hx : x.oneCell' = true) (hne : vb ≠ g) :
    Calls Try.prog 31 #[.slice (some ⟨g, 0, none⟩) n cap, .int .i64 i, .slice (some ⟨vb, 0, none⟩) 1 1] w (InsertPost g n cap i cur x w) := by
  by_cases h : i < n
  · exact insert_mid g n cap i vb cur x w hg hc hn h hcap h1 hv hx hne
  · obtain rfl : i = n := by omega
    exact insert_end g i cap vb cur x w hg hc hn hcap hv hx
end Go.Proofs.Ytgfklfpjibjhmaa

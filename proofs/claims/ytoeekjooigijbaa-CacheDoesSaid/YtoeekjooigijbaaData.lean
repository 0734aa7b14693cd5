/-
  What a cache is made of, asked for, offered, forgotten, told: one contract for each method.
-/
import Derived.Test.YtoeekjooigijbaaFirst
namespace Go.Proofs.Ytoeekjooigijbaa
open Go.RowKit
set_option linter.unusedVariables false
set_option linter.unusedSimpArgs false

/-! ### New -/
def sizeI (size : Int) : Nat := (min (max size 0) 64).toNat
def emptyS (n : Nat) : St := ⟨n, [], [], 0⟩
def NewPost (n : Nat) (w : World) (e : Ending) (w' : World) : Prop :=
  e = .returned (.pointer (some ⟨w.heap.size + 1, 0, none⟩)) ∧ CacheAt w' (w.heap.size + 1) w.heap.size (.slice none 0 0) (emptyS n) ∧ Below w.heap.size w w'

theorem new_at (w : World) (n : Nat) (hn : n ≤ 64) : CacheAt ((w.alloc (.map #[] 0)).alloc (.cells #[.int .i64 n, .slice none 0 0, .map (some w.heap.size), .int .i64 0] 57)) (w.heap.size + 1) w.heap.size (.slice none 0 0) (emptyS n) := by
  have e : (w.alloc (.map #[] 0)).heap.size = w.heap.size + 1 := by simp
  refine ⟨by rw [← e]; exact heap_alloc_new _ _, World.ownsRow_nil _ _ _ _, ?_, hn, Nat.zero_le _, Nat.zero_le _, Nat.zero_le _⟩
  exact CountsAt.intro ⟨List.Pairwise.nil, fun p hp => by cases hp⟩ ((World.ownsMap_made w Try.prog 9 Rm).alloc _) ⟨fun t ht => rfl, fun t ht => rfl⟩

set_option maxHeartbeats 400000 in
theorem new_any (size : Int) (w : World) (h1 : -9223372036854775808 ≤ size) (h2 : size ≤ 9223372036854775807) :
    Calls Try.prog 10 #[.int .i64 size] w (NewPost (sizeI size) w) := by
  have hmm := @run_makeMap Try.prog
  have hbel := fun (o : Obj) => ((Below.refl w.heap.size w).alloc (Nat.le_refl _) (.map #[] 0)).alloc (by simp) o
  have HBL := Lib.hid hbel
  clear hbel
  by_cases c1 : size < 0
  · have e : sizeI size = 0 := by unfold sizeI; omega
    have HE := Lib.hid e
    clear e
    go_enter Try.func10, Try.ntmps10
    go_wp2
    go_ret
    refine ⟨rfl, by rw [HE.out]; exact new_at w 0 (by omega), ?_⟩
    exact HBL.out _
  · by_cases c2 : 64 < size
    · have e : sizeI size = 64 := by unfold sizeI; omega
      have HE := Lib.hid e
      clear e
      go_enter Try.func10, Try.ntmps10
      go_wp2
      go_ret
      refine ⟨rfl, by rw [HE.out]; exact new_at w 64 (by omega), ?_⟩
      exact HBL.out _
    · obtain ⟨r, rfl⟩ := Int.eq_ofNat_of_zero_le (show 0 ≤ size by omega)
      have e : sizeI (r : Int) = r := by unfold sizeI; omega
      have HE := Lib.hid e
      clear e
      have d2 : r ≤ 64 := by omega
      go_enter Try.func10, Try.ntmps10
      go_wp2
      go_ret
      refine ⟨rfl, by rw [HE.out]; exact new_at w r d2, ?_⟩
      exact HBL.out _

/-! ### what holds of a cache at all times -/
def total : Cs → Nat
  | [] => 0
  | p :: cs => p.2 + total cs
theorem total_append : ∀ a b : Cs, total (a ++ b) = total a + total b
  | [], b => by simp [total]
  | p :: a, b => by simp only [List.cons_append, total, total_append a b]; omega
theorem length_le_total : ∀ cs : Cs, (∀ p ∈ cs, 1 ≤ p.2) → cs.length ≤ total cs
  | [], _ => Nat.zero_le _
  | p :: cs, h => by
    have := length_le_total cs fun q hq => h q (List.mem_cons_of_mem _ hq)
    have := h p (List.mem_cons_self ..)
    simp only [List.length_cons, total]; omega
theorem total_update (s : ByteArray) : ∀ cs : Cs, cs.Pairwise (fun p q => p.1 ≠ q.1) → total (cs.map fun p => if p.1 = s then (p.1, min (p.2 + 1) 15) else p) ≤ total cs + 1
  | [], _ => Nat.zero_le _
  | p :: cs, h => by
    obtain ⟨h1, h2⟩ := List.pairwise_cons.1 h
    have ih := total_update s cs h2
    by_cases e : p.1 = s
    · have hsame : (cs.map fun q => if q.1 = s then (q.1, min (q.2 + 1) 15) else q) = cs := by
        rw [List.map_congr_left (g := id), List.map_id]
        intro q hq
        rw [if_neg (fun e' => h1 q hq (e.trans e'.symm))]; rfl
      simp only [List.map_cons, if_pos e, total, hsame]
      omega
    · simp only [List.map_cons, if_neg e, total]; omega
theorem total_counted {cs : Cs} (hg : Good cs) (k : ByteArray) : total (counted cs k) ≤ total cs + 1 := by
  unfold counted
  split
  · exact total_update k cs hg.apart
  · rw [total_append]; simp [total]
theorem total_halved : ∀ cs : Cs, 2 * total (halved cs) ≤ total cs
  | [] => by simp [halved, total]
  | p :: cs => by
    have ih := total_halved cs
    unfold halved at ih ⊢
    rw [List.filterMap_cons]
    by_cases h : 1 < p.2
    · rw [if_pos h]
      simp only [total]; omega
    · rw [if_neg h]
      simp only [total]; omega

structure Inv (s : St) : Prop where
  hi : s.size ≤ 64
  ask : s.asked < 10 * s.size ∨ (s.size = 0 ∧ s.asked = 0 ∧ s.cs = [])
  tot : total s.cs ≤ 10 * s.size + s.asked
  good : Good s.cs
  nd : s.all.Pairwise fun p q => p.1 ≠ q.1
  ks : ∀ p ∈ s.all, p.1.size ≤ maxLen
  fits : s.all.length ≤ s.size

theorem Inv.few {s : St} (h : Inv s) : s.cs.length ≤ 20 * s.size := by
  have h1 := length_le_total s.cs fun p hp => (h.good.ok p hp).2.1
  have h2 := h.tot
  rcases h.ask with h3 | ⟨h3, h4, h5⟩
  · omega
  · rw [h5]; exact Nat.zero_le _

/-! ### the methods, on plain data -/
/-- The counts when a key is asked for. -/
def tick (s : St) (k : ByteArray) : St :=
  if s.asked + 1 = 10 * s.size then { s with cs := halved (counted s.cs k), asked := 0 } else { s with cs := counted s.cs k, asked := s.asked + 1 }
def getS (s : St) (k : ByteArray) : St × ByteArray × Bool :=
  if s.size = 0 then (s, ⟨#[]⟩, false)
  else match place s.all k with
    | none => (tick s k, ⟨#[]⟩, false)
    | some i => match s.all[i]? with
      | none => (tick s k, ⟨#[]⟩, false)
      | some p => ({ tick s k with all := p :: s.all.eraseIdx i }, p.2, true)
def offerS (s : St) (k x : ByteArray) : St × Bool :=
  match place s.all k with
  | some i => ({ s with all := (k, x) :: s.all.eraseIdx i }, true)
  | none =>
    if s.all.length < s.size then ({ s with all := (k, x) :: s.all }, true)
    else match s.all.getLast? with
      | none => (s, false)
      | some q => if often s.cs k ≤ often s.cs q.1 then (s, false) else ({ s with all := (k, x) :: s.all.eraseIdx (s.all.length - 1) }, true)
def forgetS (s : St) (k : ByteArray) : St × Bool :=
  match place s.all k with
  | some i => ({ s with all := s.all.eraseIdx i }, true)
  | none => (s, false)

theorem tick_size (s : St) (k : ByteArray) : (tick s k).size = s.size := by unfold tick; split <;> rfl
theorem tick_all (s : St) (k : ByteArray) : (tick s k).all = s.all := by unfold tick; split <;> rfl

theorem Inv.tick {s : St} (h : Inv s) {k : ByteArray} (hk : k.size ≤ maxLen) (hs : s.size ≠ 0) : Inv (tick s k) := by
  have ha : s.asked < 10 * s.size := h.ask.resolve_right fun e => hs e.1
  have ht := total_counted h.good k
  have h0 := h.tot
  have hg := good_counted h.good hk
  unfold Ytoeekjooigijbaa.tick
  split
  · rename_i e
    have h2 := total_halved (counted s.cs k)
    exact ⟨h.hi, .inl (by show 0 < 10 * s.size; omega), by show total (halved (counted s.cs k)) ≤ 10 * s.size + 0; omega, good_halved hg, h.nd, h.ks, h.fits⟩
  · rename_i e
    exact ⟨h.hi, .inl (by show s.asked + 1 < 10 * s.size; omega), by show total (counted s.cs k) ≤ 10 * s.size + (s.asked + 1); omega, hg, h.nd, h.ks, h.fits⟩

theorem Inv.setAll {s : St} (h : Inv s) {l : List Th} (nd : l.Pairwise fun p q => p.1 ≠ q.1) (ks : ∀ p ∈ l, p.1.size ≤ maxLen) (fits : l.length ≤ s.size) : Inv { s with all := l } :=
  ⟨h.hi, h.ask, h.tot, h.good, nd, ks, fits⟩

theorem erase_mem {l : List Th} {i : Nat} {p : Th} (h : p ∈ l.eraseIdx i) : p ∈ l := (List.eraseIdx_sublist l i).subset h
theorem erase_nd {l : List Th} (h : l.Pairwise fun p q => p.1 ≠ q.1) (i : Nat) : (l.eraseIdx i).Pairwise fun p q => p.1 ≠ q.1 := h.sublist (List.eraseIdx_sublist l i)
theorem nd_idx {l : List Th} (h : l.Pairwise fun p q => p.1 ≠ q.1) {i j : Nat} {p q : Th} (hi : l[i]? = some p) (hj : l[j]? = some q) (hne : i ≠ j) : p.1 ≠ q.1 := by
  obtain ⟨hi', rfl⟩ := List.getElem?_eq_some_iff.1 hi
  obtain ⟨hj', rfl⟩ := List.getElem?_eq_some_iff.1 hj
  rw [List.pairwise_iff_getElem] at h
  rcases Nat.lt_or_gt_of_ne hne with hlt | hlt
  · exact h i j hi' hj' hlt
  · exact (h j i hj' hi' hlt).symm
/-- What is left without the one of a key has another key. -/
theorem erase_key {l : List Th} (h : l.Pairwise fun p q => p.1 ≠ q.1) {i : Nat} {p : Th} (hi : l[i]? = some p) : ∀ q ∈ l.eraseIdx i, p.1 ≠ q.1 := fun q hq => by
  obtain ⟨j, hne, hj⟩ := List.mem_eraseIdx_iff_getElem?.1 hq
  exact nd_idx h hi hj (fun e => hne e.symm)
theorem front_nd {l : List Th} (h : l.Pairwise fun p q => p.1 ≠ q.1) {i : Nat} {p : Th} (hi : l[i]? = some p) (x : ByteArray) : ((p.1, x) :: l.eraseIdx i).Pairwise fun p q => p.1 ≠ q.1 :=
  List.pairwise_cons.2 ⟨fun q hq => show p.1 ≠ q.1 from erase_key h hi q hq, erase_nd h i⟩
theorem place_not {l : List Th} {k : ByteArray} (h : place l k = none) : ∀ p ∈ l, p.1 ≠ k := fun p hp => by
  unfold place at h
  rw [List.findIdx?_eq_none_iff] at h
  simpa using h p hp

theorem Inv.get {s : St} (h : Inv s) {k : ByteArray} (hk : k.size ≤ maxLen) : Inv (getS s k).1 := by
  unfold getS
  split
  · exact h
  · rename_i hs
    have ht := h.tick hk hs
    split
    · exact ht
    · rename_i i hi
      obtain ⟨p, hp, e, _⟩ := place_lt hi
      rw [hp]
      have hl := (List.getElem?_eq_some_iff.1 hp).1
      refine ht.setAll (front_nd h.nd hp p.2) (fun q hq => ?_) ?_
      · rcases List.mem_cons.1 hq with rfl | hq
        · exact h.ks _ (List.mem_of_getElem? hp)
        · exact h.ks q (erase_mem hq)
      · rw [tick_size, List.length_cons, List.length_eraseIdx_of_lt hl]; have := h.fits; omega
theorem Inv.offer {s : St} (h : Inv s) {k : ByteArray} (x : ByteArray) (hk : k.size ≤ maxLen) : Inv (offerS s k x).1 := by
  unfold offerS
  split
  · rename_i i hi
    obtain ⟨p, hp, rfl, _⟩ := place_lt hi
    have hl := (List.getElem?_eq_some_iff.1 hp).1
    refine h.setAll (front_nd h.nd hp x) (fun q hq => ?_) ?_
    · rcases List.mem_cons.1 hq with rfl | hq
      · exact hk
      · exact h.ks q (erase_mem hq)
    · rw [List.length_cons, List.length_eraseIdx_of_lt hl]; have := h.fits; omega
  · rename_i hn
    split
    · rename_i hl
      refine h.setAll (List.pairwise_cons.2 ⟨fun q hq => (place_not hn q hq).symm, h.nd⟩) (fun q hq => ?_) (by rw [List.length_cons]; omega)
      rcases List.mem_cons.1 hq with rfl | hq
      · exact hk
      · exact h.ks q hq
    · split
      · exact h
      · rename_i q hq
        split
        · exact h
        · have hl : 0 < s.all.length := by cases hs : s.all with | nil => rw [hs] at hq; simp at hq | cons a l => simp
          refine h.setAll (List.pairwise_cons.2 ⟨fun q hq => (place_not hn q (erase_mem hq)).symm, erase_nd h.nd _⟩) (fun q hq => ?_) ?_
          · rcases List.mem_cons.1 hq with rfl | hq
            · exact hk
            · exact h.ks q (erase_mem hq)
          · rw [List.length_cons, List.length_eraseIdx_of_lt (by omega)]; have := h.fits; omega
theorem Inv.forget {s : St} (h : Inv s) (k : ByteArray) : Inv (forgetS s k).1 := by
  unfold forgetS
  split
  · rename_i i hi
    exact h.setAll (erase_nd h.nd i) (fun q hq => h.ks q (erase_mem hq)) (Nat.le_trans (List.length_eraseIdx_le _ _) h.fits)
  · exact h
theorem inv_empty (n : Nat) (hn : n ≤ 64) : Inv (emptyS n) := by
  refine ⟨hn, ?_, Nat.zero_le _, ⟨List.Pairwise.nil, fun p hp => by cases hp⟩, List.Pairwise.nil, (fun p hp => by cases hp), Nat.zero_le _⟩
  by_cases h : n = 0
  · exact .inr ⟨h, rfl, rfl⟩
  · exact .inl (by show 0 < 10 * n; omega)
end Go.Proofs.Ytoeekjooigijbaa

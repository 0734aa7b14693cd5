/-
  What only reads a mesh, or lists of strings: All, Count, Same; and New.
-/
import Derived.Test.YtgfklfpjibjhmaaMove
namespace Go.Proofs.Ytgfklfpjibjhmaa
open Go.RowKit
set_option linter.unusedVariables false
set_option linter.unusedSimpArgs false

/-- The value is a slice of these strings in this world. -/
def StrsAt (w : World) (v : Value) (xs : List ByteArray) : Prop :=
  ∃ a cap, v = .slice a xs.length cap ∧ ∀ i s, xs[i]? = some s → ∃ b o, a = some ⟨b, o, none⟩ ∧ w.cell? ⟨b, o + i, none⟩ = some (.string s)

theorem StrsAt.some {w : World} {v : Value} {xs : List ByteArray} (h : StrsAt w v xs) (h0 : 0 < xs.length) :
    ∃ b o cap, v = .slice (some ⟨b, o, none⟩) xs.length cap ∧ ∀ i s, xs[i]? = some s → w.cell? ⟨b, o + i, none⟩ = some (.string s) := by
  obtain ⟨a, cap, rfl, hc⟩ := h
  obtain ⟨b, o, rfl, _⟩ := hc 0 xs[0] (by simp [h0])
  refine ⟨b, o, cap, rfl, fun i s hs => ?_⟩
  obtain ⟨b', o', e, h'⟩ := hc i s hs
  simp only [Option.some.injEq, Addr.mk.injEq, and_true] at e
  obtain ⟨rfl, rfl⟩ := e
  exact h'

def QuietBool (w : World) (b : Bool) (e : Ending) (w' : World) : Prop := e = .returned (.bool b) ∧ ∃ n, w' = w.drewN n

set_option maxHeartbeats 400000 in
theorem same_len (w : World) (va vb : Value) (xs ys : List ByteArray) (ha : StrsAt w va xs) (hb : StrsAt w vb ys) (hne : xs.length ≠ ys.length) :
    Calls Try.prog 14 #[va, vb] w (QuietBool w false) := by
  obtain ⟨a, c, rfl, _⟩ := ha
  obtain ⟨a', c', rfl, _⟩ := hb
  have h1 : (((xs.length : Nat) : Int) == (ys.length : Int)) = false := by rw [beq_eq_false_iff_ne]; omega
  clear hne
  go_enter Try.func14, Try.ntmps14
  go_wp2
  go_ret
  exact ⟨rfl, 0, rfl⟩

set_option maxHeartbeats 400000 in
theorem same_eq (w : World) (va vb : Value) (xs ys : List ByteArray) (ha : StrsAt w va xs) (hb : StrsAt w vb ys) (he : xs.length = ys.length) (hm : xs.length ≤ maxLen) :
    Calls Try.prog 14 #[va, vb] w (QuietBool w (decide (xs = ys))) := by
  obtain ⟨a, c, rfl, hc⟩ := ha
  obtain ⟨a', c', rfl, hc'⟩ := hb
  obtain ⟨n, hn⟩ : ∃ n, n = xs.length := ⟨_, rfl⟩
  have hn' : n = ys.length := by omega
  rw [← hn, ← hn']
  unfold maxLen at hm
  have hm' : n ≤ 9223372036854775807 := by omega
  have HC := Lib.hid hc
  have HC' := Lib.hid hc'
  have HN := Lib.hid hn
  have HN' := Lib.hid hn'
  clear he hm hc hc' hn hn'
  go_enter Try.func14, Try.ntmps14
  go_wp2
  go_loopw [5] (fun i wr => ∃ k : Nat, k ≤ n ∧ i = .int .i64 k ∧ (∀ j, j < k → xs[j]? = ys[j]?) ∧ ∃ m, wr = w.drewN m) (fun i _ => n - (intOf i).toNat)
  case atStart => exact ⟨0, Nat.zero_le _, rfl, fun j hj => by omega, 0, rfl⟩
  case round =>
    obtain ⟨k, hk, rfl, hall, m, rfl⟩ := hrel
    have HA := Lib.hid hall
    clear hall
    by_cases hlt : k < n
    · have e1 : xs[k]? = some xs[k]! := by rw [getElem!_pos xs k (by rw [← HN.out]; exact hlt)]; simp
      have e2 : ys[k]? = some ys[k]! := by rw [getElem!_pos ys k (by rw [← HN'.out]; exact hlt)]; simp
      obtain ⟨b, o, rfl, q1⟩ := HC.out k _ e1
      obtain ⟨b', o', rfl, q2⟩ := HC'.out k _ e2
      have HE1 := Lib.hid e1
      have HE2 := Lib.hid e2
      generalize xs[k]! = s at *
      generalize ys[k]! = t at *
      clear e1 e2
      have b1 : (k : Int) < (n : Int) := by omega
      go_wp2
      go_quiet (fail)
      go_wp2
      all_goals rename_i ht
      · have hne : xs ≠ ys := fun e => by
          have h2 := HE1.out
          rw [e, HE2.out] at h2
          simp only [Bool.not_eq_true'] at ht
          exact str_ne_of ht (Option.some.inj h2).symm
        go_ret
        rw [decide_eq_false hne]
        exact ⟨rfl, m + nq, by rw [World.drewN_drewN]⟩
      · have hst : s = t := str_eq_of (by simpa using ht)
        refine ⟨⟨k + 1, by omega, by go_num, fun j hj => ?_, m + nq, rfl⟩, by simp [intOf]; omega⟩
        by_cases e : j = k
        · rw [e, HE1.out, HE2.out, hst]
        · exact HA.out j (by omega)
    · have hxy : xs = ys := List.ext_getElem? fun j => by
        by_cases e : j < k
        · exact HA.out j e
        · rw [List.getElem?_eq_none (by rw [← HN.out]; omega), List.getElem?_eq_none (by rw [← HN'.out]; omega)]
      go_wp2
      go_ret
      rw [decide_eq_true hxy]
      exact ⟨rfl, m, rfl⟩
theorem ret_int {k : IntKind} {a b : Int} (h : a = b) : Ending.returned (.int k a) = .returned (.int k b) := by rw [h]

def AllPost (w : World) (xs : List ByteArray) (e : Ending) (w' : World) : Prop := ∃ va, e = .returned va ∧ StrsAt w' va xs ∧ Hid (va = .slice (some ⟨w.heap.size, 0, none⟩) xs.length xs.length) ∧ Below w.heap.size w w'

theorem madeStr (n : Nat) : (madeCells #[.string ⟨#[]⟩] n).toList = List.replicate n (.string ⟨#[]⟩) := toList_madeCells_one _ n

set_option maxHeartbeats 400000 in
theorem all_any (mb : Nat) (v : Value) (room : Nat) (xs : List ByteArray) (w : World) (h : MeshAt w mb v room xs) :
    Calls Try.prog 15 #[.pointer (some ⟨mb, 0, none⟩)] w (AllPost w xs) := by
  obtain ⟨i0, hi, hz0, hz1, hz2⟩ := info_parts info9
  have hfit : xs.length ≤ 64 := Nat.le_trans h.fits h.hi
  have hmk : ∀ u : World, (Instr.makeSlice 27 (.int .i64 (xs.length : Int)) (.int .i64 (xs.length : Int))).run Try.prog u =
      .ok (.slice (some ⟨u.heap.size, 0, none⟩) xs.length xs.length) (u.alloc (.cells (madeCells #[.string ⟨#[]⟩] xs.length) 9)) := fun u => by
    have h := run_make (P := Try.prog) u 27 9 i0 (.string ⟨#[]⟩) Try.underlying27 hi hz0 .i64 .i64 (xs.length : Int) (xs.length : Int) (by omega) (Int.le_refl _) (by rw [hz2]; omega) (by omega)
    simpa [hz1, Value.cells] using h
  have c1 := h.c1
  have hlt := h.lt
  have c1' : (w.alloc (.cells (madeCells #[.string ⟨#[]⟩] xs.length) 9)).cell? ⟨mb, 1, none⟩ = some v := by rw [World.cell?_alloc_lt _ _ _ hlt]; exact c1
  obtain ⟨W, hW⟩ : ∃ W, W = (w.alloc (.cells (madeCells #[.string ⟨#[]⟩] xs.length) 9)).setRow w.heap.size (xs.map Value.string).toArray := ⟨_, rfl⟩
  have hcp : ∀ ty, (Builtin.copy_ #[27, 27] ty #[.slice (some ⟨w.heap.size, 0, none⟩) xs.length xs.length, v]).run Try.prog (w.alloc (.cells (madeCells #[.string ⟨#[]⟩] xs.length) 9)) = .ok (goInt xs.length) W := by
    intro ty
    rcases h.own.2 with ⟨rfl, h0⟩ | ⟨g, cap, cur, rfl, _, hg, hn, hm, hs, ht⟩
    · rw [hW, h0, List.length_eq_zero_iff.1 h0]
      rw [run_copy_nil (P := Try.prog) _ 27 27 ty 9 _ 0 0 Try.underlying27 (by rw [size9']; rfl)]
      have hz : madeCells #[.string ⟨#[]⟩] 0 = #[] := Array.eq_empty_of_size_eq_zero (size_madeCells _ _)
      rw [hz]
      exact congrArg (Result.ok (goInt 0)) (setRow_self (w.alloc (.cells #[] 9)) w.heap.size #[] 9 (0, 0) (heap_alloc_new w _)).symm
    · rw [hW]
      have hlg := lt_of_block hg
      have := run_copy_at (P := Try.prog) (w.alloc (.cells (madeCells #[.string ⟨#[]⟩] xs.length) 9)) 27 27 ty 9 1 w.heap.size 0 xs.length xs.length ⟨g, 0, none⟩ xs.length cap xs.length (madeCells #[.string ⟨#[]⟩] xs.length) 9 (xs.map Value.string)
        Try.underlying27 size9' (heap_alloc_new w _) (Nat.min_self _) (by simp) ?_ (by simp [size_madeCells]) cells_one
      · rw [this]
        simp [madeStr]
      · intro j u hu
        rw [addr_add, World.cell?_alloc_lt _ _ _ hlg]
        rw [Nat.mul_one] at ht
        rw [← ht, List.getElem?_take] at hu
        split at hu
        · simpa [World.cell?, hg] using hu
        · cases hu
  obtain ⟨a, cap, hv⟩ := h.slice
  have HCP := Lib.hid hcp
  have HW := Lib.hid hW
  have HMK := Lib.hid h
  subst hv
  clear hcp hW h
  go_enter Try.func15, Try.ntmps15
  go_wp2_with (with_reducible refine wpList_run rfl (exec_copy rfl rfl rfl (HCP.out _)) ?_)
  go_ret
  rw [HW.out]
  have hbl : ((w.alloc (.cells (madeCells #[.string ⟨#[]⟩] xs.length) 9)).setRow w.heap.size (xs.map Value.string).toArray).heap[w.heap.size]? = some (.cells (xs.map Value.string).toArray 9 (0, 0)) := setRow_heap _ _ _ _ 9 _ (heap_alloc_new w _)
  refine ⟨_, rfl, ⟨_, _, rfl, fun i s hs => ⟨_, _, rfl, ?_⟩⟩, rfl, ?_⟩
  · rw [Nat.zero_add]
    unfold World.cell?
    simp only [hbl]
    simp [hs]
  · have hs := SameBut.setRow w.heap.size (w.alloc (.cells (madeCells #[.string ⟨#[]⟩] xs.length) 9)) (xs.map Value.string).toArray
    exact ((Below.refl _ w).alloc (Nat.le_refl _) _).trans ⟨hs.os, hs.tape, hs.output, by rw [hs.size]; exact Nat.le_refl _, fun k hk => hs.block k (by omega)⟩

/-- How many are s. -/
def countOf (s : ByteArray) (xs : List ByteArray) : Nat := (xs.filter fun x => decide (x = s)).length
theorem countOf_snoc (s x : ByteArray) (xs : List ByteArray) : countOf s (xs ++ [x]) = countOf s xs + if x = s then 1 else 0 := by
  unfold countOf
  rw [List.filter_append, List.length_append]
  by_cases h : x = s <;> simp [h]
theorem countOf_le (s : ByteArray) (xs : List ByteArray) : countOf s xs ≤ xs.length := List.length_filter_le _ _

set_option maxHeartbeats 400000 in
theorem count_any (mb : Nat) (v : Value) (room : Nat) (xs : List ByteArray) (s : ByteArray) (w : World) (h : MeshAt w mb v room xs) :
    Calls Try.prog 16 #[.pointer (some ⟨mb, 0, none⟩), .string s] w fun e w' => e = .returned (.int .i64 (countOf s xs)) ∧ w = w' := by
  have hfit : xs.length ≤ 64 := Nat.le_trans h.fits h.hi
  have c1 := h.c1
  have hcell : ∀ i x, xs[i]? = some x → ∃ g cap, v = .slice (some ⟨g, 0, none⟩) xs.length cap ∧ w.cell? ⟨g, i, none⟩ = some (.string x) := by
    intro i x hx
    have hi : i < xs.length := (List.getElem?_eq_some_iff.1 hx).1
    obtain ⟨g, cap, cur, rfl, hg, _, _, _, htk, _⟩ := h.row (by omega)
    refine ⟨g, cap, rfl, ?_⟩
    have e := congrArg (fun l => l[i]?) htk
    simp only [List.getElem?_take, hi, if_true, List.getElem?_map, hx, Option.map_some] at e
    simpa [World.cell?, hg] using e
  obtain ⟨a, cap, rfl⟩ := h.slice
  have HC := Lib.hid hcell
  obtain ⟨n, hn⟩ : ∃ n, n = xs.length := ⟨_, rfl⟩
  rw [← hn] at c1
  have hn64 : n ≤ 64 := by omega
  have HN := Lib.hid hn
  clear h hcell hn hfit
  go_enter Try.func16, Try.ntmps16
  go_wp2
  go_loop [5, 12] (fun t i => ∃ k : Nat, k ≤ n ∧ i = .int .i64 k ∧ t = .int .i64 (countOf s (xs.take k))) (fun _ i => n - (intOf i).toNat)
  case atStart => exact ⟨0, Nat.zero_le _, rfl, rfl⟩
  case round =>
    obtain ⟨k, hk, rfl, rfl⟩ := hrel
    have hle := countOf_le s (xs.take k)
    have hl2 : (xs.take k).length ≤ 64 := by simp; omega
    by_cases hlt : k < n
    · have e1 : xs[k]? = some xs[k]! := by rw [getElem!_pos xs k (by rw [← HN.out]; exact hlt)]; simp
      obtain ⟨g, cap', hv, q1⟩ := HC.out k _ e1
      simp only [Value.slice.injEq] at hv
      obtain ⟨rfl, _, rfl⟩ := hv
      have hts : xs.take (k + 1) = xs.take k ++ [xs[k]!] := by
        rw [List.take_add_one, e1]; rfl
      have HS := Lib.hid ((congrArg (countOf s) hts).trans (countOf_snoc s _ _))
      generalize xs[k]! = x at *
      clear hts e1
      generalize hc : countOf s (xs.take k) = c at *
      have HC0 := Lib.hid hc
      clear hc
      have b1 : (k : Int) < (n : Int) := by omega
      go_wp2
      all_goals rename_i ht
      · refine ⟨⟨k + 1, by omega, by go_num, ?_⟩, by simp [intOf]; omega⟩
        rw [HS.out, if_pos (str_eq_of ht)]
        go_num
      · refine ⟨⟨k + 1, by omega, by go_num, ?_⟩, by simp [intOf]; omega⟩
        rw [HS.out, if_neg (str_ne_of ht), Nat.add_zero]
    · go_wp2
      go_ret
      refine ⟨ret_int (by rw [List.take_of_length_le (by rw [← HN.out]; omega)]), rfl⟩

/-- The room that a mesh is given. -/
def roomOf (room : Int) : Nat := (min (max room 1) 64).toNat
theorem roomOf_bd (room : Int) : 1 ≤ roomOf room ∧ roomOf room ≤ 64 := by unfold roomOf; omega

def NewPost (room : Int) (w : World) (e : Ending) (w' : World) : Prop :=
  e = .returned (.pointer (some ⟨w.heap.size, 0, none⟩)) ∧ MeshAt w' w.heap.size (.slice none 0 0) (roomOf room) [] ∧ Below w.heap.size w w'

theorem new_at (w : World) (r : Nat) (h : 1 ≤ r ∧ r ≤ 64) : MeshAt (w.alloc (.cells #[.int .i64 r, .slice none 0 0] 50)) w.heap.size (.slice none 0 0) r [] :=
  ⟨heap_alloc_new w _, World.ownsRow_nil _ _ _ _, by simp [Value.ownBlock], h.1, h.2, by simp⟩

set_option maxHeartbeats 400000 in
theorem new_any (room : Int) (w : World) (h1 : -9223372036854775808 ≤ room) (h2 : room ≤ 9223372036854775807) :
    Calls Try.prog 9 #[.int .i64 room] w (NewPost room w) := by
  by_cases c1 : room < 1
  · have e : roomOf room = 1 := by unfold roomOf; omega
    have HE := Lib.hid e
    clear e
    go_enter Try.func9, Try.ntmps9
    go_wp2
    go_ret
    refine ⟨rfl, by rw [HE.out]; exact new_at w 1 (by omega), (Below.refl _ _).alloc (Nat.le_refl _) _⟩
  · by_cases c2 : 64 < room
    · have e : roomOf room = 64 := by unfold roomOf; omega
      have HE := Lib.hid e
      clear e
      go_enter Try.func9, Try.ntmps9
      go_wp2
      go_ret
      refine ⟨rfl, by rw [HE.out]; exact new_at w 64 (by omega), (Below.refl _ _).alloc (Nat.le_refl _) _⟩
    · obtain ⟨r, rfl⟩ := Int.eq_ofNat_of_zero_le (show 0 ≤ room by omega)
      have e : roomOf (r : Int) = r := by unfold roomOf; omega
      have HE := Lib.hid e
      clear e
      have d1 : 1 ≤ r := by omega
      have d2 : r ≤ 64 := by omega
      go_enter Try.func9, Try.ntmps9
      go_wp2
      go_ret
      refine ⟨rfl, by rw [HE.out]; exact new_at w r ⟨d1, d2⟩, (Below.refl _ _).alloc (Nat.le_refl _) _⟩
end Go.Proofs.Ytgfklfpjibjhmaa

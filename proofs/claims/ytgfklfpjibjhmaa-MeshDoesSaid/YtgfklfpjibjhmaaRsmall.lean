/-
  The document's New and Count.
-/
import Derived.Test.YtgfklfpjibjhmaaRsend
namespace Go.Proofs.Ytgfklfpjibjhmaa
open Go.RowKit
set_option linter.unusedVariables false
set_option linter.unusedSimpArgs false

set_option maxHeartbeats 1000000 in
theorem rnew_any (room : Int) (w : World) (h1 : -9223372036854775808 ≤ room) (h2 : room ≤ 9223372036854775807) :
    Calls Try.prog 11 #[.int .i64 room] w (BelowP w (refV (roomOf room) (.slice none 0 0))) := by
  have E2 := Lib.hid (heap_alloc_new w (.cells #[.int .i64 0, .slice none 0 0] 29))
  have HB := Lib.hid ((Below.refl w.heap.size w).alloc (Nat.le_refl _) (.cells #[.int .i64 0, .slice none 0 0] 29))
  rcases roomOf_three room with ⟨c1, c2⟩ | ⟨c1, c2⟩ | ⟨c1, c1', c2⟩
  · have HC := Lib.hid c2
    clear c2
    go_enter Try.func11, Try.ntmps11
    go_wp2_with fail
    obtain ⟨p0, p1, _⟩ := cells2 (heap_alloc_new w (.cells #[.int .i64 1, .slice none 0 0] 29))
    have hb := (Below.refl w.heap.size w).alloc (Nat.le_refl _) (.cells #[.int .i64 1, .slice none 0 0] 29)
    refine bodyPost_ret (v := .agg #[.int .i64 1, .slice none 0 0]) ?_ rfl ⟨by unfold refV; rw [HC.out]; rfl, hb⟩
    clear hb E2 HB HC
    simp only [results, Try.f11]
    go_simp
  · have HC := Lib.hid c2
    clear c2
    go_enter Try.func11, Try.ntmps11
    go_wp2_with fail
    obtain ⟨p0, p1, _⟩ := cells2 (heap_alloc_new w (.cells #[.int .i64 64, .slice none 0 0] 29))
    have hb := (Below.refl w.heap.size w).alloc (Nat.le_refl _) (.cells #[.int .i64 64, .slice none 0 0] 29)
    refine bodyPost_ret (v := .agg #[.int .i64 64, .slice none 0 0]) ?_ rfl ⟨by unfold refV; rw [HC.out]; rfl, hb⟩
    clear hb E2 HB HC
    simp only [results, Try.f11]
    go_simp
  · have HC := Lib.hid c2
    clear c2
    go_enter Try.func11, Try.ntmps11
    go_wp2_with fail
    obtain ⟨p0, p1, _⟩ := cells2 (heap_alloc_new w (.cells #[.int .i64 room, .slice none 0 0] 29))
    have hb := (Below.refl w.heap.size w).alloc (Nat.le_refl _) (.cells #[.int .i64 room, .slice none 0 0] 29)
    refine bodyPost_ret (v := .agg #[.int .i64 room, .slice none 0 0]) ?_ rfl ⟨by unfold refV; rw [HC.out], hb⟩
    clear hb E2 HB HC
    simp only [results, Try.f11]
    go_simp

set_option maxHeartbeats 1000000 in
theorem rcount_any (v : Value) (xs : List ByteArray) (s : ByteArray) (w : World) (h : RowS w v xs) (hl : xs.length ≤ 64) :
    Calls Try.prog 17 #[v, .string s] w fun e w' => e = .returned (.int .i64 (countOf s xs)) ∧ w' = w := by
  obtain ⟨a, cap, hv⟩ := OffRow.shape h
  subst hv
  obtain ⟨n, hn⟩ : ∃ n, n = xs.length := ⟨_, rfl⟩
  have HR := Lib.hid h
  rw [← hn] at hl ⊢
  have HN := Lib.hid hn
  clear h hn
  go_enter Try.func17, Try.ntmps17
  go_wp2_with fail
  go_loop [5, 6] (fun s5 i => ∃ j : Nat, j ≤ n ∧ i = .int .i64 j ∧ s5 = .int .i64 (countOf s (xs.take j))) (fun _ i => n - (intOf i).toNat)
  case atStart => exact ⟨0, Nat.zero_le _, rfl, by simp [countOf]⟩
  case round =>
    obtain ⟨j, hj, rfl, rfl⟩ := hrel
    by_cases hjn : j < n
    · obtain ⟨x, hx⟩ : ∃ x, xs[j]? = some x := ⟨_, List.getElem?_eq_getElem (by rw [← HN.out]; exact hjn)⟩
      obtain ⟨g, o, cap', hv, q⟩ := OffRow.cells HR.out (i := j) (u := .string x) (by rw [List.getElem?_map, hx]; rfl)
      simp only [Value.slice.injEq, true_and] at hv
      obtain ⟨rfl, rfl⟩ := hv
      have hcs : countOf s (xs.take (j + 1)) = countOf s (xs.take j) + if x = s then 1 else 0 := by rw [List.take_add_one, hx, ← countOf_snoc]; rfl
      have hcl := Nat.le_trans (countOf_le s (xs.take j)) (Nat.le_of_eq (List.length_take ..))
      have y1 : (j : Int) < (n : Int) := by omega
      have y2 : (countOf s (xs.take j) : Int) ≤ 64 := by omega
      clear hx
      by_cases e : x = s
      · subst e
        rw [if_pos rfl] at hcs
        have HCS := Lib.hid hcs
        clear hcs hcl
        go_wp2_with fail
        refine ⟨⟨j + 1, by omega, by go_num, by rw [HCS.out]; go_num⟩, by simp [intOf]; omega⟩
      · rw [if_neg e] at hcs
        have HCS := Lib.hid hcs
        have hne : (x.toList == s.toList) = false := by rw [str_beq]; exact decide_eq_false e
        clear hcs hcl
        go_wp2_with fail
        refine ⟨⟨j + 1, by omega, by go_num, by rw [HCS.out]; go_num⟩, by simp [intOf]; omega⟩
    · have y1 : ¬ (j : Int) < (n : Int) := by omega
      go_wp2_with fail
      go_ret
      have hjn : j = n := by omega
      have e : xs.take j = xs := List.take_of_length_le (by rw [← HN.out]; omega)
      rw [e]
      exact ⟨rfl, rfl⟩
end Go.Proofs.Ytgfklfpjibjhmaa

/-
  The document's New.
-/
import Derived.Test.YtoeekjooigijbaaApp
namespace Go.Proofs.Ytoeekjooigijbaa
open Go.RowKit
set_option linter.unusedVariables false
set_option linter.unusedSimpArgs false

set_option maxHeartbeats 1000000 in
theorem rnew_any (size : Int) (w : World) (h1 : -9223372036854775808 ≤ size) (h2 : size ≤ 9223372036854775807) :
    Calls Try.prog 12 #[.int .i64 size] w (BelowP w (refV (sizeI size) (.slice none 0 0) (.slice none 0 0) 0)) := by
  rcases sizeI_three size with ⟨c1, c2⟩ | ⟨c1, c2⟩ | ⟨c1, c1', c2⟩
  · have HC := Lib.hid c2
    clear c2
    go_enter Try.func12, Try.ntmps12
    go_wp2_with fail
    obtain ⟨p0, p1, p2, p3, _⟩ := cells4 (heap_alloc_new w (.cells #[.int .i64 0, .slice none 0 0, .slice none 0 0, .int .i64 0] 30))
    have hb := (Below.refl w.heap.size w).alloc (Nat.le_refl _) (.cells #[.int .i64 0, .slice none 0 0, .slice none 0 0, .int .i64 0] 30)
    refine bodyPost_ret (v := .agg #[.int .i64 0, .slice none 0 0, .slice none 0 0, .int .i64 0]) ?_ rfl ⟨by unfold refV; rw [HC.out]; rfl, hb⟩
    clear hb HC
    simp only [results, Try.f12]
    go_simp
  · have HC := Lib.hid c2
    clear c2
    go_enter Try.func12, Try.ntmps12
    go_wp2_with fail
    obtain ⟨p0, p1, p2, p3, _⟩ := cells4 (heap_alloc_new w (.cells #[.int .i64 64, .slice none 0 0, .slice none 0 0, .int .i64 0] 30))
    have hb := (Below.refl w.heap.size w).alloc (Nat.le_refl _) (.cells #[.int .i64 64, .slice none 0 0, .slice none 0 0, .int .i64 0] 30)
    refine bodyPost_ret (v := .agg #[.int .i64 64, .slice none 0 0, .slice none 0 0, .int .i64 0]) ?_ rfl ⟨by unfold refV; rw [HC.out]; rfl, hb⟩
    clear hb HC
    simp only [results, Try.f12]
    go_simp
  · have HC := Lib.hid c2
    clear c2
    go_enter Try.func12, Try.ntmps12
    go_wp2_with fail
    obtain ⟨p0, p1, p2, p3, _⟩ := cells4 (heap_alloc_new w (.cells #[.int .i64 size, .slice none 0 0, .slice none 0 0, .int .i64 0] 30))
    have hb := (Below.refl w.heap.size w).alloc (Nat.le_refl _) (.cells #[.int .i64 size, .slice none 0 0, .slice none 0 0, .int .i64 0] 30)
    refine bodyPost_ret (v := .agg #[.int .i64 size, .slice none 0 0, .slice none 0 0, .int .i64 0]) ?_ rfl ⟨by unfold refV; rw [HC.out]; rfl, hb⟩
    clear hb HC
    simp only [results, Try.f12]
    go_simp
end Go.Proofs.Ytoeekjooigijbaa

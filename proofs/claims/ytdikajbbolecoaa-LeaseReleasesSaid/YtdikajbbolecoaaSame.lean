/-
  same: two rows of the same sessions.
-/
import Derived.Test.YtdikajbbolecoaaDo
namespace Go.Proofs.Ytdikajbbolecoaa
open Go.RowKit
set_option linter.unusedVariables false
set_option linter.unusedSimpArgs false

theorem flatS_at : ∀ (l : List Sess) (i : Nat) (x : Sess), l[i]? = some x → (flatS l)[i * 4]? = some (.int .i64 x.id) ∧ (flatS l)[i * 4 + 1]? = some (.int .i64 x.block) ∧ (flatS l)[i * 4 + 2]? = some (.int .i64 x.dead) ∧ (flatS l)[i * 4 + 3]? = some (.int .i64 x.last)
  | [], i, p, h => by simp at h
  | q :: l, 0, p, h => by simp at h; subst h; exact ⟨rfl, rfl, rfl, rfl⟩
  | q :: l, i + 1, p, h => by
    have ih := flatS_at l i p (by simpa using h)
    rw [Nat.succ_mul]
    exact ih

/-- The cells of a session in a row. -/
theorem row_sess {w : World} {v : Value} {l : List Sess} {i : Nat} {x : Sess} (h : OffRow w 29 4 v l.length (flatS l)) (hx : l[i]? = some x) : ∃ g o cap, v = .slice (some ⟨g, o, none⟩) l.length cap ∧
    w.cell? ⟨g, o + i * 4, none⟩ = some (.int .i64 x.id) ∧ w.cell? ⟨g, o + i * 4 + 1, none⟩ = some (.int .i64 x.block) ∧ w.cell? ⟨g, o + i * 4 + 2, none⟩ = some (.int .i64 x.dead) ∧ w.cell? ⟨g, o + i * 4 + 3, none⟩ = some (.int .i64 x.last) := by
  obtain ⟨h0, h1, h2, h3⟩ := flatS_at l i x hx
  obtain ⟨g, o, cap, hv, q0⟩ := h.cells h0
  have e : ∀ {g' o' cap' : Nat}, v = .slice (some ⟨g', o', none⟩) l.length cap' → g' = g ∧ o' = o := fun he => by
    rw [hv] at he
    simp only [Value.slice.injEq, Option.some.injEq, Addr.mk.injEq, and_true, true_and] at he
    exact ⟨he.1.1.symm, he.1.2.symm⟩
  obtain ⟨g1, o1, c1, hv1, q1⟩ := h.cells h1
  obtain ⟨rfl, rfl⟩ := e hv1
  obtain ⟨g2, o2, c2, hv2, q2⟩ := h.cells h2
  obtain ⟨rfl, rfl⟩ := e hv2
  obtain ⟨g3, o3, c3, hv3, q3⟩ := h.cells h3
  obtain ⟨rfl, rfl⟩ := e hv3
  exact ⟨_, _, cap, hv, q0, by rw [Nat.add_assoc]; exact q1, by rw [Nat.add_assoc]; exact q2, by rw [Nat.add_assoc]; exact q3⟩

set_option maxHeartbeats 1000000 in
theorem same_true (w : World) (va vb : Value) (l : List Sess) (ha : OffRow w 29 4 va l.length (flatS l)) (hb : OffRow w 29 4 vb l.length (flatS l)) (hl : l.length ≤ 100) :
    Calls Try.prog 16 #[va, vb] w fun e w' => e = .returned (.bool true) ∧ ∃ q, w' = w.drewN q := by
  obtain ⟨a, c, rfl⟩ := ha.shape
  obtain ⟨a', c', rfl⟩ := hb.shape
  obtain ⟨n, hn⟩ : ∃ n, n = l.length := ⟨_, rfl⟩
  rw [← hn] at hl
  have hbe : ((n : Int) == (n : Int)) = true := by simp
  have HA := Lib.hid ha
  have HB := Lib.hid hb
  rw [← hn]
  have HN := Lib.hid hn
  clear ha hb hn
  go_enter Try.func16, Try.ntmps16
  go_wp2_with fail
  go_loopw [5] (fun i wr => ∃ k : Nat, k ≤ n ∧ i = .int .i64 k ∧ ∃ q, wr = w.drewN q) (fun i _ => n - (intOf i).toNat)
  case atStart => exact ⟨0, Nat.zero_le _, rfl, 0, rfl⟩
  case round =>
    obtain ⟨k, hk, rfl, q, rfl⟩ := hrel
    by_cases hlt : k < n
    · obtain ⟨x, hx⟩ : ∃ x, l[k]? = some x := ⟨_, List.getElem?_eq_getElem (by rw [← HN.out]; exact hlt)⟩
      obtain ⟨g, o, cap, hv, q0, q1, q2, q3⟩ := row_sess HA.out hx
      obtain ⟨g', o', cap', hv', r0, r1, r2, r3⟩ := row_sess HB.out hx
      simp only [Value.slice.injEq] at hv hv'
      obtain ⟨rfl, _, rfl⟩ := hv
      obtain ⟨rfl, _, rfl⟩ := hv'
      have b1 : (k : Int) < (n : Int) := by omega
      clear hx
      go_wp2_with fail
      go_quiet (fail)
      go_wp2_with fail
      exact ⟨⟨k + 1, by omega, by go_num, _, rfl⟩, by simp [intOf]; omega⟩
    · have b1 : ¬ (k : Int) < (n : Int) := by omega
      go_wp2_with fail
      go_ret
      exact ⟨rfl, q, rfl⟩
end Go.Proofs.Ytdikajbbolecoaa

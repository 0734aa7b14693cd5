/-
  The fixed facts ('works'); acts that are few enough to be looked at.
-/
import Derived.Test.YtoeekjooigijbaaOwn
namespace Go.Proofs.Ytoeekjooigijbaa
open Go.RowKit
set_option linter.unusedVariables false
set_option linter.unusedSimpArgs false

abbrev sa : ByteArray := ⟨#[97]⟩
abbrev sb : ByteArray := ⟨#[98]⟩
theorem wk1 : offerS (emptyS 1) sa ⟨#[49]⟩ = (⟨1, [(sa, ⟨#[49]⟩)], [], 0⟩, true) := by kernel_rfl
theorem wk2 : offerS ⟨1, [(sa, ⟨#[49]⟩)], [], 0⟩ sb ⟨#[50]⟩ = (⟨1, [(sa, ⟨#[49]⟩)], [], 0⟩, false) := by kernel_rfl
theorem wk3 : getS ⟨1, [(sa, ⟨#[49]⟩)], [], 0⟩ sb = (⟨1, [(sa, ⟨#[49]⟩)], [(sb, 1)], 1⟩, ⟨#[]⟩, false) := by kernel_rfl
theorem wk4 : offerS ⟨1, [(sa, ⟨#[49]⟩)], [(sb, 1)], 1⟩ sb ⟨#[51]⟩ = (⟨1, [(sb, ⟨#[51]⟩)], [(sb, 1)], 1⟩, true) := by kernel_rfl
theorem wk5 : getS ⟨1, [(sb, ⟨#[51]⟩)], [(sb, 1)], 1⟩ sb = (⟨1, [(sb, ⟨#[51]⟩)], [(sb, 2)], 2⟩, ⟨#[51]⟩, true) := by kernel_rfl
theorem wk6 : getS ⟨1, [(sb, ⟨#[51]⟩)], [(sb, 2)], 2⟩ sa = (⟨1, [(sb, ⟨#[51]⟩)], [(sb, 2), (sa, 1)], 3⟩, ⟨#[]⟩, false) := by kernel_rfl
theorem wk7 : forgetS ⟨1, [(sb, ⟨#[51]⟩)], [(sb, 2), (sa, 1)], 3⟩ sb = (⟨1, [], [(sb, 2), (sa, 1)], 3⟩, true) := by kernel_rfl
theorem wk8 : forgetS ⟨1, [], [(sb, 2), (sa, 1)], 3⟩ sb = (⟨1, [], [(sb, 2), (sa, 1)], 3⟩, false) := by kernel_rfl

set_option maxHeartbeats 1000000 in
theorem works_any (w : World) : Calls Try.prog 9 #[] w (BelowPost w (.bool true)) := by
  have hB := Nat.le_refl w.heap.size
  have hm1 : (⟨#[98]⟩ : ByteArray).size ≤ maxLen := by unfold maxLen; show (1 : Nat) ≤ _; omega
  have hm2 : (⟨#[97]⟩ : ByteArray).size ≤ maxLen := by unfold maxLen; show (1 : Nat) ≤ _; omega
  have D0 := Lib.hid (new_any 1 w (by omega) (by omega))
  go_enter Try.func9, Try.ntmps9
  go_wp2_with fail
  refine D0.out.mono ?_
  rintro e w1 ⟨rfl, hc1, hb1⟩
  have h1 : Own w.heap.size w w1 (w.heap.size + 1) (emptyS 1) := own_new (by omega) hB (Below.refl _ w) hc1 hb1
  have D1 := Lib.hid (h1.offer hB ⟨#[49]⟩ hm2)
  rw [wk1] at D1
  clear h1 hc1 hb1
  go_wp2_with fail
  refine D1.out.mono ?_
  rintro e w2 ⟨rfl, h2, _⟩
  have D2 := Lib.hid (h2.offer hB ⟨#[50]⟩ hm1)
  rw [wk2] at D2
  clear h2
  go_wp2_with fail
  refine D2.out.mono ?_
  rintro e w3 ⟨rfl, h3, _⟩
  have D3 := Lib.hid (h3.get hB hm1)
  rw [wk3] at D3
  clear h3
  go_wp2_with fail
  refine D3.out.mono ?_
  rintro e w4 ⟨rfl, h4, _⟩
  have D4 := Lib.hid (h4.offer hB ⟨#[51]⟩ hm1)
  rw [wk4] at D4
  clear h4
  go_wp2_with fail
  refine D4.out.mono ?_
  rintro e w5 ⟨rfl, h5, _⟩
  have D5 := Lib.hid (h5.get hB hm1)
  rw [wk5] at D5
  clear h5
  go_wp2_with fail
  refine D5.out.mono ?_
  rintro e w6 ⟨rfl, h6, _⟩
  have D6 := Lib.hid (h6.get hB hm2)
  rw [wk6] at D6
  clear h6
  go_wp2_with fail
  refine D6.out.mono ?_
  rintro e w7 ⟨rfl, h7, _⟩
  have D7 := Lib.hid (h7.often hm1)
  have D8 := Lib.hid h7.counted
  have D9 := Lib.hid (h7.keys hB)
  have e1 : (((often [(sb, 2), (sa, 1)] sb : Nat) : Int) == 2) = true := by kernel_rfl
  clear h7
  go_wp2_with fail
  refine D7.out.mono ?_
  rintro e w' ⟨rfl, rfl⟩
  go_wp2_with fail
  refine D8.out.mono ?_
  rintro e w' ⟨rfl, rfl⟩
  go_wp2_with fail
  refine D9.out.mono ?_
  rintro e w8 ⟨va, rfl, _, ⟨a, cap, rfl⟩, h8, _, _⟩
  have D10 := Lib.hid (h8.forget hB sb)
  rw [wk7] at D10
  clear h8
  go_wp2_with fail
  refine D10.out.mono ?_
  rintro e w9 ⟨rfl, h9, _⟩
  have D11 := Lib.hid (h9.forget hB sb)
  rw [wk8] at D11
  clear h9
  go_wp2_with fail
  refine D11.out.mono ?_
  rintro e w10 ⟨rfl, h10, _⟩
  have H := Lib.hid h10.below
  clear h10
  go_wp2_with fail
  go_ret
  exact ⟨rfl, H.out⟩

/-- An act, as data. -/
structure ActD where
  K : Int
  S : ByteArray
  V : ByteArray

/-- The value is a slice of these acts in this world. -/
def ActsAt (w : World) (v : Value) (l : List ActD) : Prop :=
  ∃ a cap, v = .slice a l.length cap ∧ ∀ i x, l[i]? = some x → ∃ b o, a = some ⟨b, o, none⟩ ∧ w.cell? ⟨b, o + i * 3, none⟩ = some (.int .i64 x.K) ∧ w.cell? ⟨b, o + i * 3 + 1, none⟩ = some (.string x.S) ∧
    w.cell? ⟨b, o + i * 3 + 2, none⟩ = some (.string x.V)

def FewPost (w : World) (l : List ActD) (e : Ending) (w' : World) : Prop := ∃ b, e = .returned (.bool b) ∧ (b = true → l.length ≤ 200 ∧ ∀ x ∈ l, x.S.size ≤ 50 ∧ x.V.size ≤ 50) ∧ w = w'

set_option maxHeartbeats 400000 in
theorem few_any (w : World) (v : Value) (l : List ActD) (h : ActsAt w v l) (hm : l.length ≤ maxLen) : Calls Try.prog 11 #[v] w (FewPost w l) := by
  obtain ⟨a, cap, rfl, hc⟩ := h
  unfold maxLen at hm
  obtain ⟨n, hn⟩ : ∃ n, n = l.length := ⟨_, rfl⟩
  rw [← hn]
  have hm' : n ≤ 9223372036854775807 := by omega
  have HC := Lib.hid hc
  have HN := Lib.hid hn
  clear hm hc hn
  go_enter Try.func11, Try.ntmps11
  go_wp2
  go_loop [3] (fun i => ∃ k : Nat, k ≤ n ∧ k ≤ 201 ∧ i = .int .i64 k ∧ ∀ t x, t < k → l[t]? = some x → x.S.size ≤ 50 ∧ x.V.size ≤ 50) (fun i => 201 - (intOf i).toNat)
  case atStart => exact ⟨0, Nat.zero_le _, Nat.zero_le _, rfl, fun t x h => by omega⟩
  case round =>
    obtain ⟨k, hk, hk1, rfl, hall⟩ := hrel
    have HA := Lib.hid hall
    clear hall
    by_cases hlt : k < n
    · have b1 : (k : Int) < (n : Int) := by omega
      by_cases hle : k ≤ 200
      · have b2 : (k : Int) ≤ 200 := by omega
        obtain ⟨x, hx⟩ : ∃ x, l[k]? = some x := ⟨_, List.getElem?_eq_getElem (by rw [← HN.out]; exact hlt)⟩
        obtain ⟨b, o, rfl, q0, q1, q2⟩ := HC.out k x hx
        have HX := Lib.hid hx
        clear hx q0
        by_cases h1 : x.S.size ≤ 50
        · by_cases h2 : x.V.size ≤ 50
          · have c1 : ¬ (50 : Int) < (x.S.size : Int) := by omega
            have c2 : ¬ (50 : Int) < (x.V.size : Int) := by omega
            have c3 : decide (50 < x.S.size) = false := decide_eq_false (by omega)
            have c4 : decide (50 < x.V.size) = false := decide_eq_false (by omega)
            go_wp2
            refine ⟨⟨k + 1, by omega, by omega, by go_num, fun t y ht hy => ?_⟩, by simp [intOf]; omega⟩
            by_cases e : t = k
            · subst e
              rw [HX.out] at hy
              cases hy
              exact ⟨h1, h2⟩
            · exact HA.out t y (by omega) hy
          · have c1 : ¬ (50 : Int) < (x.S.size : Int) := by omega
            have c2 : (50 : Int) < (x.V.size : Int) := by omega
            have c3 : decide (50 < x.S.size) = false := decide_eq_false (by omega)
            have c4 : decide (50 < x.V.size) = true := decide_eq_true (by omega)
            go_wp2
            go_ret
            exact ⟨false, rfl, fun h => (by cases h), rfl⟩
        · have c1 : (50 : Int) < (x.S.size : Int) := by omega
          have c3 : decide (50 < x.S.size) = true := decide_eq_true (by omega)
          go_wp2
          go_ret
          exact ⟨false, rfl, fun h => (by cases h), rfl⟩
      · have b2 : ¬ (k : Int) ≤ 200 := by omega
        have b3 : ¬ (n : Int) ≤ 200 := by omega
        go_wp2
        go_ret
        exact ⟨_, rfl, fun h => (by cases h), rfl⟩
    · have b1 : ¬ (k : Int) < (n : Int) := by omega
      go_wp2
      go_ret
      refine ⟨_, rfl, fun h => ?_, rfl⟩
      have h := of_decide_eq_true h
      refine ⟨by have := HN.out; omega, fun x hx => ?_⟩
      obtain ⟨t, ht⟩ := List.getElem?_of_mem hx
      exact HA.out t x (by have := (List.getElem?_eq_some_iff.1 ht).1; have := HN.out; omega) ht
end Go.Proofs.Ytoeekjooigijbaa

/-
  How many there are of a frame, and what each act does to that number. Plain Lean.
-/
import Derived.Test.YtgfklfpjibjhmaaOpen
namespace Go.Proofs.Ytgfklfpjibjhmaa
open Go.RowKit
set_option linter.unusedVariables false
set_option linter.unusedSimpArgs false
def hits (xs : List ByteArray) (n : Int) (s : ByteArray) : Bool := inside xs n && decide (nth xs n = s)
def b2n (b : Bool) : Int := if b then 1 else 0
theorem hits_off {xs : List ByteArray} {n : Int} {s : ByteArray} (h : n < 0 ∨ (xs.length : Int) ≤ n) : hits xs n s = false := by
  have : inside xs n = false := decide_eq_false (by omega)
  unfold hits; rw [this]; rfl
theorem hits_in {xs : List ByteArray} {j : Nat} {s x : ByteArray} (h : xs[j]? = some x) : hits xs j s = decide (x = s) := by
  have hj : j < xs.length := (List.getElem?_eq_some_iff.1 h).1
  have : inside xs j = true := decide_eq_true (by omega)
  unfold hits nth; rw [this, Bool.true_and]
  simp [List.getD, h]
theorem countOf_append (s : ByteArray) (xs ys : List ByteArray) : countOf s (xs ++ ys) = countOf s xs + countOf s ys := by
  unfold countOf; rw [List.filter_append, List.length_append]
theorem countOf_cons (s x : ByteArray) (xs : List ByteArray) : countOf s (x :: xs) = (if x = s then 1 else 0) + countOf s xs := by
  unfold countOf
  by_cases h : x = s <;> simp [h, Nat.add_comm]
theorem countOf_erase (s : ByteArray) : ∀ (xs : List ByteArray) (k : Nat) (h : k < xs.length), countOf s (xs.eraseIdx k) + (if xs[k] = s then 1 else 0) = countOf s xs := by
  intro xs
  induction xs with
  | nil => intro k h; simp at h
  | cons x xs ih =>
    intro k h
    cases k with
    | zero => rw [List.eraseIdx_cons_zero, countOf_cons, List.getElem_cons_zero]; omega
    | succ k =>
      rw [List.eraseIdx_cons_succ, countOf_cons, countOf_cons, List.getElem_cons_succ, Nat.add_assoc, ih k (by simpa using h)]
theorem take_counts (xs : List ByteArray) (n : Int) (s : ByteArray) : (countOf s (takeM xs n).1 : Int) = countOf s xs - b2n ((takeM xs n).2.2 && hits xs n s) := by
  unfold takeM
  cases hi : inside xs n with
  | false => simp [b2n]
  | true =>
    obtain ⟨k, rfl, hk, he⟩ := inside_true hi
    have hh : hits xs k s = decide (xs[k] = s) := hits_in (List.getElem?_eq_getElem hk)
    have := countOf_erase s xs k hk
    rw [if_pos rfl, hh]
    by_cases e : xs[k] = s
    · simp only [e, if_true] at this; simp [e, b2n]; omega
    · simp only [e, if_false] at this; simp [e, b2n]; omega
theorem send_counts (r : Nat) (xs : List ByteArray) (x s : ByteArray) : (countOf s (sendM r xs x).1 : Int) = countOf s xs + b2n ((sendM r xs x).2 && decide (x = s)) := by
  unfold sendM
  by_cases hr : xs.length < r
  · rw [if_pos hr, countOf_snoc]
    by_cases e : x = s <;> simp [e, b2n]
  · rw [if_neg hr]; simp [b2n]
theorem double_counts (r : Nat) (xs : List ByteArray) (n : Int) (s : ByteArray) : (countOf s (doubleM r xs n).1 : Int) = countOf s xs + b2n ((doubleM r xs n).2 && hits xs n s) := by
  unfold doubleM
  cases hi : inside xs n with
  | false => simp [b2n]
  | true =>
    rw [if_pos rfl, send_counts]
    unfold hits
    rw [hi, Bool.true_and]
theorem move_counts (xs : List ByteArray) (n to : Int) (s : ByteArray) : countOf s (moveM xs n to).1 = countOf s xs := by
  unfold moveM
  cases hi : inside xs n with
  | false => simp
  | true =>
    cases hj : inside xs to with
    | false => simp
    | true =>
      obtain ⟨k, rfl, hk, he⟩ := inside_true hi
      obtain ⟨j, rfl, hj', _⟩ := inside_true hj
      rw [if_pos (by rfl), he, getD_at hk]
      have e := countOf_erase s xs k hk
      have e2 := countOf_append s ((xs.eraseIdx k).take j) ((xs.eraseIdx k).drop j)
      rw [List.take_append_drop] at e2
      unfold moved
      rw [countOf_append, countOf_append, countOf_cons]
      have e3 : countOf s [] = 0 := rfl
      simp only [Int.toNat_natCast]
      omega
theorem do_counts (r : Nat) (xs : List ByteArray) (a : ActD) (s : ByteArray) : (countOf s (doM r xs a).1 : Int) =
    countOf s xs + b2n ((doM r xs a).2.2 && (decide (a.K = 0) && decide (a.S = s) || decide (a.K = 3) && hits xs a.N s)) - b2n ((doM r xs a).2.2 && hits xs a.N s && (decide (a.K = 1) || decide (a.K = 2))) := by
  unfold doM
  by_cases k0 : a.K = 0
  · simp [k0, send_counts, b2n]
  · by_cases k1 : a.K = 1
    · simp [k1, take_counts, b2n]
    · by_cases k2 : a.K = 2
      · simp [k2, take_counts, b2n]
      · by_cases k3 : a.K = 3
        · simp [k3, double_counts, b2n]
        · simp [k0, k1, k2, k3, move_counts, b2n]
theorem do_takes (r : Nat) (xs : List ByteArray) (a : ActD) (s : ByteArray) (hk : a.K = 1) (hok : (doM r xs a).2.2 = true) : decide ((doM r xs a).2.1 = s) = hits xs a.N s := by
  unfold doM at hok ⊢
  simp only [hk, if_neg (show ¬ ((1 : Int) = 0) by omega), if_pos] at hok ⊢
  unfold takeM at hok ⊢
  unfold hits
  cases hi : inside xs a.N with
  | false => rw [hi] at hok; simp at hok
  | true => simp
end Go.Proofs.Ytgfklfpjibjhmaa

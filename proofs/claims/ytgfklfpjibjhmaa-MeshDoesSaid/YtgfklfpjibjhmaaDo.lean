/-
  One contract for each method of a mesh, told by a plain function on lists; and for the laws' own 'do'.
-/
import Derived.Test.YtgfklfpjibjhmaaRead
namespace Go.Proofs.Ytgfklfpjibjhmaa
open Go.RowKit
set_option linter.unusedVariables false
set_option linter.unusedSimpArgs false

def nth (xs : List ByteArray) (n : Int) : ByteArray := xs.getD n.toNat ⟨#[]⟩
def inside (xs : List ByteArray) (n : Int) : Bool := decide (0 ≤ n ∧ n < (xs.length : Int))
def sendM (room : Nat) (xs : List ByteArray) (s : ByteArray) : List ByteArray × Bool := if xs.length < room then (xs ++ [s], true) else (xs, false)
def takeM (xs : List ByteArray) (n : Int) : List ByteArray × ByteArray × Bool := if inside xs n then (xs.eraseIdx n.toNat, nth xs n, true) else (xs, ⟨#[]⟩, false)
def doubleM (room : Nat) (xs : List ByteArray) (n : Int) : List ByteArray × Bool := if inside xs n then sendM room xs (nth xs n) else (xs, false)
def moveM (xs : List ByteArray) (n to : Int) : List ByteArray × Bool := if inside xs n && inside xs to then (moved xs n.toNat to.toNat (nth xs n), true) else (xs, false)

theorem inside_true {xs : List ByteArray} {n : Int} (h : inside xs n = true) : ∃ k : Nat, n = k ∧ k < xs.length ∧ nth xs n = xs.getD k ⟨#[]⟩ := by
  obtain ⟨h0, h1⟩ := of_decide_eq_true h
  obtain ⟨k, rfl⟩ := Int.eq_ofNat_of_zero_le h0
  exact ⟨k, rfl, by omega, rfl⟩
theorem inside_false {xs : List ByteArray} {n : Int} (h : inside xs n = false) : n < 0 ∨ (xs.length : Int) ≤ n := by
  have := of_decide_eq_false h
  omega
theorem getD_at {xs : List ByteArray} {k : Nat} (h : k < xs.length) : xs.getD k ⟨#[]⟩ = xs[k] := by simp [List.getD, List.getElem?_eq_getElem h]

section
variable (mb : Nat) (v : Value) (room : Nat) (xs : List ByteArray) (w : World) (h : MeshAt w mb v room xs)
include h

theorem send_all (s : ByteArray) : Calls Try.prog 18 #[.pointer (some ⟨mb, 0, none⟩), .string s] w (MeshPost w mb v room (sendM room xs s).1 (.bool (sendM room xs s).2)) := by
  unfold sendM
  by_cases hr : xs.length < room
  · rw [if_pos hr]; exact send_yes mb v room xs s w h hr
  · rw [if_neg hr]; exact send_no mb v room xs s w h (by have := h.fits; omega)

theorem take_all (n : Int) : Calls Try.prog 20 #[.pointer (some ⟨mb, 0, none⟩), .int .i64 n] w (MeshPost w mb v room (takeM xs n).1 (.tuple #[.string (takeM xs n).2.1, .bool (takeM xs n).2.2])) := by
  unfold takeM
  cases hi : inside xs n with
  | true =>
    obtain ⟨k, rfl, hk, he⟩ := inside_true hi
    rw [if_pos rfl, he, getD_at hk]
    exact take_yes mb v room xs k w h hk
  | false =>
    rw [if_neg (by simp)]
    exact take_no mb v room xs n w h (inside_false hi)

theorem drop_all (n : Int) : Calls Try.prog 22 #[.pointer (some ⟨mb, 0, none⟩), .int .i64 n] w (MeshPost w mb v room (takeM xs n).1 (.bool (takeM xs n).2.2)) := by
  unfold takeM
  cases hi : inside xs n with
  | true =>
    obtain ⟨k, rfl, hk, he⟩ := inside_true hi
    rw [if_pos rfl]
    exact drop_yes mb v room xs k w h hk
  | false =>
    rw [if_neg (by simp)]
    exact drop_no mb v room xs n w h (inside_false hi)

theorem double_all (n : Int) : Calls Try.prog 21 #[.pointer (some ⟨mb, 0, none⟩), .int .i64 n] w (MeshPost w mb v room (doubleM room xs n).1 (.bool (doubleM room xs n).2)) := by
  unfold doubleM
  cases hi : inside xs n with
  | true =>
    obtain ⟨k, rfl, hk, he⟩ := inside_true hi
    rw [if_pos rfl, he, getD_at hk]
    unfold sendM
    by_cases hr : xs.length < room
    · rw [if_pos hr]; exact double_yes mb v room xs k w h hk hr
    · rw [if_neg hr]; exact double_full mb v room xs k w h hk (by have := h.fits; omega)
  | false =>
    rw [if_neg (by simp)]
    exact double_no mb v room xs n w h (inside_false hi)

theorem move_all (n to : Int) : Calls Try.prog 19 #[.pointer (some ⟨mb, 0, none⟩), .int .i64 n, .int .i64 to] w (MeshPost w mb v room (moveM xs n to).1 (.bool (moveM xs n to).2)) := by
  unfold moveM
  cases hi : inside xs n with
  | true =>
    obtain ⟨k, rfl, hk, he⟩ := inside_true hi
    cases hj : inside xs to with
    | true =>
      obtain ⟨j, rfl, hj', _⟩ := inside_true hj
      rw [if_pos (by rfl), he, getD_at hk]
      exact move_yes mb v room xs k j w h hk hj'
    | false =>
      rw [if_neg (by simp)]
      exact move_no mb v room xs k to w h hk (inside_false hj)
  | false =>
    rw [if_neg (by simp)]
    exact move_off mb v room xs n to w h (inside_false hi)
end

/-- An act, as data. -/
structure ActD where
  K : Int
  S : ByteArray
  N : Int
  To : Int

def ActD.val (a : ActD) : Value := .agg #[.int .i64 a.K, .string a.S, .int .i64 a.N, .int .i64 a.To]

def doM (room : Nat) (xs : List ByteArray) (a : ActD) : List ByteArray × ByteArray × Bool :=
  if a.K = 0 then ((sendM room xs a.S).1, ⟨#[]⟩, (sendM room xs a.S).2)
  else if a.K = 1 then takeM xs a.N
  else if a.K = 2 then ((takeM xs a.N).1, ⟨#[]⟩, (takeM xs a.N).2.2)
  else if a.K = 3 then ((doubleM room xs a.N).1, ⟨#[]⟩, (doubleM room xs a.N).2)
  else ((moveM xs a.N a.To).1, ⟨#[]⟩, (moveM xs a.N a.To).2)

/-- What 'do' ends with, once the struct that it was handed lies in a box. -/
theorem box_post {w : World} {mb : Nat} {v : Value} {room : Nat} {xs : List ByteArray} {o : Obj} {r : Value} {w' : World} (h : ∃ v', MeshAt w' mb v' room xs ∧ Turned (w.alloc o).heap.size (w.alloc o) w' mb v v') :
    MeshPost w mb v room xs r (.returned r) w' := by
  obtain ⟨v', hm, ht⟩ := h
  exact ⟨rfl, v', hm, (Turned.alloc w.heap.size w o (Nat.le_refl _) mb v).trans (ht.mono (by simp))⟩

set_option maxHeartbeats 1000000 in
theorem do_all (mb : Nat) (v : Value) (room : Nat) (xs : List ByteArray) (w : World) (h : MeshAt w mb v room xs) (a : ActD) :
    Calls Try.prog 12 #[.pointer (some ⟨mb, 0, none⟩), a.val] w (MeshPost w mb v room (doM room xs a).1 (.tuple #[.string (doM room xs a).2.1, .bool (doM room xs a).2.2])) := by
  obtain ⟨K, S, N, To⟩ := a
  unfold doM ActD.val
  dsimp only
  have hA := h.alloc (.cells #[.int .i64 K, .string S, .int .i64 N, .int .i64 To] 34)
  by_cases c0 : K = 0
  · have b0 : (K == 0) = true := by rw [beq_iff_eq]; exact c0
    simp only [if_pos c0]
    have D := Lib.hid (send_all mb v room xs _ hA S)
    clear h hA c0
    go_enter Try.func12, Try.ntmps12
    go_wp2_with fail
    refine D.out.mono ?_
    rintro e w' ⟨rfl, hx⟩
    have HX := Lib.hid hx
    clear hx
    go_wp2_with fail
    go_ret2
    exact box_post HX.out
  · by_cases c1 : K = 1
    · have b0 : (K == 0) = false := by rw [beq_eq_false_iff_ne]; exact c0
      have b1 : (K == 1) = true := by rw [beq_iff_eq]; exact c1
      simp only [if_neg c0, if_pos c1]
      have D := Lib.hid (take_all mb v room xs _ hA N)
      clear h hA c0 c1
      go_enter Try.func12, Try.ntmps12
      go_wp2_with fail
      refine D.out.mono ?_
      rintro e w' ⟨rfl, hx⟩
      have HX := Lib.hid hx
      clear hx
      go_wp2_with fail
      go_ret2
      exact box_post HX.out
    · by_cases c2 : K = 2
      · have b0 : (K == 0) = false := by rw [beq_eq_false_iff_ne]; exact c0
        have b1 : (K == 1) = false := by rw [beq_eq_false_iff_ne]; exact c1
        have b2 : (K == 2) = true := by rw [beq_iff_eq]; exact c2
        simp only [if_neg c0, if_neg c1, if_pos c2]
        have D := Lib.hid (drop_all mb v room xs _ hA N)
        clear h hA c0 c1 c2
        go_enter Try.func12, Try.ntmps12
        go_wp2_with fail
        refine D.out.mono ?_
        rintro e w' ⟨rfl, hx⟩
        have HX := Lib.hid hx
        clear hx
        go_wp2_with fail
        go_ret2
        exact box_post HX.out
      · by_cases c3 : K = 3
        · have b0 : (K == 0) = false := by rw [beq_eq_false_iff_ne]; exact c0
          have b1 : (K == 1) = false := by rw [beq_eq_false_iff_ne]; exact c1
          have b2 : (K == 2) = false := by rw [beq_eq_false_iff_ne]; exact c2
          have b3 : (K == 3) = true := by rw [beq_iff_eq]; exact c3
          simp only [if_neg c0, if_neg c1, if_neg c2, if_pos c3]
          have D := Lib.hid (double_all mb v room xs _ hA N)
          clear h hA c0 c1 c2 c3
          go_enter Try.func12, Try.ntmps12
          go_wp2_with fail
          refine D.out.mono ?_
          rintro e w' ⟨rfl, hx⟩
          have HX := Lib.hid hx
          clear hx
          go_wp2_with fail
          go_ret2
          exact box_post HX.out
        · have b0 : (K == 0) = false := by rw [beq_eq_false_iff_ne]; exact c0
          have b1 : (K == 1) = false := by rw [beq_eq_false_iff_ne]; exact c1
          have b2 : (K == 2) = false := by rw [beq_eq_false_iff_ne]; exact c2
          have b3 : (K == 3) = false := by rw [beq_eq_false_iff_ne]; exact c3
          simp only [if_neg c0, if_neg c1, if_neg c2, if_neg c3]
          have D := Lib.hid (move_all mb v room xs _ hA N To)
          clear h hA c0 c1 c2 c3
          go_enter Try.func12, Try.ntmps12
          go_wp2_with fail
          refine D.out.mono ?_
          rintro e w' ⟨rfl, hx⟩
          have HX := Lib.hid hx
          clear hx
          go_wp2_with fail
          go_ret2
          exact box_post HX.out
end Go.Proofs.Ytgfklfpjibjhmaa

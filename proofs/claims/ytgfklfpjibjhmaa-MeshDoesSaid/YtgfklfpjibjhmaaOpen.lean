/-
  What an argument that can be read as data is: a list of strings; a list of acts.
-/
import Derived.Test.YtgfklfpjibjhmaaWorks
import Derived.ProofKit
import Derived.OpenShut
import Derived.ChangeOld
import Derived.Deep.Slices
import Derived.Lib.SmallJoins
namespace Go.Proofs.Ytgfklfpjibjhmaa
open Go.ChangeShapes Go.WideShapes Go.ChangeAt Go.RowKit
set_option linter.unusedVariables false
set_option linter.unusedSimpArgs false

theorem cells34 : Try.prog.cellsOf 34 = 4 := by kernel_rfl
theorem cells9 : Try.prog.cellsOf 9 = 1 := by kernel_rfl
theorem cells3 : Try.prog.cellsOf 3 = 1 := by kernel_rfl
theorem own : ownKnob Try.prog.godebug = none := by kernel_rfl
theorem laidOut : laidOutB Try.prog = true := by kernel_rfl

theorem addr_plain {w : World} {a : Addr} {x : Value} (h : w.cell? a = some x) : ∃ b o, a = ⟨b, o, none⟩ := by
  obtain ⟨b, o, sp⟩ := a
  have := World.cell?_spot h
  exact ⟨b, o, by simpa using this⟩

section
variable {H : Type} {enc : TypeId × Value → H} {W : World} {base : Nat} {spare : Nat → Bool} {held : Bool} {fuel : Nat} {cs : List Value} {x : DataW H × List MemPlace}

theorem strs_of (h : DataW.trod enc Try.prog W base spare held fuel 27 cs = some x) : ∃ v xs, cs = [v] ∧ StrsAt W v xs ∧ xs.length ≤ maxLen := by
  rcases Deep.open_slice1 Try.underlying27 cells9 h with ⟨rfl, _⟩ | ⟨a, len, cap, m, n, V, D, Pl, rfl, _, hl, hm, hmm, _, hx⟩
  · exact ⟨_, [], rfl, ⟨none, 0, rfl, fun i s hs => by simp at hs⟩, by simp⟩
  · have hlm : len ≤ m := by rw [hmm]; split <;> omega
    have each : ∀ i, i < len → ∃ s : ByteArray, V i = .string s := fun i hi => by
      obtain ⟨s, hs, _⟩ := DataW.trod_string Try.underlying9 (hx i (by omega)).2
      exact ⟨s, by simpa using hs⟩
    obtain ⟨f, hf⟩ := Deep.choose_lt each
    refine ⟨_, (List.range len).map f, rfl, ⟨some a, cap, by simp, fun i s hs => ?_⟩, by simp; omega⟩
    have hi : i < len := by have := (List.getElem?_eq_some_iff.1 hs).1; simpa using this
    have hfs : f i = s := by simpa [List.getElem?_map, List.getElem?_range hi] using hs
    obtain ⟨b, o, rfl⟩ := addr_plain (hx 0 (by omega)).1
    refine ⟨b, o, rfl, ?_⟩
    have := (hx i (by omega)).1
    rw [addr_add] at this
    rw [this, hf i hi, hfs]

theorem acts_of (h : DataW.trod enc Try.prog W base spare held fuel 22 cs = some x) : ∃ v l, cs = [v] ∧ ActsAt W v l ∧ l.length ≤ maxLen := by
  rcases Deep.open_slice Try.underlying22 h with ⟨rfl, _⟩ | ⟨a, len, cap, m, n, D, Pl, rfl, _, hl, hm, hmm, _, hx⟩
  · exact ⟨_, [], rfl, ⟨none, 0, rfl, fun i s hs => by simp at hs⟩, by simp⟩
  · have hlm : len ≤ m := by rw [hmm]; split <;> omega
    have each : ∀ i, i < len → ∃ q : ActD, W.cell? (a.add (i * 4)) = some (.int .i64 q.K) ∧ W.cell? (a.add (i * 4 + 1)) = some (.string q.S) ∧ W.cell? (a.add (i * 4 + 2)) = some (.int .i64 q.N) ∧ W.cell? (a.add (i * 4 + 3)) = some (.int .i64 q.To) := fun i hi => by
      obtain ⟨cs', h1, h2⟩ := hx i (by omega)
      rw [cells34] at h1
      obtain ⟨_, hlen, hcell⟩ := World.cells?_some h1
      obtain ⟨y0, y1, y2, y3, k, _, _, g0, g1, g2, g3⟩ := Joins.trod_struct4 Try.underlying34 h2
      match cs', hlen with
      | [c0, c1, c2, c3], _ =>
        simp only [cells3, cells9] at g0 g1 g2 g3
        obtain ⟨n0, q0, _, _⟩ := DataW.trod_int Try.underlying3 g0
        obtain ⟨n1, q1, _, _⟩ := DataW.trod_string Try.underlying9 g1
        obtain ⟨n2, q2, _, _⟩ := DataW.trod_int Try.underlying3 g2
        obtain ⟨n3, q3, _, _⟩ := DataW.trod_int Try.underlying3 g3
        simp at q0 q1 q2 q3
        subst q0 q1 q2 q3
        have e0 := hcell 0 (by omega)
        have e1 := hcell 1 (by omega)
        have e2 := hcell 2 (by omega)
        have e3 := hcell 3 (by omega)
        rw [Deep.add_add] at e0 e1 e2 e3
        exact ⟨⟨n0, n1, n2, n3⟩, by simpa using e0, by simpa using e1, by simpa using e2, by simpa using e3⟩
    have inh : Inhabited ActD := ⟨⟨0, ⟨#[]⟩, 0, 0⟩⟩
    obtain ⟨f, hf⟩ := Deep.choose_lt each
    refine ⟨_, (List.range len).map f, rfl, ⟨some a, cap, by simp, fun i s hs => ?_⟩, by simp; omega⟩
    have hi : i < len := by have := (List.getElem?_eq_some_iff.1 hs).1; simpa using this
    have hfs : f i = s := by simpa [List.getElem?_map, List.getElem?_range hi] using hs
    have h00 := (hf 0 (by omega)).1
    rw [Nat.zero_mul] at h00
    obtain ⟨b, o, rfl⟩ := addr_plain h00
    have e := hf i hi
    rw [hfs] at e
    simp only [addr_add] at e
    exact ⟨b, o, rfl, e.1, by rw [Nat.add_assoc]; exact e.2.1, by rw [Nat.add_assoc]; exact e.2.2.1, by rw [Nat.add_assoc]; exact e.2.2.2⟩
end

theorem belowN (B : Nat) (w : World) (n : Nat) : Below B w (w.drewN n) := ⟨rfl, rfl, rfl, Nat.le_refl _, fun _ _ => rfl⟩

theorem same_any (w : World) (va vb : Value) (xs ys : List ByteArray) (ha : StrsAt w va xs) (hb : StrsAt w vb ys) (hm : xs.length ≤ maxLen) :
    Calls Try.prog 14 #[va, vb] w (QuietBool w (decide (xs = ys))) := by
  by_cases he : xs.length = ys.length
  · exact same_eq w va vb xs ys ha hb he hm
  · rw [decide_eq_false (fun e => he (by rw [e]))]
    exact same_len w va vb xs ys ha hb he

theorem same_true (w : World) (va vb : Value) (xs : List ByteArray) (ha : StrsAt w va xs) (hb : StrsAt w vb xs) (hm : xs.length ≤ maxLen) :
    Calls Try.prog 14 #[va, vb] w (QuietBool w true) := by
  have h := same_any w va vb xs xs ha hb hm
  rwa [decide_eq_true rfl] at h

theorem StrsAt.below {B : Nat} {w w' : World} {v : Value} {xs : List ByteArray} (h : StrsAt w v xs) (hB : w.heap.size ≤ B) (hb : Below B w w') : StrsAt w' v xs := by
  obtain ⟨a, cap, rfl, hc⟩ := h
  refine ⟨a, cap, rfl, fun i s hs => ?_⟩
  obtain ⟨b, o, e, hq⟩ := hc i s hs
  have := World.block_lt_of_cell? w _ hq
  exact ⟨b, o, e, (hb.cell (p := ⟨b, o + i, none⟩) (Nat.lt_of_lt_of_le this hB)).trans hq⟩

theorem roomOf_three (room : Int) : (room < 1 ∧ roomOf room = 1) ∨ (64 < room ∧ roomOf room = 64) ∨ (1 ≤ room ∧ room ≤ 64 ∧ (roomOf room : Int) = room) := by
  unfold roomOf; omega

/-- A list in a block that has not turned. -/
theorem strs_block {w w' : World} {v : Value} {xs : List ByteArray} (h : StrsAt w v xs) (hb : ∀ k, v.ownBlock = some k → k < w.heap.size → w'.heap[k]? = w.heap[k]?) : StrsAt w' v xs := by
  obtain ⟨a, cap, rfl, hc⟩ := h
  refine ⟨a, cap, rfl, fun i s hs => ?_⟩
  obtain ⟨b, o, rfl, hq⟩ := hc i s hs
  exact ⟨b, o, rfl, (World.cell?_of_block (hb b rfl (World.block_lt_of_cell? w _ hq))).trans hq⟩

/-- An act's cells in a world in which the arguments lie as they did. -/
theorem act_cells {w w' : World} {b o : Nat} {x : ActD} {k : Nat} (hb : Below w.heap.size w w') (h : w.cell? ⟨b, o + k * 4, none⟩ = some (.int .i64 x.K) ∧ w.cell? ⟨b, o + k * 4 + 1, none⟩ = some (.string x.S) ∧
    w.cell? ⟨b, o + k * 4 + 2, none⟩ = some (.int .i64 x.N) ∧ w.cell? ⟨b, o + k * 4 + 3, none⟩ = some (.int .i64 x.To)) :
    w'.cell? ⟨b, o + k * 4, none⟩ = some (.int .i64 x.K) ∧ w'.cell? ⟨b, o + k * 4 + 1, none⟩ = some (.string x.S) ∧ w'.cell? ⟨b, o + k * 4 + 2, none⟩ = some (.int .i64 x.N) ∧ w'.cell? ⟨b, o + k * 4 + 3, none⟩ = some (.int .i64 x.To) := by
  have hl : b < w.heap.size := World.block_lt_of_cell? w _ h.1
  exact ⟨(hb.cell (p := ⟨b, _, none⟩) hl).trans h.1, (hb.cell (p := ⟨b, _, none⟩) hl).trans h.2.1, (hb.cell (p := ⟨b, _, none⟩) hl).trans h.2.2.1, (hb.cell (p := ⟨b, _, none⟩) hl).trans h.2.2.2⟩

end Go.Proofs.Ytgfklfpjibjhmaa

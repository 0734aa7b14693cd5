/-
  What an argument that can be read as data is: a list of strings; a list of acts.
-/
import Derived.Test.YtoeekjooigijbaaWorks
import Derived.ProofKit
import Derived.OpenShut
import Derived.ChangeOld
import Derived.Deep.Slices
import Derived.Lib.SmallJoins
import Derived.Deep.Strs
import Derived.ChangeMaps5
namespace Go.Proofs.Ytoeekjooigijbaa
open Go.ChangeShapes Go.WideShapes Go.ChangeAt Go.RowKit
open Go.ChangeMaps (open_string shut_string)
set_option linter.unusedVariables false
set_option linter.unusedSimpArgs false

theorem cells33 : Try.prog.cellsOf 33 = 3 := by kernel_rfl
theorem cells9 : Try.prog.cellsOf 9 = 1 := by kernel_rfl
theorem cells3 : Try.prog.cellsOf 3 = 1 := by kernel_rfl
theorem own : ownKnob Try.prog.godebug = none := by kernel_rfl
theorem laidOut : laidOutB Try.prog = true := by kernel_rfl

theorem addr_plain {w : World} {a : Addr} {x : Value} (h : w.cell? a = some x) : ∃ b o, a = ⟨b, o, none⟩ := by
  obtain ⟨b, o, sp⟩ := a
  have := World.cell?_spot h
  exact ⟨b, o, by simpa using this⟩

section
variable {H : Type} {enc : TypeId × Value → H} {W : World} {base : Nat} {spare : Nat → Bool} {held : Bool} {fuel : Nat} {cs : List Value} {x : DataW H × List MemPlace}

theorem strs_of (h : DataW.trod enc Try.prog W base spare held fuel 44 cs = some x) : ∃ v xs, cs = [v] ∧ StrsAt W v xs ∧ xs.length ≤ maxLen := by
  rcases Deep.open_slice1 Try.underlying44 cells9 h with ⟨rfl, _⟩ | ⟨a, len, cap, m, n, V, D, Pl, rfl, _, hl, hm, hmm, _, hx⟩
  · exact ⟨_, [], rfl, ⟨none, 0, rfl, fun i s hs => by simp at hs⟩, by simp⟩
  · have hlm : len ≤ m := by rw [hmm]; split <;> omega
    have each : ∀ i, i < len → ∃ s : ByteArray, V i = .string s := fun i hi => by
      obtain ⟨s, hs, _⟩ := DataW.trod_string Try.underlying9 (hx i (by omega)).2
      exact ⟨s, by simpa using hs⟩
    obtain ⟨f, hf⟩ := Deep.choose_lt each
    refine ⟨_, (List.range len).map f, rfl, ⟨some a, cap, by simp, fun i s hs => ?_⟩, by simp; omega⟩
    have hi : i < len := by have := (List.getElem?_eq_some_iff.1 hs).1; simpa using this
    have hfs : f i = s := by simpa [List.getElem?_map, List.getElem?_range hi] using hs
    obtain ⟨b, o, rfl⟩ := addr_plain (hx 0 (by omega)).1
    refine ⟨b, o, rfl, ?_⟩
    have := (hx i (by omega)).1
    rw [addr_add] at this
    rw [this, hf i hi, hfs]

theorem acts_of (h : DataW.trod enc Try.prog W base spare held fuel 22 cs = some x) : ∃ v l, cs = [v] ∧ ActsAt W v l ∧ l.length ≤ maxLen := by
  rcases Deep.open_slice Try.underlying22 h with ⟨rfl, _⟩ | ⟨a, len, cap, m, n, D, Pl, rfl, _, hl, hm, hmm, _, hx⟩
  · exact ⟨_, [], rfl, ⟨none, 0, rfl, fun i s hs => by simp at hs⟩, by simp⟩
  · have hlm : len ≤ m := by rw [hmm]; split <;> omega
    have each : ∀ i, i < len → ∃ q : ActD, W.cell? (a.add (i * 3)) = some (.int .i64 q.K) ∧ W.cell? (a.add (i * 3 + 1)) = some (.string q.S) ∧ W.cell? (a.add (i * 3 + 2)) = some (.string q.V) := fun i hi => by
      obtain ⟨cs', h1, h2⟩ := hx i (by omega)
      rw [cells33] at h1
      obtain ⟨_, hlen, hcell⟩ := World.cells?_some h1
      obtain ⟨y0, y1, y2, k, _, _, g0, g1, g2⟩ := Deep.trod_struct3 Try.underlying33 h2
      match cs', hlen with
      | [c0, c1, c2], _ =>
        simp only [cells3, cells9] at g0 g1 g2
        obtain ⟨n0, q0, _, _⟩ := DataW.trod_int Try.underlying3 g0
        obtain ⟨n1, q1, _, _⟩ := DataW.trod_string Try.underlying9 g1
        obtain ⟨n2, q2, _, _⟩ := DataW.trod_string Try.underlying9 g2
        simp at q0 q1 q2
        subst q0 q1 q2
        have e0 := hcell 0 (by omega)
        have e1 := hcell 1 (by omega)
        have e2 := hcell 2 (by omega)
        rw [Deep.add_add] at e0 e1 e2
        exact ⟨⟨n0, n1, n2⟩, by simpa using e0, by simpa using e1, by simpa using e2⟩
    have inh : Inhabited ActD := ⟨⟨0, ⟨#[]⟩, ⟨#[]⟩⟩⟩
    obtain ⟨f, hf⟩ := Deep.choose_lt each
    refine ⟨_, (List.range len).map f, rfl, ⟨some a, cap, by simp, fun i s hs => ?_⟩, by simp; omega⟩
    have hi : i < len := by have := (List.getElem?_eq_some_iff.1 hs).1; simpa using this
    have hfs : f i = s := by simpa [List.getElem?_map, List.getElem?_range hi] using hs
    have h00 := (hf 0 (by omega)).1
    rw [Nat.zero_mul] at h00
    obtain ⟨b, o, rfl⟩ := addr_plain h00
    have e := hf i hi
    rw [hfs] at e
    simp only [addr_add] at e
    exact ⟨b, o, rfl, e.1, by rw [Nat.add_assoc]; exact e.2.1, by rw [Nat.add_assoc]; exact e.2.2⟩
end


/-- An act's cells in a world in which the arguments lie as they did. -/
theorem act_cells {w w' : World} {b o : Nat} {x : ActD} {k : Nat} (hb : Below w.heap.size w w') (h : w.cell? ⟨b, o + k * 3, none⟩ = some (.int .i64 x.K) ∧ w.cell? ⟨b, o + k * 3 + 1, none⟩ = some (.string x.S) ∧
    w.cell? ⟨b, o + k * 3 + 2, none⟩ = some (.string x.V)) :
    w'.cell? ⟨b, o + k * 3, none⟩ = some (.int .i64 x.K) ∧ w'.cell? ⟨b, o + k * 3 + 1, none⟩ = some (.string x.S) ∧ w'.cell? ⟨b, o + k * 3 + 2, none⟩ = some (.string x.V) := by
  have hl : b < w.heap.size := World.block_lt_of_cell? w _ h.1
  exact ⟨(hb.cell (p := ⟨b, _, none⟩) hl).trans h.1, (hb.cell (p := ⟨b, _, none⟩) hl).trans h.2.1, (hb.cell (p := ⟨b, _, none⟩) hl).trans h.2.2⟩
theorem acts_below {w w' : World} {v : Value} {l : List ActD} (h : ActsAt w v l) (hb : Below w.heap.size w w') : ActsAt w' v l := by
  obtain ⟨a, cap, rfl, hc⟩ := h
  exact ⟨a, cap, rfl, fun i x hx => by obtain ⟨b, o, e, q⟩ := hc i x hx; exact ⟨b, o, e, act_cells hb q⟩⟩
theorem sizeI_three (size : Int) : (size < 0 ∧ sizeI size = 0) ∨ (64 < size ∧ sizeI size = 64) ∨ (0 ≤ size ∧ size ≤ 64 ∧ (sizeI size : Int) = size) := by
  unfold sizeI; omega
theorem get_size (s : St) (k : ByteArray) : (getS s k).1.size = s.size := by
  unfold getS
  split
  · rfl
  · split
    · exact tick_size s k
    · split
      · exact tick_size s k
      · exact tick_size s k
theorem offer_size (s : St) (k x : ByteArray) : (offerS s k x).1.size = s.size := by
  unfold offerS
  split
  · rfl
  · split
    · rfl
    · split
      · rfl
      · split <;> rfl
theorem forget_size (s : St) (k : ByteArray) : (forgetS s k).1.size = s.size := by
  unfold forgetS
  split <;> rfl

end Go.Proofs.Ytoeekjooigijbaa

/-
  What an argument that can be read as data is: a list of acts.
-/
import Derived.Test.YtdikajbbolecoaaWorks
import Derived.ProofKit
import Derived.OpenShut
import Derived.ChangeOld
import Derived.Deep.Slices
import Derived.Lib.SmallJoins
import Derived.Deep.Strs
import Derived.ChangeMaps5
namespace Go.Proofs.Ytdikajbbolecoaa
open Go.ChangeShapes Go.WideShapes Go.ChangeAt Go.RowKit
open Go.ChangeMaps (open_string shut_string)
set_option linter.unusedVariables false
set_option linter.unusedSimpArgs false

theorem cells35 : Try.prog.cellsOf 35 = 6 := by kernel_rfl
theorem cells9 : Try.prog.cellsOf 9 = 1 := by kernel_rfl
theorem cells3 : Try.prog.cellsOf 3 = 1 := by kernel_rfl
theorem own : ownKnob Try.prog.godebug = none := by kernel_rfl
theorem laidOut : laidOutB Try.prog = true := by kernel_rfl

theorem addr_plain {w : World} {a : Addr} {x : Value} (h : w.cell? a = some x) : ∃ b o, a = ⟨b, o, none⟩ := by
  obtain ⟨b, o, sp⟩ := a
  have := World.cell?_spot h
  exact ⟨b, o, by simpa using this⟩

section
variable {H : Type} {enc : TypeId × Value → H} {W : World} {base : Nat} {spare : Nat → Bool} {held : Bool} {fuel : Nat} {cs : List Value} {x : DataW H × List MemPlace}

theorem trod_struct6 {t : TypeId} {f0 f1 f2 f3 f4 f5 : Field} (ht : Try.prog.underlying t = some (.struct #[f0, f1, f2, f3, f4, f5])) (h : DataW.trod enc Try.prog W base spare held fuel t cs = some x) :
    ∃ y0 y1 y2 y3 y4 y5 n, cs.length = Try.prog.cellsOf t ∧ DataW.trod enc Try.prog W base spare held n f0.type ((cs.drop f0.offset).take (Try.prog.cellsOf f0.type)) = some y0 ∧
      DataW.trod enc Try.prog W base spare held n f1.type ((cs.drop f1.offset).take (Try.prog.cellsOf f1.type)) = some y1 ∧ DataW.trod enc Try.prog W base spare held n f2.type ((cs.drop f2.offset).take (Try.prog.cellsOf f2.type)) = some y2 ∧
      DataW.trod enc Try.prog W base spare held n f3.type ((cs.drop f3.offset).take (Try.prog.cellsOf f3.type)) = some y3 ∧ DataW.trod enc Try.prog W base spare held n f4.type ((cs.drop f4.offset).take (Try.prog.cellsOf f4.type)) = some y4 ∧
      DataW.trod enc Try.prog W base spare held n f5.type ((cs.drop f5.offset).take (Try.prog.cellsOf f5.type)) = some y5 := by
  obtain ⟨xs, n, _, rfl, hl, hlen, hf⟩ := DataW.trod_struct ht h
  match xs, hlen with
  | [y0, y1, y2, y3, y4, y5], _ => exact ⟨y0, y1, y2, y3, y4, y5, n, hl, by simpa using hf 0 f0 rfl, by simpa using hf 1 f1 rfl, by simpa using hf 2 f2 rfl, by simpa using hf 3 f3 rfl, by simpa using hf 4 f4 rfl, by simpa using hf 5 f5 rfl⟩

set_option maxRecDepth 10000 in
theorem acts_of (h : DataW.trod enc Try.prog W base spare held fuel 22 cs = some x) : ∃ v l, cs = [v] ∧ ActsAt W v l ∧ l.length ≤ maxLen := by
  rcases Deep.open_slice Try.underlying22 h with ⟨rfl, _⟩ | ⟨a, len, cap, m, n, D, Pl, rfl, _, hl, hm, hmm, _, hx⟩
  · exact ⟨_, [], rfl, ⟨none, 0, rfl, fun i s hs => by simp at hs⟩, by simp⟩
  · have hlm : len ≤ m := by rw [hmm]; split <;> omega
    have each : ∀ i, i < len → ∃ q : ActD, W.cell? (a.add (i * 6)) = some (.int .i64 q.K) ∧ W.cell? (a.add (i * 6 + 1)) = some (.int .i64 q.Id) ∧ W.cell? (a.add (i * 6 + 2)) = some (.int .i64 q.Block) ∧
        W.cell? (a.add (i * 6 + 3)) = some (.int .i64 q.Clock) ∧ W.cell? (a.add (i * 6 + 4)) = some (.int .i64 q.Seq) ∧ W.cell? (a.add (i * 6 + 5)) = some (.string q.Text) := fun i hi => by
      obtain ⟨cs', h1, h2⟩ := hx i (by omega)
      rw [cells35] at h1
      obtain ⟨_, hlen, hcell⟩ := World.cells?_some h1
      obtain ⟨y0, y1, y2, y3, y4, y5, k, _, g0, g1, g2, g3, g4, g5⟩ := trod_struct6 Try.underlying35 h2
      match cs', hlen with
      | [c0, c1, c2, c3, c4, c5], _ =>
        simp only [cells3, cells9] at g0 g1 g2 g3 g4 g5
        obtain ⟨n0, q0, _, _⟩ := DataW.trod_int Try.underlying3 g0
        obtain ⟨n1, q1, _, _⟩ := DataW.trod_int Try.underlying3 g1
        obtain ⟨n2, q2, _, _⟩ := DataW.trod_int Try.underlying3 g2
        obtain ⟨n3, q3, _, _⟩ := DataW.trod_int Try.underlying3 g3
        obtain ⟨n4, q4, _, _⟩ := DataW.trod_int Try.underlying3 g4
        obtain ⟨n5, q5, _, _⟩ := DataW.trod_string Try.underlying9 g5
        simp at q0 q1 q2 q3 q4 q5
        subst q0 q1 q2 q3 q4 q5
        have e0 := hcell 0 (by omega)
        have e1 := hcell 1 (by omega)
        have e2 := hcell 2 (by omega)
        have e3 := hcell 3 (by omega)
        have e4 := hcell 4 (by omega)
        have e5 := hcell 5 (by omega)
        rw [Deep.add_add] at e0 e1 e2 e3 e4 e5
        exact ⟨⟨n0, n1, n2, n3, n4, n5⟩, by simpa using e0, by simpa using e1, by simpa using e2, by simpa using e3, by simpa using e4, by simpa using e5⟩
    have inh : Inhabited ActD := ⟨⟨0, 0, 0, 0, 0, ⟨#[]⟩⟩⟩
    obtain ⟨f, hf⟩ := Deep.choose_lt each
    refine ⟨_, (List.range len).map f, rfl, ⟨some a, cap, by simp, fun i s hs => ?_⟩, by simp; omega⟩
    have hi : i < len := by have := (List.getElem?_eq_some_iff.1 hs).1; simpa using this
    have hfs : f i = s := by simpa [List.getElem?_map, List.getElem?_range hi] using hs
    have h00 := (hf 0 (by omega)).1
    rw [Nat.zero_mul] at h00
    obtain ⟨b, o, rfl⟩ := addr_plain h00
    have e := hf i hi
    rw [hfs] at e
    simp only [addr_add] at e
    exact ⟨b, o, rfl, e.1, by rw [Nat.add_assoc]; exact e.2.1, by rw [Nat.add_assoc]; exact e.2.2.1, by rw [Nat.add_assoc]; exact e.2.2.2.1, by rw [Nat.add_assoc]; exact e.2.2.2.2.1, by rw [Nat.add_assoc]; exact e.2.2.2.2.2⟩
end

/-- An act's cells in a world in which the arguments lie as they did. -/
theorem act_cells {w w' : World} {b o : Nat} {x : ActD} (hb : Below w.heap.size w w') (h : ActCells w b o x) : ActCells w' b o x := by
  have hl : b < w.heap.size := World.block_lt_of_cell? w _ h.1
  exact ⟨(hb.cell (p := ⟨b, _, none⟩) hl).trans h.1, (hb.cell (p := ⟨b, _, none⟩) hl).trans h.2.1, (hb.cell (p := ⟨b, _, none⟩) hl).trans h.2.2.1, (hb.cell (p := ⟨b, _, none⟩) hl).trans h.2.2.2.1, (hb.cell (p := ⟨b, _, none⟩) hl).trans h.2.2.2.2.1, (hb.cell (p := ⟨b, _, none⟩) hl).trans h.2.2.2.2.2⟩
theorem acts_below {w w' : World} {v : Value} {l : List ActD} (h : ActsAt w v l) (hb : Below w.heap.size w w') : ActsAt w' v l := by
  obtain ⟨a, cap, rfl, hc⟩ := h
  exact ⟨a, cap, rfl, fun i x hx => by obtain ⟨b, o, e, q⟩ := hc i x hx; exact ⟨b, o, e, act_cells hb q⟩⟩
theorem openS_opened (t : Tb) (b c : Int) : (openS t b c).1.opened ≤ t.opened + 1 := by unfold openS; split <;> simp
theorem doT_opened (t : Tb) (x : ActD) (k : Nat) (h : t.opened ≤ k) : (doT t x).opened ≤ k + 1 := by
  unfold doT
  split
  · have := openS_opened t x.Block x.Clock; omega
  split
  · omega
  split
  · have : (renewS t x.Id x.Clock).1.opened = t.opened := by
      unfold renewS setL
      split
      · split <;> rfl
      · rfl
    omega
  split
  · have : (repinS t x.Id x.Block x.Clock).1.opened = t.opened := by
      unfold repinS setL
      split
      · split <;> rfl
      · rfl
    omega
  split
  · have : (releaseS t x.Id x.Clock).1.opened = t.opened := by
      unfold releaseS
      split
      · split <;> rfl
      · rfl
    omega
  split
  · have : (expireS t x.Clock).1.opened = t.opened := rfl
    omega
  split
  · have : (storeS t x.Id x.Seq x.Text).1.opened = t.opened := by
      unfold storeS setL
      split
      · rfl
      · split
        · rfl
        · split <;> rfl
    omega
  · omega
def findC (t : Tb) (id clock : Int) : Int := match liveS t id clock with | .inl _ => 0 | .inr c => c
theorem findR_code (t : Tb) (id clock : Int) : ∃ a b c d : Int, findR t id clock = .tuple #[.agg #[.int .i64 a, .int .i64 b, .int .i64 c, .int .i64 d], .int .i64 (findC t id clock)] := by
  unfold findR findC
  split
  · rename_i i hl
    split
    · exact ⟨_, _, _, _, by rw [hl]; rfl⟩
    · exact ⟨_, _, _, _, by rw [hl]; rfl⟩
  · rename_i c hl
    exact ⟨_, _, _, _, by rw [hl]; rfl⟩
def BelowPost (w : World) (r : Value) (e : Ending) (w' : World) : Prop := e = .returned r ∧ Below w.heap.size w w'
end Go.Proofs.Ytdikajbbolecoaa

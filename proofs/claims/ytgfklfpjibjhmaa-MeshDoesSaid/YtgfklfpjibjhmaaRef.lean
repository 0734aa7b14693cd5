/-
  The document's own mesh (guillocheref19): what its functions compute.
-/
import Derived.Test.YtgfklfpjibjhmaaTally
import Derived.Test.YtgfklfpjibjhmaaOff
import Derived.WalkMore
import Derived.ScopeJumps
import Derived.Deep.CutBlock
import Derived.Deep.DeepCutAuto
import Derived.Deep.RegionLaw
import Derived.Deep.RegionHeld3
namespace Go.Proofs.Ytgfklfpjibjhmaa
open Go.RowKit
set_option linter.unusedVariables false
set_option linter.unusedSimpArgs false

/-- A row of frames, from wherever the slice begins. -/
def RowS (w : World) (v : Value) (xs : List ByteArray) : Prop := OffRow w 9 1 v xs.length (xs.map Value.string)
def refV (r : Nat) (v : Value) : Value := .agg #[.int .i64 r, v]

section
variable {w w' : World} {v : Value} {xs : List ByteArray}
theorem RowS.strs (h : RowS w v xs) : StrsAt w v xs := by
  obtain ⟨a, cap, hv⟩ := OffRow.shape h
  subst hv
  refine ⟨a, cap, rfl, fun i s hs => ?_⟩
  obtain ⟨g, o, cap', e, hc⟩ := OffRow.cells h (i := i) (u := .string s) (by rw [List.getElem?_map, hs]; rfl)
  simp only [Value.slice.injEq, true_and] at e
  exact ⟨g, o, e.1, hc⟩
theorem RowS.kept (h : RowS w v xs) (h2 : ∀ k, v.ownBlock = some k → w'.heap[k]? = w.heap[k]?) : RowS w' v xs := OffRow.kept h h2
theorem RowS.below (h : RowS w v xs) (hb : Below w.heap.size w w') : RowS w' v xs := RowS.kept h fun k hk => hb.block k (OffRow.lt h k hk)
theorem RowS.lt (h : RowS w v xs) : ∀ k, v.ownBlock = some k → k < w.heap.size := OffRow.lt h
/-- A row, or a part of it, as the source of an append. -/
theorem src_part {a : Option Addr} {cap : Nat} (h : RowS w (.slice a xs.length cap) xs) (i m c : Nat) (him : i + m ≤ xs.length) (b : Option Addr) (hb : ∀ g o, a = some ⟨g, o, none⟩ → 0 < m → b = some ⟨g, o + i, none⟩) (hn : m = 0 → True) (hz : b = none → m = 0)
    (hpl : ∀ p, b = some p → True) : Src Try.prog 1 27 (.slice b m c) m (((xs.drop i).take m).map Value.string) w := by
  cases m with
  | zero =>
    rw [List.take_zero, List.map_nil]
    cases b with
    | none => exact Src.ofNil _ Try.underlying27 c
    | some p => exact Src.ofSlice _ Try.underlying27 p 0 c [] rfl (fun j u hu => by simp at hu) (fun u hu => by cases hu)
  | succ m =>
    have h0 : (xs.map Value.string)[0]? = some (.string (xs[0]'(by omega))) := by rw [List.getElem?_map, List.getElem?_eq_getElem (by omega)]; rfl
    obtain ⟨g, o, cap', e, _⟩ := OffRow.cells h h0
    simp only [Value.slice.injEq, true_and] at e
    obtain ⟨rfl, rfl⟩ := e
    rw [hb g o rfl (by omega)]
    refine Src.ofSlice _ Try.underlying27 ⟨g, o + i, none⟩ (m + 1) c _ (by simp; omega) (fun j u hu => ?_) (fun u hu => ?_)
    · have hj := (List.getElem?_eq_some_iff.1 hu).1
      simp only [List.length_map, List.length_take, List.length_drop] at hj
      have hu2 : (xs.map Value.string)[i + j]? = some u := by
        rw [List.getElem?_map] at hu ⊢
        rw [List.getElem?_take, if_pos (by omega), List.getElem?_drop] at hu
        exact hu
      obtain ⟨g', o', cap'', e, hc⟩ := OffRow.cells h hu2
      simp only [Value.slice.injEq, Option.some.injEq, Addr.mk.injEq, and_true, true_and] at e
      obtain ⟨⟨rfl, rfl⟩, rfl⟩ := e
      rw [addr_add, Nat.add_assoc]
      exact hc
    · obtain ⟨s, _, rfl⟩ := List.mem_map.1 hu
      rfl
end
theorem src_one (w : World) (s : ByteArray) : Src Try.prog 1 27 (.slice (some ⟨w.heap.size, 0, none⟩) 1 1) 1 [.string s] (w.alloc (.cells #[.string s] 9)) := by
  have h := heap_alloc_new w (.cells #[.string s] 9)
  have c0 : (w.alloc (.cells #[.string s] 9)).cell? ⟨w.heap.size, 0, none⟩ = some (.string s) := cell_of_one h
  refine Src.ofSlice _ Try.underlying27 ⟨w.heap.size, 0, none⟩ 1 1 _ rfl (fun j u hu => ?_) (by simp [Value.oneCell'])
  rw [addr_add]
  cases j with
  | zero => simp only [List.getElem?_cons_zero, Option.some.injEq] at hu; rw [← hu]; exact c0
  | succ j => simp at hu

/-- No frames, in a new block. -/
theorem row_none {w : World} {b : Nat} (h : w.heap[b]? = some (.cells #[] 9 (0, 0))) : OffRow w 9 1 (.slice (some ⟨b, 0, none⟩) 0 0) 0 [] :=
  ⟨rfl, .inr ⟨b, 0, 0, _, rfl, h, Nat.le_refl _, by unfold maxLen; omega, by simp, by simp⟩⟩

theorem wpList_append_off {P : Program} {ops : Array Oper} {o : Oper} {rest : List Oper} {a : Act} {w : World} {Q : Exit → Act → World → Prop} (hg : o.guard = none)
    (s x : Operand) (t tx e : TypeId) (ho : o.op = .call { callee := .builtin .append, args := #[s, x], argTypes := #[t, tx] })
    (i : TypeInfo) (z : Value) (size bytes : Nat) (ht : P.underlying t = some (.slice e)) (hi : P.info? e = some i) (hz : i.zero = some z)
    (hsize : i.size = size) (hby : i.bytes = bytes) (hzs : z.cells.size = size) (v : Value) (n : Nat) (xs : List Value) (hv : a.eval s = v) (hown : OffRow w e size v n xs)
    (m : Nat) (news : List Value) (hs : Src P size tx (a.eval x) m news w) (hm0 : 0 < m ∨ v.ownBlock ≠ none) (h63 : n + m ≤ maxLen) (hbytes : (n + m) * bytes ≤ 140737488355328)
    (hK : ∀ v' w', OffRow w' e size v' (n + m) (xs ++ news) → w.grownBy w' v.ownBlock → (v'.ownBlock = v.ownBlock ∨ v'.ownBlock = some w.heap.size) → wpList P ops Q rest (a.put o.dst v') w') :
    wpList P ops Q (o :: rest) a w := by
  obtain ⟨v', w', hr, h1, h2, h3⟩ := run_append_off (P := P) (w := w) t tx o.type e i z size bytes ht hi hz hsize hby hzs v n xs hown (a.eval x) m hm0 news hs h63 hbytes
  exact wpList_run hg (exec_append ho hv rfl hr) (hK v' w' h1 h2 h3)
theorem step_append_off {P : Program} {ops : Array Oper} {o : Oper} {a : Act} {w : World} {K : Act → World → Prop} {Q : Exit → Act → World → Prop} {E : Prop} (hg : o.guard = none)
    (s x : Operand) (t tx e : TypeId) (ho : o.op = .call { callee := .builtin .append, args := #[s, x], argTypes := #[t, tx] })
    (i : TypeInfo) (z : Value) (size bytes : Nat) (ht : P.underlying t = some (.slice e)) (hi : P.info? e = some i) (hz : i.zero = some z)
    (hsize : i.size = size) (hby : i.bytes = bytes) (hzs : z.cells.size = size) (v : Value) (n : Nat) (xs : List Value) (hv : a.eval s = v) (hown : OffRow w e size v n xs)
    (m : Nat) (news : List Value) (hs : Src P size tx (a.eval x) m news w) (hm0 : 0 < m ∨ v.ownBlock ≠ none) (h63 : n + m ≤ maxLen) (hbytes : (n + m) * bytes ≤ 140737488355328)
    (hK : ∀ v' w', OffRow w' e size v' (n + m) (xs ++ news) → w.grownBy w' v.ownBlock → (v'.ownBlock = v.ownBlock ∨ v'.ownBlock = some w.heap.size) → K (a.put o.dst v') w') :
    if Region.wanted o (yielded ops a.tmps) = true then Oper.wp P o a w K Q else E := by
  obtain ⟨v', w', hr, h1, h2, h3⟩ := run_append_off (P := P) (w := w) t tx o.type e i z size bytes ht hi hz hsize hby hzs v n xs hown (a.eval x) m hm0 news hs h63 hbytes
  exact step_run hg (exec_append ho hv rfl hr) (hK v' w' h1 h2 h3)

def BelowP (w : World) (r : Value) (e : Ending) (w' : World) : Prop := e = .returned r ∧ Below w.heap.size w w'

set_option maxHeartbeats 1000000 in
theorem rthere_any (r : Nat) (v : Value) (xs : List ByteArray) (n : Int) (w : World) (h : RowS w v xs) (hl : xs.length ≤ 64) :
    Calls Try.prog 33 #[refV r v, .int .i64 n] w (BelowP w (.bool (inside xs n))) := by
  obtain ⟨a, cap, hv⟩ := OffRow.shape h
  subst hv
  have hb := (Below.refl w.heap.size w).alloc (Nat.le_refl _) (.cells #[.int .i64 r, .slice a xs.length cap] 29)
  unfold refV
  by_cases h0 : n < 0
  · have hi : inside xs n = false := decide_eq_false (by omega)
    have d0 : decide (0 ≤ n) = false := decide_eq_false (by omega)
    rw [hi]
    clear h hi
    go_enter Try.func33, Try.ntmps33
    go_wp2_with fail
    go_ret
    exact ⟨rfl, hb⟩
  · have d0 : decide (0 ≤ n) = true := decide_eq_true (by omega)
    by_cases h1 : n < (xs.length : Int)
    · have hi : inside xs n = true := decide_eq_true (by omega)
      have d1 : decide (n < (xs.length : Int)) = true := decide_eq_true h1
      rw [hi]
      clear h hi
      go_enter Try.func33, Try.ntmps33
      go_wp2_with fail
      go_ret
      exact ⟨rfl, hb⟩
    · have hi : inside xs n = false := decide_eq_false (by omega)
      have d1 : decide (n < (xs.length : Int)) = false := decide_eq_false h1
      rw [hi]
      clear h hi
      go_enter Try.func33, Try.ntmps33
      go_wp2_with fail
      go_ret
      exact ⟨rfl, hb⟩
end Go.Proofs.Ytgfklfpjibjhmaa

/-
  The document's own cache (guillocheref07): its rows; New, Often, Find.
-/
import Derived.Test.YtoeekjooigijbaaOpen
import Derived.Test.YtoeekjooigijbaaOff
namespace Go.Proofs.Ytoeekjooigijbaa
open Go.RowKit
set_option linter.unusedVariables false
set_option linter.unusedSimpArgs false

def flatC (l : Cs) : List Value := l.flatMap fun p => [.string p.1, .int .i64 p.2]
theorem flatC_append (l m : Cs) : flatC (l ++ m) = flatC l ++ flatC m := by unfold flatC; rw [List.flatMap_append]
theorem flatT_append (l m : List Th) : flat (l ++ m) = flat l ++ flat m := by unfold flat; rw [List.flatMap_append]
theorem flatC_at : ∀ (l : Cs) (i : Nat) (p : ByteArray × Nat), l[i]? = some p → (flatC l)[i * 2]? = some (.string p.1) ∧ (flatC l)[i * 2 + 1]? = some (.int .i64 p.2)
  | [], i, p, h => by simp at h
  | q :: l, 0, p, h => by simp at h; subst h; exact ⟨rfl, rfl⟩
  | q :: l, i + 1, p, h => by
    have ih := flatC_at l i p (by simpa using h)
    rw [Nat.succ_mul]
    exact ih
theorem flatT_at : ∀ (l : List Th) (i : Nat) (p : Th), l[i]? = some p → (flat l)[i * 2]? = some (.string p.1) ∧ (flat l)[i * 2 + 1]? = some (.string p.2)
  | [], i, p, h => by simp at h
  | q :: l, 0, p, h => by simp at h; subst h; exact ⟨rfl, rfl⟩
  | q :: l, i + 1, p, h => by
    have ih := flatT_at l i p (by simpa using h)
    rw [Nat.succ_mul]
    exact ih

/-- A row of things; a row of counts. -/
def RowT (w : World) (v : Value) (l : List Th) : Prop := OffRow w 64 2 v l.length (flat l)
def RowC (w : World) (v : Value) (l : Cs) : Prop := OffRow w 69 2 v l.length (flatC l)
def refV (size : Nat) (tv cv : Value) (asked : Nat) : Value := .agg #[.int .i64 size, tv, cv, .int .i64 asked]
theorem RowT.below {w w' : World} {v : Value} {l : List Th} (h : RowT w v l) (hb : Below w.heap.size w w') : RowT w' v l := OffRow.kept h fun k hk => hb.block k (OffRow.lt h k hk)
theorem RowC.below {w w' : World} {v : Value} {l : Cs} (h : RowC w v l) (hb : Below w.heap.size w w') : RowC w' v l := OffRow.kept h fun k hk => hb.block k (OffRow.lt h k hk)
theorem cell2 {w : World} {e : TypeId} {v : Value} {n : Nat} {xs : List Value} {i : Nat} {a b : Value} (h : OffRow w e 2 v n xs) (h0 : xs[i * 2]? = some a) (h1 : xs[i * 2 + 1]? = some b) :
    ∃ g o cap, v = .slice (some ⟨g, o, none⟩) n cap ∧ w.cell? ⟨g, o + i * 2, none⟩ = some a ∧ w.cell? ⟨g, o + i * 2 + 1, none⟩ = some b := by
  obtain ⟨g, o, cap, hv, q0⟩ := h.cells h0
  obtain ⟨g', o', cap', hv', q1⟩ := h.cells h1
  rw [hv] at hv'
  simp only [Value.slice.injEq, Option.some.injEq, Addr.mk.injEq, and_true, true_and] at hv'
  obtain ⟨⟨rfl, rfl⟩, rfl⟩ := hv'
  exact ⟨g, o, cap, hv, q0, by rw [Nat.add_assoc]; exact q1⟩

def BelowP (w : World) (r : Value) (e : Ending) (w' : World) : Prop := e = .returned r ∧ Below w.heap.size w w'

set_option maxHeartbeats 1000000 in
theorem roften_any (size asked : Nat) (tv cv : Value) (cs : Cs) (s : ByteArray) (w : World) (h : RowC w cv cs) (hl : cs.length ≤ 2000) :
    Calls Try.prog 23 #[refV size tv cv asked, .string s] w (BelowP w (.int .i64 (often cs s))) := by
  obtain ⟨a, cap, hv⟩ := OffRow.shape h
  subst hv
  obtain ⟨n, hn⟩ : ∃ n, n = cs.length := ⟨_, rfl⟩
  have hb := (Below.refl w.heap.size w).alloc (Nat.le_refl _) (.cells #[.int .i64 size, tv, .slice a cs.length cap, .int .i64 asked] 30)
  have HR := Lib.hid (RowC.below h ((Below.refl w.heap.size w).alloc (Nat.le_refl _) (.cells #[.int .i64 size, tv, .slice a cs.length cap, .int .i64 asked] 30)))
  rw [← hn] at hl hb HR ⊢
  have HN := Lib.hid hn
  have HB := Lib.hid hb
  unfold refV
  clear h hn hb
  go_enter Try.func23, Try.ntmps23
  go_wp2_with fail
  go_loop [5] (fun i => ∃ j : Nat, j ≤ n ∧ i = .int .i64 j ∧ ∀ (t : Nat) (p : ByteArray × Nat), t < j → cs[t]? = some p → p.1 ≠ s) (fun i => n - (intOf i).toNat)
  case atStart => exact ⟨0, Nat.zero_le _, rfl, fun t p ht => by omega⟩
  case round =>
    obtain ⟨j, hj, rfl, hall⟩ := hrel
    have HA := Lib.hid hall
    clear hall
    by_cases hjn : j < n
    · obtain ⟨p, hp⟩ : ∃ p, cs[j]? = some p := ⟨_, List.getElem?_eq_getElem (by rw [← HN.out]; exact hjn)⟩
      obtain ⟨f0, f1⟩ := flatC_at _ _ _ hp
      obtain ⟨g, o, cap', hv, q0, q1⟩ := cell2 HR.out f0 f1
      simp only [Value.slice.injEq, true_and] at hv
      obtain ⟨rfl, hnl, rfl⟩ := hv
      clear hnl f0 f1
      have y1 : (j : Int) < (n : Int) := by omega
      have HP := Lib.hid hp
      clear hp
      by_cases e : p.1 = s
      · have y2 : (p.1.toList == s.toList) = true := by rw [str_beq]; exact decide_eq_true e
        have HE := Lib.hid e
        clear e
        go_wp2_with fail
        go_ret
        have ho : often cs s = p.2 := by
          unfold often
          rw [List.find?_eq_some_iff_getElem.2 ⟨by simpa using HE.out, j, (List.getElem?_eq_some_iff.1 HP.out).1, (List.getElem?_eq_some_iff.1 HP.out).2, fun t ht => by
            have := HA.out t _ ht (List.getElem?_eq_getElem (by have := HN.out; omega))
            simpa using this⟩]
          rfl
        rw [ho]
        exact ⟨rfl, HB.out⟩
      · have y2 : (p.1.toList == s.toList) = false := by rw [str_beq]; exact decide_eq_false e
        have HE := Lib.hid e
        clear e
        go_wp2_with fail
        refine ⟨⟨j + 1, by omega, by go_num, fun t p' ht hp' => ?_⟩, by simp [intOf]; omega⟩
        by_cases e : t = j
        · subst e
          rw [HP.out] at hp'
          cases hp'
          exact HE.out
        · exact HA.out t p' (by omega) hp'
    · have y1 : ¬ (j : Int) < (n : Int) := by omega
      go_wp2_with fail
      go_ret
      have ho : often cs s = 0 := by
        unfold often
        rw [List.find?_eq_none.2 fun p hp => by
          obtain ⟨t, ht⟩ := List.getElem?_of_mem hp
          have := HA.out t p (by have := (List.getElem?_eq_some_iff.1 ht).1; rw [← HN.out] at this; omega) ht
          simpa using this]
        rfl
      rw [ho]
      exact ⟨rfl, HB.out⟩

set_option maxHeartbeats 1000000 in
theorem rfind_any (size asked : Nat) (tv cv : Value) (l : List Th) (s : ByteArray) (w : World) (h : RowT w tv l) (hl : l.length ≤ 2000) :
    Calls Try.prog 30 #[refV size tv cv asked, .string s] w (BelowP w (.int .i64 (placeI l s))) := by
  obtain ⟨a, cap, hv⟩ := OffRow.shape h
  subst hv
  obtain ⟨n, hn⟩ : ∃ n, n = l.length := ⟨_, rfl⟩
  have hb := (Below.refl w.heap.size w).alloc (Nat.le_refl _) (.cells #[.int .i64 size, .slice a l.length cap, cv, .int .i64 asked] 30)
  have HR := Lib.hid (RowT.below h ((Below.refl w.heap.size w).alloc (Nat.le_refl _) (.cells #[.int .i64 size, .slice a l.length cap, cv, .int .i64 asked] 30)))
  rw [← hn] at hl hb HR ⊢
  have HN := Lib.hid hn
  have HB := Lib.hid hb
  unfold refV
  clear h hn hb
  go_enter Try.func30, Try.ntmps30
  go_wp2_with fail
  go_loop [5] (fun i => ∃ j : Nat, j ≤ n ∧ i = .int .i64 j ∧ ∀ (t : Nat) (p : Th), t < j → l[t]? = some p → p.1 ≠ s) (fun i => n - (intOf i).toNat)
  case atStart => exact ⟨0, Nat.zero_le _, rfl, fun t p ht => by omega⟩
  case round =>
    obtain ⟨j, hj, rfl, hall⟩ := hrel
    have HA := Lib.hid hall
    clear hall
    by_cases hjn : j < n
    · obtain ⟨p, hp⟩ : ∃ p, l[j]? = some p := ⟨_, List.getElem?_eq_getElem (by rw [← HN.out]; exact hjn)⟩
      obtain ⟨f0, f1⟩ := flatT_at _ _ _ hp
      obtain ⟨g, o, cap', hv, q0, q1⟩ := cell2 HR.out f0 f1
      simp only [Value.slice.injEq, true_and] at hv
      obtain ⟨rfl, hnl, rfl⟩ := hv
      clear hnl f0 f1
      have y1 : (j : Int) < (n : Int) := by omega
      have HP := Lib.hid hp
      clear hp
      by_cases e : p.1 = s
      · have y2 : (p.1.toList == s.toList) = true := by rw [str_beq]; exact decide_eq_true e
        have HE := Lib.hid e
        clear e
        go_wp2_with fail
        go_ret
        have ho : placeI l s = j := by unfold placeI; rw [place_some HP.out HE.out HA.out]
        rw [ho]
        exact ⟨rfl, HB.out⟩
      · have y2 : (p.1.toList == s.toList) = false := by rw [str_beq]; exact decide_eq_false e
        have HE := Lib.hid e
        clear e
        go_wp2_with fail
        refine ⟨⟨j + 1, by omega, by go_num, fun t p' ht hp' => ?_⟩, by simp [intOf]; omega⟩
        by_cases e : t = j
        · subst e
          rw [HP.out] at hp'
          cases hp'
          exact HE.out
        · exact HA.out t p' (by omega) hp'
    · have y1 : ¬ (j : Int) < (n : Int) := by omega
      go_wp2_with fail
      go_ret
      have ho : placeI l s = -1 := by
        unfold placeI
        rw [place_none fun t p hp => HA.out t p (by have := (List.getElem?_eq_some_iff.1 hp).1; rw [← HN.out] at this; omega) hp]
      rw [ho]
      exact ⟨rfl, HB.out⟩
end Go.Proofs.Ytoeekjooigijbaa

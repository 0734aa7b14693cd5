/-
  What a release leaves.
-/
import Derived.Test.YtdikajbbolecoaaSet
namespace Go.Proofs.Ytdikajbbolecoaa
open Go.RowKit
set_option linter.unusedVariables false
set_option linter.unusedSimpArgs false

/-- What has ended is not there, and was opened. -/
structure Fresh (t : Tb) : Prop where
  le : ∀ e ∈ t.ended, e ≤ t.opened
  no : ∀ x ∈ t.l, x.id ∉ t.ended
theorem fresh_empty (a b : Nat) : Fresh (emptyT a b) := ⟨fun e he => (by cases he), fun x hx => (by cases hx)⟩
theorem Fresh.setL {t : Tb} (h : Fresh t) {i : Nat} {x y : Sess} (hx : t.l[i]? = some x) (hid : y.id = x.id) : Fresh (setL t i y) :=
  ⟨h.le, fun z hz => by
    rcases List.mem_or_eq_of_mem_set hz with hz | rfl
    · exact h.no z hz
    · rw [hid]; exact h.no x (List.mem_of_getElem? hx)⟩
theorem Fresh.filter {t : Tb} (h : Fresh t) (p : Sess → Bool) : Fresh { t with l := t.l.filter p } := ⟨h.le, fun x hx => h.no x (List.mem_filter.1 hx).1⟩
theorem Fresh.expire {t : Tb} (h : Fresh t) (hi : Inv t) (clock : Int) : Fresh (expireS t clock).1 := by
  have hsub : ∀ e ∈ (expireS t clock).1.ended, e ∈ t.ended ∨ ∃ y ∈ t.l, over clock y = true ∧ y.id = e := fun e he => by
    have he : e ∈ lastEight (t.ended ++ (t.l.filter (over clock)).map (·.id)) := he
    unfold lastEight at he
    rcases List.mem_append.1 (List.mem_of_mem_drop he) with he | he
    · exact .inl he
    · obtain ⟨y, hy, hye⟩ := List.mem_map.1 he
      obtain ⟨h1, h2⟩ := List.mem_filter.1 hy
      exact .inr ⟨y, h1, h2, hye⟩
  refine ⟨fun e he => ?_, fun x hx he => ?_⟩
  · rcases hsub e he with he | ⟨y, hy, _, rfl⟩
    · exact h.le e he
    · exact (hi.idb y hy).2
  · obtain ⟨hx1, hx2⟩ := List.mem_filter.1 hx
    rcases hsub _ he with he | ⟨y, hy, ho, hye⟩
    · exact h.no x hx1 he
    · obtain ⟨a, ha⟩ := List.getElem?_of_mem hx1
      obtain ⟨b, hb⟩ := List.getElem?_of_mem hy
      have := hi.ids.inj hb ha hye
      subst this
      rw [ha] at hb
      cases hb
      rw [ho] at hx2
      simp at hx2
theorem Fresh.do_ {t : Tb} (h : Fresh t) (hi : Inv t) (x : ActD) : Fresh (doT t x) := by
  unfold doT
  split
  · unfold openS
    split
    · exact h
    · refine ⟨fun e he => ?_, fun y hy he => ?_⟩
      · have := h.le e he
        show e ≤ ((t.opened + 1 : Nat) : Int)
        omega
      · rcases List.mem_append.1 hy with hy | hy
        · exact h.no y hy he
        · simp only [List.mem_singleton] at hy
          subst hy
          have := h.le _ he
          simp at this
          omega
  split
  · exact h
  split
  · unfold renewS
    split
    · split
      · rename_i hx
        exact h.setL hx rfl
      · exact h
    · exact h
  split
  · unfold repinS
    split
    · split
      · rename_i hx
        exact h.setL hx rfl
      · exact h
    · exact h
  split
  · unfold releaseS
    split
    · split
      · exact h.filter _
      · exact h
    · exact h
  split
  · exact h.expire hi _
  split
  · unfold storeS
    split
    · exact h
    · split
      · exact h
      · rename_i hx
        split
        · exact h
        · exact h.setL hx rfl
  · exact h

def without (t : Tb) (id : Int) : Tb := { t with l := t.l.filter fun x => !decide (x.id = id) }
/-- A release: refused as 'find' is; or what it does, and what comes then. -/
theorem rel_plain (t : Tb) (hi : Inv t) (hf : Fresh t) (hl : t.l.length ≤ t.most) (ho : t.opened ≤ 60) (id clock : Int) :
    (∃ c a b d e : Int, c ≠ 0 ∧ findR t id clock = .tuple #[.agg #[.int .i64 a, .int .i64 b, .int .i64 d, .int .i64 e], .int .i64 c] ∧ releaseS t id clock = (t, 0, c)) ∨
    (∃ x, x ∈ t.l ∧ findR t id clock = .tuple #[.agg #[.int .i64 x.id, .int .i64 x.block, .int .i64 x.dead, .int .i64 x.last], .int .i64 0] ∧ releaseS t id clock = (without t id, x.block, 0) ∧
      replayS (without t id) id 1 = (⟨#[]⟩, 5) ∧ storeS (without t id) id 1000000 ⟨#[120]⟩ = (without t id, 5) ∧ renewS (without t id) id clock = (without t id, 5) ∧ (openS (without t id) 1 clock).2.2 = 0) := by
  cases hv : liveS t id clock with
  | inr c =>
    left
    refine ⟨c, 0, 0, 0, 0, ?_, ?_, ?_⟩
    · rcases live_code hv with h | h <;> omega
    · unfold findR; rw [hv]; rfl
    · unfold releaseS; rw [hv]
  | inl i =>
    right
    obtain ⟨x, hx, hxi, hxd, _⟩ := live_in hv
    have hxm := List.mem_of_getElem? hx
    have hn : findI (without t id).l id = none := findI_none fun j q hq e => by
      have := (List.mem_filter.1 (List.mem_of_getElem? hq)).2
      simp [e] at this
    have hlv : liveS (without t id) id clock = .inr 5 := by
      unfold liveS
      rw [hn]
      have : (without t id).ended.any (fun e => decide (e = id)) = false := by
        rw [List.any_eq_false]
        intro e he
        have := hf.no x hxm
        rw [hxi] at this
        have hne : e ≠ id := fun e2 => this (e2 ▸ he)
        simpa using hne
      simp only [this]
      rfl
    refine ⟨x, hxm, ?_, ?_, ?_, ?_, ?_, ?_⟩
    · unfold findR; rw [hv]; simp only [hx]; rfl
    · unfold releaseS without; rw [hv]; simp only [hx]
    · unfold replayS; rw [hn]
    · unfold storeS; rw [hn]
    · unfold renewS; rw [hlv]
    · have hlt : (without t id).l.length < t.l.length := by
        show (t.l.filter fun x => !decide (x.id = id)).length < t.l.length
        rw [List.length_filter_lt_length_iff_exists]
        exact ⟨x, hxm, by simp [hxi]⟩
      unfold openS
      rw [if_neg (by
        rintro (e | e)
        · have : (without t id).most = t.most := rfl
          omega
        · have : (without t id).opened = t.opened := rfl
          omega)]

theorem box_row {w : World} {b : Nat} {x : Sess} (h : w.heap[b]? = some (.cells #[.int .i64 x.id, .int .i64 x.block, .int .i64 x.dead, .int .i64 x.last] 29 (0, 0))) : OffRow w 29 4 (.slice (some ⟨b, 0, none⟩) 1 1) [x].length (flatS [x]) :=
  ⟨rfl, .inr ⟨b, 0, 1, _, rfl, h, Nat.le_refl _, by unfold maxLen; omega, by simp, rfl⟩⟩
end Go.Proofs.Ytdikajbbolecoaa

/-
  Rows of sessions beside a table of the call's own: none is the table's, no two are one.
-/
import Derived.Test.YtdikajbbolecoaaOpen
namespace Go.Proofs.Ytdikajbbolecoaa
open Go.RowKit
set_option linter.unusedVariables false
set_option linter.unusedSimpArgs false

structure RowsAt (B : Nat) (w : World) (tb : Nat) (m : Mem) (rows : List (Value × List Sess)) : Prop where
  each : ∀ r ∈ rows, OffRow w 29 4 r.1 r.2.length (flatS r.2) ∧ ∀ k, r.1.ownBlock = some k → ¬ Mine tb m k ∧ B ≤ k
  apart : rows.Pairwise fun r r' => ∀ k, r.1.ownBlock = some k → r'.1.ownBlock ≠ some k

section
variable {B : Nat} {w0 w w' : World} {tb : Nat} {m m' : Mem} {t : Tb} {rows : List (Value × List Sess)} {v : Value} {l : List Sess}
theorem RowsAt.nil (B : Nat) (w : World) (tb : Nat) (m : Mem) : RowsAt B w tb m [] := ⟨fun r hr => (by cases hr), List.Pairwise.nil⟩
theorem RowsAt.lt (h : RowsAt B w tb m rows) {r : Value × List Sess} (hr : r ∈ rows) {k : Nat} (hk : r.1.ownBlock = some k) : k < w.heap.size := (h.each r hr).1.lt k hk
theorem RowsAt.below (h : RowsAt B w tb m rows) (hb : Below w.heap.size w w') : RowsAt B w' tb m rows :=
  ⟨fun r hr => ⟨(h.each r hr).1.kept fun k hk => hb.block k (h.lt hr hk), (h.each r hr).2⟩, h.apart⟩
theorem RowsAt.own (h : RowsAt B w tb m rows) (hk : ∀ k, k < w.heap.size → ¬ Mine tb m k → w'.heap[k]? = w.heap[k]? ∧ ¬ Mine tb m' k) : RowsAt B w' tb m' rows :=
  ⟨fun r hr => ⟨(h.each r hr).1.kept fun k hk2 => (hk k (h.lt hr hk2) ((h.each r hr).2 k hk2).1).1, fun k hk2 => ⟨(hk k (h.lt hr hk2) ((h.each r hr).2 k hk2).1).2, ((h.each r hr).2 k hk2).2⟩⟩, h.apart⟩
theorem RowsAt.cons {s : Nat} (h : RowsAt B w tb m rows) (hs : ∀ r ∈ rows, ∀ k, r.1.ownBlock = some k → k < s) (hr : OffRow w 29 4 v l.length (flatS l)) (hv : ∀ k, v.ownBlock = some k → s ≤ k) (hn : ∀ k, v.ownBlock = some k → ¬ Mine tb m k ∧ B ≤ k) :
    RowsAt B w tb m ((v, l) :: rows) := by
  refine ⟨fun r hr' => ?_, List.Pairwise.cons (fun r hr' k hk e => ?_) h.apart⟩
  · rcases List.mem_cons.1 hr' with rfl | hr'
    · exact ⟨hr, hn⟩
    · exact h.each r hr'
  · have := hs r hr' k e
    have := hv k hk
    omega
theorem RowsAt.empty (h : RowsAt B w tb m rows) : RowsAt B w tb m ((.slice none 0 0, []) :: rows) :=
  h.cons (s := w.heap.size) (fun r hr k hk => h.lt hr hk) (OffRow.nil _ _ _) (fun k hk => by simp [Value.ownBlock] at hk) (fun k hk => by simp [Value.ownBlock] at hk)
theorem RowsAt.swap {r r' : Value × List Sess} (h : RowsAt B w tb m (r :: r' :: rows)) : RowsAt B w tb m (r' :: r :: rows) := by
  obtain ⟨he, ha⟩ := h
  rw [List.pairwise_cons, List.pairwise_cons] at ha
  obtain ⟨h1, h2, h3⟩ := ha
  refine ⟨fun q hq => he q (by simp at hq ⊢; rcases hq with e | e | e <;> simp [e]), List.Pairwise.cons (fun q hq => ?_) (List.Pairwise.cons (fun q hq => h1 q (List.mem_cons_of_mem _ hq)) h3)⟩
  rcases List.mem_cons.1 hq with rfl | hq
  · exact fun k hk e => h1 r' List.mem_cons_self k e hk
  · exact h2 q hq
/-- All sessions, in a row of their own. -/
theorem RowsAt.all (h : RowsAt B w tb m rows) (hO : Own B w0 w tb m t) (hB : B ≤ w0.heap.size) (hb : Below w.heap.size w w') (hr : OffRow w' 29 4 v l.length (flatS l)) (hv : ∀ k, v.ownBlock = some k → w.heap.size ≤ k) : RowsAt B w' tb m ((v, l) :: rows) :=
  (h.below hb).cons (s := w.heap.size) (fun r hr k hk => h.lt hr hk) hr hv fun k hk => ⟨hO.fresh (hv k hk), by have := hv k hk; have := hO.below.size; omega⟩
/-- What ended, in a row of its own. -/
theorem RowsAt.ended (h : RowsAt B w tb m rows) (hO : Own B w0 w tb m t) (hB : B ≤ w0.heap.size) (hk : ∀ k, k < w.heap.size → ¬ Mine tb m k → w'.heap[k]? = w.heap[k]? ∧ ¬ Mine tb m' k) (hr : OffRow w' 29 4 v l.length (flatS l)) (hv : ∀ k, v.ownBlock = some k → w.heap.size ≤ k)
    (hn : ∀ k, v.ownBlock = some k → ¬ Mine tb m' k) : RowsAt B w' tb m' ((v, l) :: rows) :=
  (h.own hk).cons (s := w.heap.size) (fun r hr k hk => h.lt hr hk) hr hv fun k hk => ⟨hn k hk, by have := hv k hk; have := hO.below.size; omega⟩

/-- An append onto the first row. -/
theorem RowsAt.append {w1 : World} {v1 : Value} {x : Sess} (h : RowsAt B w tb m ((v, l) :: rows)) (hO : Own B w0 w tb m t) (hB : B ≤ w0.heap.size) (o : Obj) (hg : (w.alloc o).grownBy w1 v.ownBlock) (hr : OffRow w1 29 4 v1 (l.length + 1) (flatS l ++ [.int .i64 x.id, .int .i64 x.block, .int .i64 x.dead, .int .i64 x.last]))
    (hn : v1.ownBlock = v.ownBlock ∨ v1.ownBlock = some (w.alloc o).heap.size) : RowsAt B w1 tb m ((v1, l ++ [x]) :: rows) ∧ Own B w0 w1 tb m t := by
  have hv := h.each (v, l) List.mem_cons_self
  have hap := (List.pairwise_cons.1 h.apart).1
  have keep : ∀ k, k < w.heap.size → v.ownBlock ≠ some k → w1.heap[k]? = w.heap[k]? := fun k hk hne => (hg.block k (by simp; omega) (fun e => hne e.symm)).trans (Below.heap_alloc _ _ _ hk)
  have hsz : w.heap.size ≤ w1.heap.size := Nat.le_trans (by simp) hg.size
  refine ⟨⟨fun r hr' => ?_, List.Pairwise.cons (fun r hr' k hk => ?_) (List.pairwise_cons.1 h.apart).2⟩, ⟨hO.at_.kept fun k hk => keep k (hO.at_.mine_lt k hk) (fun e => (hv.2 k e).1 hk), hO.mine, hO.inv, hO.below.trans ⟨hg.os, hg.tape, hg.output, hsz, fun k hk => keep k (by have := hO.below.size; omega) (fun e => by have := (hv.2 k e).2; omega)⟩⟩⟩
  · rcases List.mem_cons.1 hr' with rfl | hr'
    · refine ⟨by rw [flatS_append, List.length_append]; exact hr, fun k hk => ?_⟩
      rcases hn with e | e
      · exact hv.2 k (e ▸ hk)
      · rw [e] at hk
        simp at hk
        exact ⟨hO.fresh (by omega), by have := hO.below.size; omega⟩
    · have he := h.each r (List.mem_cons_of_mem _ hr')
      exact ⟨he.1.kept fun k hk => keep k (he.1.lt k hk) (fun e => hap r hr' k e hk), he.2⟩
  · rcases hn with e | e
    · exact hap r hr' k (e ▸ hk)
    · rw [e] at hk
      simp at hk
      intro e2
      have := h.lt (List.mem_cons_of_mem _ hr') e2
      omega
end

theorem lastEight_self {l : List Int} (h : l.length ≤ 8) : lastEight l = l := by unfold lastEight; rw [show l.length - 8 = 0 by omega, List.drop_zero]
theorem mem_lastEight {a b : List Int} (h : b.length ≤ 8) {x : Int} (hx : x ∈ b) : x ∈ lastEight (a ++ b) := by
  unfold lastEight
  rw [List.drop_append_of_le_length (by rw [List.length_append]; omega)]
  exact List.mem_append_right _ hx

theorem findI_of {t : Tb} (hi : Ids t) {i : Nat} {x : Sess} (hx : t.l[i]? = some x) : findI t.l x.id = some i :=
  findI_some hx rfl fun j q hj hq e => by have := hi.inj hq hx e; omega
theorem liveS_of {t : Tb} (hi : Ids t) {i : Nat} {x : Sess} (hx : t.l[i]? = some x) {clock : Int} (hd : clock < x.dead) : liveS t x.id clock = .inl i := by
  unfold liveS
  rw [findI_of hi hx]
  simp only [hx]
  rw [if_pos hd]
theorem findR_of {t : Tb} (hi : Ids t) {x : Sess} (hx : x ∈ t.l) {clock : Int} (hd : clock < x.dead) : findR t x.id clock = .tuple #[x.val, .int .i64 0] := by
  obtain ⟨i, hi2⟩ := List.getElem?_of_mem hx
  unfold findR
  rw [liveS_of hi hi2 hd]
  simp only [hi2]

/-- Those that end are expired from then on; the others are found; no more end. -/
theorem ends_plain (t : Tb) (hi : Inv t) (hl : t.l.length ≤ 4) (clock : Int) : expireS (expireS t clock).1 clock = ((expireS t clock).1, []) ∧
    (∀ x ∈ t.l, over clock x = true → liveS (expireS t clock).1 x.id 0 = .inr 6) ∧ (∀ x ∈ t.l, over clock x = false → findR (expireS t clock).1 x.id clock = .tuple #[x.val, .int .i64 0]) := by
  have hi2 := hi.expire clock
  refine ⟨?_, fun x hx ho => ?_, fun x hx ho => ?_⟩
  · have h1 : (t.l.filter fun x => !over clock x).filter (over clock) = [] := by
      rw [List.filter_filter, List.filter_eq_nil_iff]
      intro x _
      cases over clock x <;> simp
    have h2 : (t.l.filter fun x => !over clock x).filter (fun x => !over clock x) = t.l.filter fun x => !over clock x := by
      rw [List.filter_filter]
      congr 1
      funext x
      simp
    show (({ (expireS t clock).1 with l := (t.l.filter fun x => !over clock x).filter (fun x => !over clock x), ended := lastEight ((expireS t clock).1.ended ++ ((t.l.filter fun x => !over clock x).filter (over clock)).map (·.id)) } : Tb), (t.l.filter fun x => !over clock x).filter (over clock)) = _
    rw [h1, h2, List.map_nil, List.append_nil, lastEight_self hi2.ended]
    rfl
  · have hf : findI (expireS t clock).1.l x.id = none := findI_none fun j q hq e => by
      have hq' := List.mem_filter.1 (List.mem_of_getElem? hq)
      obtain ⟨a, ha⟩ := List.getElem?_of_mem hq'.1
      obtain ⟨b, hb⟩ := List.getElem?_of_mem hx
      have := hi.ids.inj ha hb e
      subst this
      rw [ha] at hb
      cases hb
      have := hq'.2
      rw [ho] at this
      simp at this
    have hm : x.id ∈ (expireS t clock).1.ended := mem_lastEight (by rw [List.length_map]; exact Nat.le_trans (List.length_filter_le _ _) (by omega)) (List.mem_map.2 ⟨x, List.mem_filter.2 ⟨hx, ho⟩, rfl⟩)
    have ha : (expireS t clock).1.ended.any (fun e => decide (e = x.id)) = true := List.any_eq_true.2 ⟨x.id, hm, by simp⟩
    unfold liveS
    rw [hf]
    simp only [ha]
    rfl
  · have hm : x ∈ (expireS t clock).1.l := List.mem_filter.2 ⟨hx, by rw [ho]; rfl⟩
    exact findR_of hi2.ids hm (by unfold over at ho; have := of_decide_eq_false ho; omega)
theorem expired_find {t : Tb} {id : Int} (h : liveS t id 0 = .inr 6) : findR t id 0 = .tuple #[.agg #[.int .i64 0, .int .i64 0, .int .i64 0, .int .i64 0], .int .i64 6] := by
  unfold findR
  rw [h]
  rfl
theorem expired_renew {t : Tb} {id : Int} (h : liveS t id 0 = .inr 6) : renewS t id 0 = (t, 6) := by
  unfold renewS
  rw [h]
end Go.Proofs.Ytdikajbbolecoaa

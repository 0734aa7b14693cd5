/-
  Renew, Repin.
-/
import Derived.Test.YtdikajbbolecoaaFind
namespace Go.Proofs.Ytdikajbbolecoaa
open Go.RowKit
set_option linter.unusedVariables false
set_option linter.unusedSimpArgs false

def TablePost (w : World) (tb : Nat) (m : Mem) (t' : Tb) (r : Value) (e : Ending) (w' : World) : Prop :=
  e = .returned r ∧ ∃ m', TableAt w' tb m' t' ∧ Turned w.heap.size w w' tb m m'

def setL (t : Tb) (i : Nat) (x : Sess) : Tb := { t with l := t.l.set i x }

theorem slot_set {w : World} {b : Nat} {a0 a1 a2 a3 a4 : Value} (h : w.heap[b]? = some (.cells #[a0, a1, a2, a3, a4] 61 (0, 0))) (u : Value) :
    (w.setCell ⟨b, 1, none⟩ u).heap[b]? = some (.cells #[a0, u, a2, a3, a4] 61 (0, 0)) ∧ (w.setCell ⟨b, 2, none⟩ u).heap[b]? = some (.cells #[a0, a1, u, a3, a4] 61 (0, 0)) ∧
    (w.setCell ⟨b, 3, none⟩ u).heap[b]? = some (.cells #[a0, a1, a2, u, a4] 61 (0, 0)) ∧ (w.setCell ⟨b, 4, none⟩ u).heap[b]? = some (.cells #[a0, a1, a2, a3, u] 61 (0, 0)) := by
  simp only [World.setCell, Array.getElem?_modify, if_pos rfl, h]
  exact ⟨rfl, rfl, rfl, rfl⟩

/-- A session's own block is no row and not the table. -/
theorem TableAt.slot_ne {w : World} {tb : Nat} {m : Mem} {t : Tb} (h : TableAt w tb m t) {i b : Nat} (hb : m.bs[i]? = some b) : b ≠ tb ∧ (∀ kv ∈ m.kvs, kv.ownBlock ≠ some b) ∧ m.ev.ownBlock ≠ some b := by
  have hil := (List.getElem?_eq_some_iff.1 hb).1
  obtain ⟨kv, hk⟩ : ∃ kv, m.kvs[i]? = some kv := ⟨_, List.getElem?_eq_getElem (by rw [h.lk, ← h.lb]; exact hil)⟩
  obtain ⟨x, hx⟩ : ∃ x, t.l[i]? = some x := ⟨_, List.getElem?_eq_getElem (by rw [← h.lb]; exact hil)⟩
  have hs := (h.slot i b kv x hb hk hx).box
  have row : ∀ (v : Value) (e : TypeId) (size n : Nat) (xs : List Value), e ≠ 61 → OffRow w e size v n xs → v.ownBlock ≠ some b := fun v e size n xs he hr e1 => by
    rcases hr.2 with ⟨rfl, _⟩ | ⟨g, o, cap, cur, rfl, hg, _⟩
    · simp [Value.ownBlock] at e1
    · simp only [Value.ownBlock, Option.some.injEq] at e1
      rw [e1, hs] at hg
      simp at hg
      exact he hg.2.symm
  refine ⟨fun e => ?_, fun u hu => ?_, row _ 3 1 _ _ (by decide) h.ended⟩
  · have := h.box
    rw [← e, hs] at this
    simp at this
  · obtain ⟨j, hj⟩ := List.getElem?_of_mem hu
    have hjl := (List.getElem?_eq_some_iff.1 hj).1
    obtain ⟨b2, hb2⟩ : ∃ b, m.bs[j]? = some b := ⟨_, List.getElem?_eq_getElem (by rw [h.lb, ← h.lk]; exact hjl)⟩
    obtain ⟨y, hy⟩ : ∃ y, t.l[j]? = some y := ⟨_, List.getElem?_eq_getElem (by rw [← h.lk]; exact hjl)⟩
    exact row _ 71 2 _ _ (by decide) (h.slot j b2 u y hb2 hj hy).row

/-- One of a session's first four cells is written. -/
theorem TableAt.setSlot {w : World} {tb : Nat} {m : Mem} {t : Tb} (h : TableAt w tb m t) {i b c : Nat} {x y : Sess} {u : Value} (hx : t.l[i]? = some x) (hb : m.bs[i]? = some b)
    (hk : y.kept = x.kept) (hbox : ∀ kv, w.heap[b]? = some (.cells #[.int .i64 x.id, .int .i64 x.block, .int .i64 x.dead, .int .i64 x.last, kv] 61 (0, 0)) →
      (w.setCell ⟨b, c, none⟩ u).heap[b]? = some (.cells #[.int .i64 y.id, .int .i64 y.block, .int .i64 y.dead, .int .i64 y.last, kv] 61 (0, 0))) :
    TableAt (w.setCell ⟨b, c, none⟩ u) tb m (setL t i y) ∧ Turned w.heap.size w (w.setCell ⟨b, c, none⟩ u) tb m m := by
  obtain ⟨n1, n2, n3⟩ := h.slot_ne hb
  have keep : ∀ k, k ≠ b → (w.setCell ⟨b, c, none⟩ u).heap[k]? = w.heap[k]? := fun k hk => Below.heap_setCell _ _ _ _ hk
  have hll : (setL t i y).l.length = t.l.length := by unfold setL; simp
  refine ⟨?_, ⟨rfl, rfl, rfl, by simp, fun k _ hm => keep k (fun e => hm (.inr (.inl (e ▸ List.mem_of_getElem? hb)))), fun k hk => .inl hk⟩⟩
  refine { box := ?_, lb := h.lb.trans hll.symm, lk := h.lk.trans hll.symm, fits := by rw [hll]; exact h.fits, hi := h.hi, nd := h.nd, nk := h.nk, slot := ?_, ended := h.ended.kept fun k hk => keep k (fun e => n3 (by rw [hk, e])) }
  · rw [keep tb (Ne.symm n1), hll]; exact h.box
  · intro j b2 kv z hb2 hkv hz
    by_cases e : j = i
    · subst e
      rw [hb] at hb2
      cases hb2
      have hzy : z = y := by
        have : (setL t j y).l[j]? = some y := by unfold setL; simp [List.getElem?_set, (List.getElem?_eq_some_iff.1 hx).1]
        rw [this] at hz
        exact (Option.some.inj hz).symm
      subst hzy
      have hs := h.slot j b kv x hb hkv hx
      refine ⟨hbox kv hs.box, ?_⟩
      rw [hk]
      exact hs.row.kept fun k hk2 => keep k (fun e => n2 kv (List.mem_of_getElem? hkv) (by rw [hk2, e]))
    · have hz2 : t.l[j]? = some z := by
        have : (setL t i y).l[j]? = t.l[j]? := by unfold setL; simp [List.getElem?_set, Ne.symm e]
        rw [← this]; exact hz
      have hs := h.slot j b2 kv z hb2 hkv hz2
      have hne : b2 ≠ b := fun e2 => e (by
        subst e2
        obtain ⟨hj, hj2⟩ := List.getElem?_eq_some_iff.1 hb2
        obtain ⟨hi, hi2⟩ := List.getElem?_eq_some_iff.1 hb
        have hp := List.pairwise_iff_getElem.1 h.nd
        rcases Nat.lt_trichotomy j i with hlt | he | hlt
        · exact absurd (hj2.trans hi2.symm) (hp j i hj hi hlt)
        · exact he
        · exact absurd (hi2.trans hj2.symm) (hp i j hi hj hlt))
      exact hs.kept (keep b2 hne) fun k hk2 => keep k (fun e => n2 kv (List.mem_of_getElem? hkv) (by rw [hk2, e]))
end Go.Proofs.Ytdikajbbolecoaa

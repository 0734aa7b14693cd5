/-
  New; a session's slot.
-/
import Derived.Test.YtdikajbbolecoaaTable
namespace Go.Proofs.Ytdikajbbolecoaa
open Go.RowKit
set_option linter.unusedVariables false
set_option linter.unusedSimpArgs false

def mostI (most : Int) : Nat := (min (max most 1) 4).toNat
def termI (term : Int) : Nat := (min (max term 1) 1000).toNat
theorem mostI_three (x : Int) : (x < 1 ∧ mostI x = 1) ∨ (4 < x ∧ mostI x = 4) ∨ (1 ≤ x ∧ x ≤ 4 ∧ (mostI x : Int) = x) := by unfold mostI; omega
theorem termI_three (x : Int) : (x < 1 ∧ termI x = 1) ∨ (1000 < x ∧ termI x = 1000) ∨ (1 ≤ x ∧ x ≤ 1000 ∧ (termI x : Int) = x) := by unfold termI; omega
def emptyT (m t : Nat) : Tb := ⟨m, t, 0, [], []⟩
def emptyM : Mem := ⟨[], [], .slice none 0 0⟩

def NewPost (mo te : Nat) (w : World) (e : Ending) (w' : World) : Prop :=
  e = .returned (.pointer (some ⟨w.heap.size, 0, none⟩)) ∧ TableAt w' w.heap.size emptyM (emptyT mo te) ∧ Below w.heap.size w w'

theorem new_at (w : World) (mo te : Nat) (hm : mo ≤ 4) : TableAt (w.alloc (.cells #[.pointer none, .pointer none, .pointer none, .pointer none, .int .i64 0, .int .i64 mo, .int .i64 te, .int .i64 0, .slice none 0 0] 57)) w.heap.size emptyM (emptyT mo te) :=
  { box := heap_alloc_new w _, lb := rfl, lk := rfl, fits := Nat.zero_le _, hi := hm, nd := List.nodup_nil,
    nk := fun i j u v k h => by simp [emptyM] at h, slot := fun i b kv x h => by simp [emptyM] at h, ended := OffRow.nil _ _ _ }

theorem new_end {w : World} {mo te : Nat} {a b : Int} (hm : mo ≤ 4) (ha : (mo : Int) = a) (hb : (te : Int) = b) :
    NewPost mo te w (.returned (.pointer (some ⟨w.heap.size, 0, none⟩))) (w.alloc (.cells #[.pointer none, .pointer none, .pointer none, .pointer none, .int .i64 0, .int .i64 a, .int .i64 b, .int .i64 0, .slice none 0 0] 57)) := by
  subst ha hb
  exact ⟨rfl, new_at w mo te hm, (Below.refl _ w).alloc (Nat.le_refl _) _⟩

set_option maxHeartbeats 1000000 in
theorem new_any (most term : Int) (w : World) (h1 : -9223372036854775808 ≤ most) (h2 : most ≤ 9223372036854775807) (h3 : -9223372036854775808 ≤ term) (h4 : term ≤ 9223372036854775807) :
    Calls Try.prog 8 #[.int .i64 most, .int .i64 term] w (NewPost (mostI most) (termI term) w) := by
  have hm : mostI most ≤ 4 := by unfold mostI; omega
  have HE := Lib.hid (fun (a b : Int) (ha : (mostI most : Int) = a) (hb : (termI term : Int) = b) => new_end (w := w) hm ha hb)
  rcases mostI_three most with ⟨c1, c2⟩ | ⟨c1, c2⟩ | ⟨c1, c1', c2⟩ <;> rcases termI_three term with ⟨d1, d2⟩ | ⟨d1, d2⟩ | ⟨d1, d1', d2⟩
  all_goals
    have HC := Lib.hid c2
    have HD := Lib.hid d2
    clear c2 d2 hm
    go_enter Try.func8, Try.ntmps8
    go_wp2
    go_ret
    exact HE.out _ _ (by first | exact HC.out | (rw [HC.out]; rfl)) (by first | exact HD.out | (rw [HD.out]; rfl))

/-! ### a session's slot -/
def findI (l : List Sess) (id : Int) : Option Nat := l.findIdx? fun x => decide (x.id = id)
theorem findI_some {l : List Sess} {id : Int} {j : Nat} {x : Sess} (hp : l[j]? = some x) (e : x.id = id) (hall : ∀ (t : Nat) (q : Sess), t < j → l[t]? = some q → q.id ≠ id) : findI l id = some j := by
  unfold findI
  rw [List.findIdx?_eq_some_iff_getElem]
  obtain ⟨hj, hpj⟩ := List.getElem?_eq_some_iff.1 hp
  refine ⟨hj, by rw [hpj]; exact decide_eq_true e, fun t ht => ?_⟩
  have := hall t l[t] ht (List.getElem?_eq_getElem _)
  simpa using this
theorem findI_none {l : List Sess} {id : Int} (hall : ∀ (t : Nat) (q : Sess), l[t]? = some q → q.id ≠ id) : findI l id = none := by
  unfold findI
  rw [List.findIdx?_eq_none_iff]
  intro q hq
  obtain ⟨t, ht⟩ := List.getElem?_of_mem hq
  exact decide_eq_false (hall t q ht)
theorem findI_lt {l : List Sess} {id : Int} {j : Nat} (h : findI l id = some j) : ∃ x, l[j]? = some x ∧ x.id = id ∧ ∀ (t : Nat) (q : Sess), t < j → l[t]? = some q → q.id ≠ id := by
  unfold findI at h
  rw [List.findIdx?_eq_some_iff_getElem] at h
  obtain ⟨hj, h1, h2⟩ := h
  refine ⟨l[j], List.getElem?_eq_getElem hj, of_decide_eq_true h1, fun t q ht hq => ?_⟩
  obtain ⟨_, rfl⟩ := List.getElem?_eq_some_iff.1 hq
  have := h2 t ht
  simpa using this

section
variable {w : World} {tb : Nat} {m : Mem} {t : Tb}
theorem TableAt.cn (h : TableAt w tb m t) : w.cell? ⟨tb, 4, none⟩ = some (.int .i64 t.l.length) := by simp [World.cell?, h.box]
theorem TableAt.cmost (h : TableAt w tb m t) : w.cell? ⟨tb, 5, none⟩ = some (.int .i64 t.most) := by simp [World.cell?, h.box]
theorem TableAt.cterm (h : TableAt w tb m t) : w.cell? ⟨tb, 6, none⟩ = some (.int .i64 t.term) := by simp [World.cell?, h.box]
theorem TableAt.copened (h : TableAt w tb m t) : w.cell? ⟨tb, 7, none⟩ = some (.int .i64 t.opened) := by simp [World.cell?, h.box]
theorem TableAt.cended (h : TableAt w tb m t) : w.cell? ⟨tb, 8, none⟩ = some m.ev := by simp [World.cell?, h.box]
theorem TableAt.f (h : TableAt w tb m t) (i : Nat) : w.frozen? ⟨tb, i, none⟩ = false := by simp [World.frozen?, h.box]
theorem TableAt.cptr (h : TableAt w tb m t) {i : Nat} (hi : i < 4) : w.cell? ⟨tb, i, none⟩ = some (ptrV m.bs[i]?) := by
  have := h.box
  match i, hi with
  | 0, _ => simp [World.cell?, this]
  | 1, _ => simp [World.cell?, this]
  | 2, _ => simp [World.cell?, this]
  | 3, _ => simp [World.cell?, this]
/-- A session in its place. -/
theorem TableAt.at_ (h : TableAt w tb m t) {i : Nat} {x : Sess} (hx : t.l[i]? = some x) : ∃ b kv, m.bs[i]? = some b ∧ m.kvs[i]? = some kv ∧ SlotAt w b kv x := by
  have hi := (List.getElem?_eq_some_iff.1 hx).1
  obtain ⟨b, hb⟩ : ∃ b, m.bs[i]? = some b := ⟨_, List.getElem?_eq_getElem (by rw [h.lb]; exact hi)⟩
  obtain ⟨kv, hk⟩ : ∃ kv, m.kvs[i]? = some kv := ⟨_, List.getElem?_eq_getElem (by rw [h.lk]; exact hi)⟩
  exact ⟨b, kv, hb, hk, h.slot i b kv x hb hk hx⟩
end

/-- The slot of the session: its block; nil. -/
def slotV (m : Mem) (t : Tb) (id : Int) : Value := match findI t.l id with | some i => ptrV m.bs[i]? | none => .pointer none

set_option maxHeartbeats 1000000 in
theorem slot_any (tb : Nat) (m : Mem) (t : Tb) (id : Int) (w : World) (h : TableAt w tb m t) :
    Calls Try.prog 27 #[.pointer (some ⟨tb, 0, none⟩), .int .i64 id] w fun e w' => e = .returned (slotV m t id) ∧ ∃ q, w' = w.drewN q := by
  have cn := h.cn
  obtain ⟨n, hn⟩ : ∃ n, n = t.l.length := ⟨_, rfl⟩
  have hn4 : n ≤ 4 := by rw [hn]; exact Nat.le_trans h.fits h.hi
  rw [← hn] at cn
  have hn4i : (n : Int) ≤ 4 := by omega
  have HH := Lib.hid h
  have HN := Lib.hid hn
  clear h hn
  go_enter Try.func27, Try.ntmps27
  go_wp2_with fail
  go_quiet (fail)
  go_wp2_with fail
  go_loop [16] (fun i => ∃ j : Nat, j ≤ n ∧ i = .int .i64 j ∧ ∀ (k : Nat) (q : Sess), k < j → t.l[k]? = some q → q.id ≠ id) (fun i => n - (intOf i).toNat)
  case atStart => exact ⟨0, Nat.zero_le _, rfl, fun k q h => by omega⟩
  case round =>
    obtain ⟨j, hj, rfl, hall⟩ := hrel
    have HA := Lib.hid hall
    clear hall
    by_cases hjn : j < n
    · obtain ⟨x, hx⟩ : ∃ x, t.l[j]? = some x := ⟨_, List.getElem?_eq_getElem (by rw [← HN.out]; exact hjn)⟩
      obtain ⟨b, kv, hb, hkv, hs⟩ := HH.out.at_ hx
      have q1 := HH.out.cptr (i := j) (by omega)
      rw [hb] at q1
      have q2 : w.cell? ⟨tb, j, none⟩ = some (.pointer (some ⟨b, 0, none⟩)) := q1
      have q3 : w.cell? ⟨b, 0, none⟩ = some (.int .i64 x.id) := by simp [World.cell?, hs.box]
      have HX := Lib.hid hx
      have HBB := Lib.hid hb
      have y1 : (j : Int) < (n : Int) := by omega
      clear hx hb hkv hs q1
      by_cases e : x.id = id
      · have y2 : (x.id == id) = true := by rw [beq_iff_eq]; exact e
        have HE := Lib.hid e
        clear e
        go_wp2_with fail
        go_ret
        have hsv : slotV m t id = .pointer (some ⟨b, 0, none⟩) := by
          unfold slotV
          rw [findI_some HX.out HE.out HA.out]
          simp only [HBB.out]
          rfl
        rw [hsv]
        exact ⟨rfl, nq, rfl⟩
      · have y2 : (x.id == id) = false := by rw [beq_eq_false_iff_ne]; exact e
        have HE := Lib.hid e
        clear e
        go_wp2_with fail
        refine ⟨⟨j + 1, by omega, by go_num, fun k q hk hq => ?_⟩, by simp [intOf]; omega⟩
        by_cases e : k = j
        · subst e
          rw [HX.out] at hq
          cases hq
          exact HE.out
        · exact HA.out k q (by omega) hq
    · have y1 : ¬ (j : Int) < (n : Int) := by omega
      go_wp2_with fail
      go_ret
      have hsv : slotV m t id = .pointer none := by
        unfold slotV
        rw [findI_none fun k q hq => HA.out k q (by have := (List.getElem?_eq_some_iff.1 hq).1; rw [← HN.out] at this; omega) hq]
      rw [hsv]
      exact ⟨rfl, nq, rfl⟩
end Go.Proofs.Ytdikajbbolecoaa

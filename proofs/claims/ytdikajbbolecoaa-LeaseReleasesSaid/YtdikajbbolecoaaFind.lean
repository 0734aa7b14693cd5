/-
  Find, Renew, Repin.
-/
import Derived.Test.YtdikajbbolecoaaLive
namespace Go.Proofs.Ytdikajbbolecoaa
open Go.RowKit
set_option linter.unusedVariables false
set_option linter.unusedSimpArgs false

/-- A session without its replies, as a value. -/
def sessV (i b d l : Int) : Value := .agg #[.int .i64 i, .int .i64 b, .int .i64 d, .int .i64 l]
def Sess.val (x : Sess) : Value := sessV x.id x.block x.dead x.last
def findR (t : Tb) (id clock : Int) : Value :=
  match liveS t id clock with
  | .inl i => match t.l[i]? with
    | some x => .tuple #[x.val, .int .i64 0]
    | none => .tuple #[sessV 0 0 0 0, .int .i64 0]
  | .inr c => .tuple #[sessV 0 0 0 0, .int .i64 c]

theorem live_in {t : Tb} {id clock : Int} {i : Nat} (h : liveS t id clock = .inl i) : ∃ x, t.l[i]? = some x ∧ x.id = id ∧ clock < x.dead ∧ findI t.l id = some i := by
  unfold liveS at h
  cases hf : findI t.l id with
  | none =>
    rw [hf] at h
    simp only at h
    split at h <;> cases h
  | some j =>
    obtain ⟨x, hx, hxi, _⟩ := findI_lt hf
    rw [hf] at h
    simp only [hx] at h
    split at h
    · cases h
      exact ⟨x, hx, hxi, by assumption, rfl⟩
    · cases h
theorem live_code {t : Tb} {id clock c : Int} (h : liveS t id clock = .inr c) : c = 6 ∨ c = 5 := by
  unfold liveS at h
  cases hf : findI t.l id with
  | none =>
    rw [hf] at h
    simp only at h
    split at h <;> cases h
    · exact .inl rfl
    · exact .inr rfl
  | some j =>
    obtain ⟨x, hx, hxi, _⟩ := findI_lt hf
    rw [hf] at h
    simp only [hx] at h
    split at h
    · cases h
    · cases h
      exact .inl rfl

theorem set4 {w : World} {b : Nat} {a0 a1 a2 a3 : Value} (h : w.heap[b]? = some (.cells #[a0, a1, a2, a3] 29 (0, 0))) (x0 x1 x2 x3 : Value) :
    ((((w.setCell ⟨b, 0, none⟩ x0).setCell ⟨b, 1, none⟩ x1).setCell ⟨b, 2, none⟩ x2).setCell ⟨b, 3, none⟩ x3).heap[b]? = some (.cells #[x0, x1, x2, x3] 29 (0, 0)) := by
  simp only [World.setCell, Array.getElem?_modify, if_pos rfl, h]
  rfl
theorem below_set {B : Nat} {w w' : World} {b : Nat} (h : Below B w w') (hb : B ≤ b) (x0 x1 x2 x3 : Value) :
    Below B w ((((w'.setCell ⟨b, 0, none⟩ x0).setCell ⟨b, 1, none⟩ x1).setCell ⟨b, 2, none⟩ x2).setCell ⟨b, 3, none⟩ x3) :=
  ⟨h.os, h.tape, h.output, by simpa using h.size, fun k hk => by
    rw [Below.heap_setCell _ _ _ _ (by show k ≠ b; omega), Below.heap_setCell _ _ _ _ (by show k ≠ b; omega), Below.heap_setCell _ _ _ _ (by show k ≠ b; omega), Below.heap_setCell _ _ _ _ (by show k ≠ b; omega)]
    exact h.block k hk⟩

set_option maxHeartbeats 2000000 in
theorem find_any (tb : Nat) (m : Mem) (t : Tb) (id clock : Int) (w : World) (h : TableAt w tb m t) (he8 : t.ended.length ≤ 1000) :
    Calls Try.prog 14 #[.pointer (some ⟨tb, 0, none⟩), .int .i64 id, .int .i64 clock] w fun e w' => e = .returned (findR t id clock) ∧ Below w.heap.size w w' := by
  have hA := h.alloc (.cells #[.int .i64 0, .int .i64 0, .int .i64 0, .int .i64 0] 29)
  have D := Lib.hid (live_any tb m t id clock _ hA he8)
  cases hl : liveS t id clock with
  | inl i =>
    obtain ⟨x, hx, hxi, hxd, _⟩ := live_in hl
    obtain ⟨b, kv, hb, hkv, hs⟩ := hA.at_ hx
    have hv : liveV m id (liveS t id clock) = .tuple #[.pointer (some ⟨b, 0, none⟩), .nilIface] := by rw [hl]; unfold liveV; simp only [hb]; rfl
    rw [hv] at D
    have hr : findR t id clock = .tuple #[x.val, .int .i64 0] := by unfold findR; rw [hl]; simp only [hx]
    have q0 : (w.alloc (.cells #[.int .i64 0, .int .i64 0, .int .i64 0, .int .i64 0] 29)).cell? ⟨b, 0, none⟩ = some (.int .i64 x.id) := by simp [World.cell?, hs.box]
    have q1 : (w.alloc (.cells #[.int .i64 0, .int .i64 0, .int .i64 0, .int .i64 0] 29)).cell? ⟨b, 1, none⟩ = some (.int .i64 x.block) := by simp [World.cell?, hs.box]
    have q2 : (w.alloc (.cells #[.int .i64 0, .int .i64 0, .int .i64 0, .int .i64 0] 29)).cell? ⟨b, 2, none⟩ = some (.int .i64 x.dead) := by simp [World.cell?, hs.box]
    have q3 : (w.alloc (.cells #[.int .i64 0, .int .i64 0, .int .i64 0, .int .i64 0] 29)).cell? ⟨b, 3, none⟩ = some (.int .i64 x.last) := by simp [World.cell?, hs.box]
    have HR := Lib.hid hr
    clear h hA hl hx hxi hxd hb hkv hs hv hr
    go_enter Try.func14, Try.ntmps14
    go_wp2_with fail
    refine D.out.mono ?_
    rintro e w1 ⟨rfl, q, rfl⟩
    go_wp2_with fail
    have hx := set4 (w := (w.alloc (.cells #[.int .i64 0, .int .i64 0, .int .i64 0, .int .i64 0] 29)).drewN q) (b := w.heap.size) (heap_alloc_new w _) (.int .i64 x.id) (.int .i64 x.block) (.int .i64 x.dead) (.int .i64 x.last)
    have hb := below_set (B := w.heap.size) (w := w) (w' := (w.alloc (.cells #[.int .i64 0, .int .i64 0, .int .i64 0, .int .i64 0] 29)).drewN q) (b := w.heap.size) (((Below.refl _ w).alloc (Nat.le_refl _) _).trans ⟨rfl, rfl, rfl, Nat.le_refl _, fun _ _ => rfl⟩) (Nat.le_refl _) (.int .i64 x.id) (.int .i64 x.block) (.int .i64 x.dead) (.int .i64 x.last)
    generalize ((((World.setCell _ _ _).setCell _ _).setCell _ _).setCell _ _) = W5 at *
    have p0 : W5.cell? ⟨w.heap.size, 0, none⟩ = some (.int .i64 x.id) := by simp [World.cell?, hx]
    have p1 : W5.cell? ⟨w.heap.size, 1, none⟩ = some (.int .i64 x.block) := by simp [World.cell?, hx]
    have p2 : W5.cell? ⟨w.heap.size, 2, none⟩ = some (.int .i64 x.dead) := by simp [World.cell?, hx]
    have p3 : W5.cell? ⟨w.heap.size, 3, none⟩ = some (.int .i64 x.last) := by simp [World.cell?, hx]
    refine bodyPost_ret (v := .tuple #[x.val, .int .i64 0]) ?_ rfl ⟨by rw [HR.out], hb⟩
    clear hx hb HR D
    simp only [results, Try.f14]
    go_simp
    rfl
  | inr c =>
    have hc := live_code hl
    have hv : liveV m id (liveS t id clock) = .tuple #[.pointer none, failV id c] := by rw [hl]; rfl
    rw [hv] at D
    have hr : findR t id clock = .tuple #[sessV 0 0 0 0, .int .i64 c] := by unfold findR; rw [hl]
    have D2 := Lib.hid (fun w => number_any id c w hc)
    have HR := Lib.hid hr
    clear h hA hl hc hv hr
    unfold failV at D D2
    go_enter Try.func14, Try.ntmps14
    go_wp2_with fail
    refine D.out.mono ?_
    rintro e w1 ⟨rfl, q, rfl⟩
    go_wp2_with fail
    refine (D2.out _).mono ?_
    rintro e w2 ⟨rfl, hb⟩
    have e2 : w2.heap[w.heap.size]? = some (.cells #[.int .i64 0, .int .i64 0, .int .i64 0, .int .i64 0] 29 (0, 0)) := (hb.block _ (by simp)).trans (heap_alloc_new w _)
    have k0 : ∀ i, w2.frozen? ⟨w.heap.size, i, none⟩ = false := fun i => by simp [World.frozen?, e2]
    have c0 : w2.cell? ⟨w.heap.size, 0, none⟩ = some (.int .i64 0) := by simp [World.cell?, e2]
    have c1 : w2.cell? ⟨w.heap.size, 1, none⟩ = some (.int .i64 0) := by simp [World.cell?, e2]
    have c2 : w2.cell? ⟨w.heap.size, 2, none⟩ = some (.int .i64 0) := by simp [World.cell?, e2]
    have c3 : w2.cell? ⟨w.heap.size, 3, none⟩ = some (.int .i64 0) := by simp [World.cell?, e2]
    have E2 := Lib.hid e2
    have HB := Lib.hid hb
    clear hb e2
    go_wp2_with fail
    have hx := set4 (w := w2) (b := w.heap.size) E2.out (.int .i64 0) (.int .i64 0) (.int .i64 0) (.int .i64 0)
    have hb := below_set (B := w.heap.size) (w := w) (w' := w2) (b := w.heap.size) (((Below.refl _ w).alloc (Nat.le_refl _) _).trans ⟨HB.out.os, HB.out.tape, HB.out.output, HB.out.size, fun k hk => HB.out.block k (by simp; omega)⟩) (Nat.le_refl _) (.int .i64 0) (.int .i64 0) (.int .i64 0) (.int .i64 0)
    clear c0 c1 c2 c3 k0
    generalize ((((World.setCell _ _ _).setCell _ _).setCell _ _).setCell _ _) = W5 at *
    have p0 : W5.cell? ⟨w.heap.size, 0, none⟩ = some (.int .i64 0) := by simp [World.cell?, hx]
    have p1 : W5.cell? ⟨w.heap.size, 1, none⟩ = some (.int .i64 0) := by simp [World.cell?, hx]
    have p2 : W5.cell? ⟨w.heap.size, 2, none⟩ = some (.int .i64 0) := by simp [World.cell?, hx]
    have p3 : W5.cell? ⟨w.heap.size, 3, none⟩ = some (.int .i64 0) := by simp [World.cell?, hx]
    refine bodyPost_ret (v := .tuple #[sessV 0 0 0 0, .int .i64 c]) ?_ rfl ⟨by rw [HR.out], hb⟩
    clear hx hb HR D
    simp only [results, Try.f14]
    go_simp
    rfl
end Go.Proofs.Ytdikajbbolecoaa

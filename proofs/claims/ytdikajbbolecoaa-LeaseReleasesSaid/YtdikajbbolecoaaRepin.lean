/-
  Renew and Repin: the walks.
-/
import Derived.Test.YtdikajbbolecoaaRenew
namespace Go.Proofs.Ytdikajbbolecoaa
open Go.RowKit
set_option linter.unusedVariables false
set_option linter.unusedSimpArgs false

def renewS (t : Tb) (id clock : Int) : Tb × Int :=
  match liveS t id clock with
  | .inl i => match t.l[i]? with
    | some x => (setL t i { x with dead := clock + t.term }, 0)
    | none => (t, 0)
  | .inr c => (t, c)

set_option maxHeartbeats 2000000 in
theorem renew_any (tb : Nat) (m : Mem) (t : Tb) (id clock : Int) (w : World) (h : TableAt w tb m t) (he8 : t.ended.length ≤ 1000) (hc1 : 0 ≤ clock) (hc2 : clock ≤ 1000000) (ht : t.term ≤ 1000) :
    Calls Try.prog 15 #[.pointer (some ⟨tb, 0, none⟩), .int .i64 id, .int .i64 clock] w (TablePost w tb m (renewS t id clock).1 (.int .i64 (renewS t id clock).2)) := by
  have D := Lib.hid (live_any tb m t id clock w h he8)
  have HH := Lib.hid h
  cases hl : liveS t id clock with
  | inl i =>
    obtain ⟨x, hx, hxi, hxd, _⟩ := live_in hl
    obtain ⟨b, kv, hb, hkv, hs⟩ := h.at_ hx
    have hv : liveV m id (liveS t id clock) = .tuple #[.pointer (some ⟨b, 0, none⟩), .nilIface] := by rw [hl]; unfold liveV; simp only [hb]; rfl
    rw [hv] at D
    have hr : renewS t id clock = (setL t i { x with dead := clock + t.term }, 0) := by unfold renewS; rw [hl]; simp only [hx]
    have ct := h.cterm
    have q2 : w.cell? ⟨b, 2, none⟩ = some (.int .i64 x.dead) := by simp [World.cell?, hs.box]
    have f2 : w.frozen? ⟨b, 2, none⟩ = false := by simp [World.frozen?, hs.box]
    have hw1 : IntKind.i64.wrap (clock + (t.term : Int)) = clock + (t.term : Int) := by rw [IntKind.wrap_i64]; omega
    have FIN := Lib.hid (fun (q : Nat) => (h.drewN q).setSlot (c := 2) (y := { x with dead := clock + t.term }) (u := .int .i64 (clock + t.term)) hx hb rfl (fun kv hbx => (slot_set hbx _).2.1))
    have HR := Lib.hid hr
    clear h hl hx hxi hxd hb hkv hs hv hr
    go_enter Try.func15, Try.ntmps15
    go_wp2_with fail
    refine D.out.mono ?_
    rintro e w1 ⟨rfl, q, rfl⟩
    go_wp2_with fail
    go_ret
    rw [HR.out]
    exact ⟨rfl, m, (FIN.out q).1, (Turned.drewN _ _ _ _ _).trans (FIN.out q).2⟩
  | inr c =>
    have hc := live_code hl
    have hv : liveV m id (liveS t id clock) = .tuple #[.pointer none, failV id c] := by rw [hl]; rfl
    rw [hv] at D
    have hr : renewS t id clock = (t, c) := by unfold renewS; rw [hl]
    have D2 := Lib.hid (fun w => number_any id c w hc)
    have HR := Lib.hid hr
    clear h hl hc hv hr
    unfold failV at D D2
    go_enter Try.func15, Try.ntmps15
    go_wp2_with fail
    refine D.out.mono ?_
    rintro e w1 ⟨rfl, q, rfl⟩
    go_wp2_with fail
    refine (D2.out _).mono ?_
    rintro e w2 ⟨rfl, hb⟩
    have HB := Lib.hid hb
    clear hb
    go_wp2_with fail
    go_ret
    rw [HR.out]
    exact ⟨rfl, m, (HH.out.drewN q).below HB.out, (Turned.drewN _ _ _ _ _).trans (Turned.of_below HB.out tb m)⟩
def repinS (t : Tb) (id block clock : Int) : Tb × Int × Int :=
  match liveS t id clock with
  | .inl i => match t.l[i]? with
    | some x => (setL t i { x with block := block }, x.block, 0)
    | none => (t, 0, 0)
  | .inr c => (t, 0, c)

set_option maxHeartbeats 2000000 in
theorem repin_any (tb : Nat) (m : Mem) (t : Tb) (id block clock : Int) (w : World) (h : TableAt w tb m t) (he8 : t.ended.length ≤ 1000) :
    Calls Try.prog 21 #[.pointer (some ⟨tb, 0, none⟩), .int .i64 id, .int .i64 block, .int .i64 clock] w (TablePost w tb m (repinS t id block clock).1 (.tuple #[.int .i64 (repinS t id block clock).2.1, .int .i64 (repinS t id block clock).2.2])) := by
  have D := Lib.hid (live_any tb m t id clock w h he8)
  have HH := Lib.hid h
  cases hl : liveS t id clock with
  | inl i =>
    obtain ⟨x, hx, hxi, hxd, _⟩ := live_in hl
    obtain ⟨b, kv, hb, hkv, hs⟩ := h.at_ hx
    have hv : liveV m id (liveS t id clock) = .tuple #[.pointer (some ⟨b, 0, none⟩), .nilIface] := by rw [hl]; unfold liveV; simp only [hb]; rfl
    rw [hv] at D
    have hr : repinS t id block clock = (setL t i { x with block := block }, x.block, 0) := by unfold repinS; rw [hl]; simp only [hx]
    have q2 : w.cell? ⟨b, 1, none⟩ = some (.int .i64 x.block) := by simp [World.cell?, hs.box]
    have f2 : w.frozen? ⟨b, 1, none⟩ = false := by simp [World.frozen?, hs.box]
    have FIN := Lib.hid (fun (q : Nat) => (h.drewN q).setSlot (c := 1) (y := { x with block := block }) (u := .int .i64 block) hx hb rfl (fun kv hbx => (slot_set hbx _).1))
    have HR := Lib.hid hr
    clear h hl hx hxi hxd hb hkv hs hv hr
    go_enter Try.func21, Try.ntmps21
    go_wp2_with fail
    refine D.out.mono ?_
    rintro e w1 ⟨rfl, q, rfl⟩
    go_wp2_with fail
    go_ret2
    rw [HR.out]
    exact ⟨rfl, m, (FIN.out q).1, (Turned.drewN _ _ _ _ _).trans (FIN.out q).2⟩
  | inr c =>
    have hc := live_code hl
    have hv : liveV m id (liveS t id clock) = .tuple #[.pointer none, failV id c] := by rw [hl]; rfl
    rw [hv] at D
    have hr : repinS t id block clock = (t, 0, c) := by unfold repinS; rw [hl]
    have D2 := Lib.hid (fun w => number_any id c w hc)
    have HR := Lib.hid hr
    clear h hl hc hv hr
    unfold failV at D D2
    go_enter Try.func21, Try.ntmps21
    go_wp2_with fail
    refine D.out.mono ?_
    rintro e w1 ⟨rfl, q, rfl⟩
    go_wp2_with fail
    refine (D2.out _).mono ?_
    rintro e w2 ⟨rfl, hb⟩
    have HB := Lib.hid hb
    clear hb
    go_wp2_with fail
    go_ret2
    rw [HR.out]
    exact ⟨rfl, m, (HH.out.drewN q).below HB.out, (Turned.drewN _ _ _ _ _).trans (Turned.of_below HB.out tb m)⟩
end Go.Proofs.Ytdikajbbolecoaa

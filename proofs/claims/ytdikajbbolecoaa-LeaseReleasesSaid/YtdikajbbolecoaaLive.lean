/-
  live: a session's slot, if its lease is not over; else why not.
-/
import Derived.Test.YtdikajbbolecoaaSlot
namespace Go.Proofs.Ytdikajbbolecoaa
open Go.RowKit
set_option linter.unusedVariables false
set_option linter.unusedSimpArgs false

/-- Its place; else the error's number. -/
def liveS (t : Tb) (id clock : Int) : Nat ⊕ Int :=
  match findI t.l id with
  | some i => match t.l[i]? with
    | some x => if clock < x.dead then .inl i else .inr 6
    | none => .inr 5
  | none => if t.ended.any (fun e => decide (e = id)) then .inr 6 else .inr 5
def liveV (m : Mem) (id : Int) : Nat ⊕ Int → Value
  | .inl i => .tuple #[ptrV m.bs[i]?, .nilIface]
  | .inr c => .tuple #[.pointer none, failV id c]

set_option maxHeartbeats 2000000 in
theorem live_any (tb : Nat) (m : Mem) (t : Tb) (id clock : Int) (w : World) (h : TableAt w tb m t) (he8 : t.ended.length ≤ 1000) :
    Calls Try.prog 24 #[.pointer (some ⟨tb, 0, none⟩), .int .i64 id, .int .i64 clock] w fun e w' => e = .returned (liveV m id (liveS t id clock)) ∧ ∃ q, w' = w.drewN q := by
  have D := Lib.hid (slot_any tb m t id w h)
  have HH := Lib.hid h
  cases hf : findI t.l id with
  | some i =>
    obtain ⟨x, hx, hxi, _⟩ := findI_lt hf
    obtain ⟨b, kv, hb, hkv, hs⟩ := h.at_ hx
    have hsv : slotV m t id = .pointer (some ⟨b, 0, none⟩) := by unfold slotV; rw [hf]; simp only [hb]; rfl
    rw [hsv] at D
    have q2 : w.cell? ⟨b, 2, none⟩ = some (.int .i64 x.dead) := by simp [World.cell?, hs.box]
    by_cases hd : clock < x.dead
    · have hr : liveV m id (liveS t id clock) = .tuple #[.pointer (some ⟨b, 0, none⟩), .nilIface] := by
        unfold liveS; rw [hf]; simp only [hx]; rw [if_pos hd]; unfold liveV; simp only [hb]; rfl
      have HR := Lib.hid hr
      have hd2 : decide (clock < x.dead) = true := decide_eq_true hd
      clear h hf hx hxi hb hkv hs hsv hr
      go_enter Try.func24, Try.ntmps24
      go_wp2_with fail
      refine D.out.mono ?_
      rintro e w1 ⟨rfl, q, rfl⟩
      go_wp2_with fail
      go_ret2
      rw [HR.out]
      exact ⟨rfl, q, rfl⟩
    · have hr : liveV m id (liveS t id clock) = .tuple #[.pointer none, failV id 6] := by
        unfold liveS; rw [hf]; simp only [hx]; rw [if_neg hd]; rfl
      have HR := Lib.hid hr
      have hd2 : decide (clock < x.dead) = false := decide_eq_false hd
      clear h hf hx hxi hb hkv hs hsv hr
      go_enter Try.func24, Try.ntmps24
      go_wp2_with fail
      refine D.out.mono ?_
      rintro e w1 ⟨rfl, q, rfl⟩
      go_wp2_with fail
      go_ret2
      rw [HR.out]
      exact ⟨rfl, q, rfl⟩
  | none =>
    have hsv : slotV m t id = .pointer none := by unfold slotV; rw [hf]
    rw [hsv] at D
    have ce := h.cended
    obtain ⟨a, cap, hev⟩ := h.ended.shape
    obtain ⟨n, hn⟩ : ∃ n, n = t.ended.length := ⟨_, rfl⟩
    rw [← hn] at hev he8
    rw [hev] at ce
    have HEV := Lib.hid hev
    have HN := Lib.hid hn
    have hl : liveS t id clock = if t.ended.any (fun e => decide (e = id)) then .inr 6 else .inr 5 := by unfold liveS; rw [hf]
    have HL := Lib.hid hl
    clear h hf hsv hev hn hl
    go_enter Try.func24, Try.ntmps24
    go_wp2_with fail
    refine D.out.mono ?_
    rintro e w1 ⟨rfl, q, rfl⟩
    go_wp2_with fail
    go_loop [39] (fun i => ∃ j : Nat, j ≤ n ∧ i = .int .i64 j ∧ ∀ (k : Nat) (e : Int), k < j → t.ended[k]? = some e → e ≠ id) (fun i => n - (intOf i).toNat)
    case atStart => exact ⟨0, Nat.zero_le _, rfl, fun k e h => by omega⟩
    case round =>
      obtain ⟨j, hj, rfl, hall⟩ := hrel
      have HA := Lib.hid hall
      clear hall
      by_cases hjn : j < n
      · obtain ⟨x, hx⟩ : ∃ x, t.ended[j]? = some x := ⟨_, List.getElem?_eq_getElem (by rw [← HN.out]; exact hjn)⟩
        have hxe : (flatE t.ended)[j]? = some (.int .i64 x) := by unfold flatE; rw [List.getElem?_map, hx]; rfl
        obtain ⟨g, o, cap', hv, q1⟩ := HH.out.ended.cells hxe
        rw [HEV.out, ← HN.out] at hv
        simp only [Value.slice.injEq, true_and] at hv
        obtain ⟨rfl, rfl⟩ := hv
        have HX := Lib.hid hx
        have y1 : (j : Int) < (n : Int) := by omega
        clear hx hxe
        by_cases e : x = id
        · have y2 : (x == id) = true := by rw [beq_iff_eq]; exact e
          have HE := Lib.hid e
          clear e
          go_wp2_with fail
          go_ret2
          have hany : t.ended.any (fun e => decide (e = id)) = true := List.any_eq_true.2 ⟨x, List.mem_of_getElem? HX.out, decide_eq_true HE.out⟩
          rw [HL.out, hany]
          exact ⟨rfl, q, rfl⟩
        · have y2 : (x == id) = false := by rw [beq_eq_false_iff_ne]; exact e
          have HE := Lib.hid e
          clear e
          go_wp2_with fail
          refine ⟨⟨j + 1, by omega, by go_num, fun k y hk hy => ?_⟩, by simp [intOf]; omega⟩
          by_cases e : k = j
          · subst e
            rw [HX.out] at hy
            cases hy
            exact HE.out
          · exact HA.out k y (by omega) hy
      · have y1 : ¬ (j : Int) < (n : Int) := by omega
        go_wp2_with fail
        go_ret2
        have hany : t.ended.any (fun e => decide (e = id)) = false := by
          rw [List.any_eq_false]
          intro e he
          obtain ⟨k, hk⟩ := List.getElem?_of_mem he
          have := HA.out k e (by have := (List.getElem?_eq_some_iff.1 hk).1; rw [← HN.out] at this; omega) hk
          simpa using this
        rw [HL.out, hany]
        exact ⟨rfl, q, rfl⟩
end Go.Proofs.Ytdikajbbolecoaa

/-
  Replay.
-/
import Derived.Test.YtdikajbbolecoaaStore
namespace Go.Proofs.Ytdikajbbolecoaa
open Go.RowKit
set_option linter.unusedVariables false
set_option linter.unusedSimpArgs false

def replayS (t : Tb) (id seq : Int) : ByteArray × Int :=
  match findI t.l id with
  | none => (⟨#[]⟩, 5)
  | some i => match t.l[i]? with
    | none => (⟨#[]⟩, 5)
    | some x => if x.last < seq then (⟨#[]⟩, 9) else match x.kept.find? (fun p => decide (p.1 = seq)) with
      | some p => (p.2, 0)
      | none => (⟨#[]⟩, 7)

theorem flatK_at : ∀ (l : List (Int × ByteArray)) (i : Nat) (p : Int × ByteArray), l[i]? = some p → (flatK l)[i * 2]? = some (.int .i64 p.1) ∧ (flatK l)[i * 2 + 1]? = some (.string p.2)
  | [], i, p, h => by simp at h
  | q :: l, 0, p, h => by simp at h; subst h; exact ⟨rfl, rfl⟩
  | q :: l, i + 1, p, h => by
    have ih := flatK_at l i p (by simpa using h)
    rw [Nat.succ_mul]
    exact ih

set_option maxHeartbeats 2000000 in
set_option maxRecDepth 100000 in
theorem replay_any (tb : Nat) (m : Mem) (t : Tb) (id seq : Int) (w : World) (h : TableAt w tb m t) (hk2 : ∀ x ∈ t.l, x.kept.length ≤ 2) :
    Calls Try.prog 18 #[.pointer (some ⟨tb, 0, none⟩), .int .i64 id, .int .i64 seq] w fun e w' => e = .returned (.tuple #[.string (replayS t id seq).1, .int .i64 (replayS t id seq).2]) ∧ Below w.heap.size w w' := by
  have D := Lib.hid (slot_any tb m t id w h)
  have HH := Lib.hid h
  cases hf : findI t.l id with
  | none =>
    have hsv : slotV m t id = .pointer none := by unfold slotV; rw [hf]
    rw [hsv] at D
    have hr : replayS t id seq = (⟨#[]⟩, 5) := by unfold replayS; rw [hf]
    have HR := Lib.hid hr
    clear h hf hsv hr hk2
    go_enter Try.func18, Try.ntmps18
    go_wp2_with fail
    refine D.out.mono ?_
    rintro e w1 ⟨rfl, q, rfl⟩
    go_wp2_with fail
    go_ret2
    rw [HR.out]
    exact ⟨rfl, below_drewN w q⟩
  | some i =>
    obtain ⟨x, hx, hxi, _⟩ := findI_lt hf
    obtain ⟨b, kv, hb, hkv, hs⟩ := h.at_ hx
    have hsv : slotV m t id = .pointer (some ⟨b, 0, none⟩) := by unfold slotV; rw [hf]; simp only [hb]; rfl
    rw [hsv] at D
    have q3 : w.cell? ⟨b, 3, none⟩ = some (.int .i64 x.last) := by simp [World.cell?, hs.box]
    obtain ⟨a, cap, rfl⟩ := hs.row.shape
    have q4 : w.cell? ⟨b, 4, none⟩ = some (.slice a x.kept.length cap) := by simp [World.cell?, hs.box]
    have hr : replayS t id seq = if x.last < seq then (⟨#[]⟩, (9 : Int)) else match x.kept.find? (fun p => decide (p.1 = seq)) with
      | some p => (p.2, 0)
      | none => (⟨#[]⟩, 7) := by unfold replayS; rw [hf]; simp only [hx]
    by_cases hd : x.last < seq
    · have d1 : decide (x.last < seq) = true := decide_eq_true hd
      rw [if_pos hd] at hr
      have HR := Lib.hid hr
      clear h hf hsv hr hk2 hx hxi hb hkv hs
      go_enter Try.func18, Try.ntmps18
      go_wp2_with fail
      refine D.out.mono ?_
      rintro e w1 ⟨rfl, q, rfl⟩
      go_wp2_with fail
      go_ret2
      rw [HR.out]
      exact ⟨rfl, below_drewN w q⟩
    · have d1 : decide (x.last < seq) = false := decide_eq_false hd
      rw [if_neg hd] at hr
      have HR := Lib.hid hr
      have HS := Lib.hid hs
      have hk2 := hk2 x (List.mem_of_getElem? hx)
      obtain ⟨n, hn⟩ : ∃ n, n = x.kept.length := ⟨_, rfl⟩
      rw [← hn] at q4 hk2
      have HN := Lib.hid hn
      clear h hf hsv hr hx hxi hb hkv hs hn
      go_enter Try.func18, Try.ntmps18
      go_wp2_with fail
      refine D.out.mono ?_
      rintro e w1 ⟨rfl, q, rfl⟩
      go_wp2_with fail
      go_loopw [10, 30] (fun _ s30 wr => ∃ j : Nat, j ≤ n ∧ s30 = .int .i64 j ∧ Below w.heap.size w wr ∧ ∀ (k : Nat) (p : Int × ByteArray), k < j → x.kept[k]? = some p → p.1 ≠ seq) (fun _ s30 _ => n - (intOf s30).toNat)
      case atStart => exact ⟨0, Nat.zero_le _, rfl, below_drewN w q, fun k p h => by omega⟩
      case round =>
        obtain ⟨j, hj, rfl, hB, hall⟩ := hrel
        have HA := Lib.hid hall
        have HB := Lib.hid hB
        clear hall
        by_cases hjn : j < n
        · obtain ⟨p, hp⟩ : ∃ p, x.kept[j]? = some p := ⟨_, List.getElem?_eq_getElem (by rw [← HN.out]; exact hjn)⟩
          obtain ⟨hp1, hp2⟩ := flatK_at _ _ _ hp
          have hrow := HS.out.row.kept (w' := wr) fun k hk => hB.block k (HS.out.row.lt k hk)
          obtain ⟨g, o, cap', hv, q1⟩ := hrow.cells hp1
          obtain ⟨g', o', cap'', hv', q2⟩ := hrow.cells hp2
          rw [hv] at hv'
          simp only [Value.slice.injEq, Option.some.injEq, Addr.mk.injEq, and_true, true_and] at hv'
          obtain ⟨⟨rfl, rfl⟩, rfl⟩ := hv'
          simp only [Value.slice.injEq, true_and] at hv
          obtain ⟨rfl, rfl⟩ := hv
          have y1 : (j : Int) < (n : Int) := by omega
          have q2' : wr.cell? ⟨g, o + j * 2 + 1, none⟩ = some (.string p.2) := by rw [Nat.add_assoc]; exact q2
          have HP := Lib.hid hp
          clear hp hp1 hp2 hrow q2 hB
          by_cases e : p.1 = seq
          · have y2 : (p.1 == seq) = true := by rw [beq_iff_eq]; exact e
            have HE := Lib.hid e
            clear e
            go_wp2_with fail
            go_ret2
            have hfi : x.kept.find? (fun p => decide (p.1 = seq)) = some p := by
              rw [List.find?_eq_some_iff_getElem]
              obtain ⟨hl, hpe⟩ := List.getElem?_eq_some_iff.1 HP.out
              refine ⟨by simpa using HE.out, j, hl, hpe, fun k hk => ?_⟩
              have := HA.out k _ hk (List.getElem?_eq_getElem (by omega))
              simpa using this
            rw [HR.out, hfi]
            exact ⟨rfl, HB.out.alloc HB.out.size _⟩
          · have y2 : (p.1 == seq) = false := by rw [beq_eq_false_iff_ne]; exact e
            have HE := Lib.hid e
            clear e
            go_wp2_with fail
            refine ⟨⟨j + 1, by omega, by go_num, HB.out.alloc HB.out.size _, fun k p' hk hp' => ?_⟩, by simp [intOf]; omega⟩
            by_cases e : k = j
            · subst e
              rw [HP.out] at hp'
              cases hp'
              exact HE.out
            · exact HA.out k p' (by omega) hp'
        · have y1 : ¬ (j : Int) < (n : Int) := by omega
          go_wp2_with fail
          go_ret2
          have hany : x.kept.find? (fun p => decide (p.1 = seq)) = none := by
            rw [List.find?_eq_none]
            intro p hp
            obtain ⟨k, hk⟩ := List.getElem?_of_mem hp
            have := HA.out k p (by have := (List.getElem?_eq_some_iff.1 hk).1; rw [← HN.out] at this; omega) hk
            simpa using this
          rw [HR.out, hany]
          exact ⟨rfl, HB.out⟩
end Go.Proofs.Ytdikajbbolecoaa

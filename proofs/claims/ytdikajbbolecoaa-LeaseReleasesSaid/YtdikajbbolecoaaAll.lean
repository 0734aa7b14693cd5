/-
  All, Kept.
-/
import Derived.Test.YtdikajbbolecoaaReplay
namespace Go.Proofs.Ytdikajbbolecoaa
open Go.RowKit
set_option linter.unusedVariables false
set_option linter.unusedSimpArgs false

def keptN (l : List Sess) : Nat := (l.map fun x => x.kept.length).sum
theorem keptN_succ (l : List Sess) (j : Nat) {x : Sess} (hx : l[j]? = some x) : keptN (l.take (j + 1)) = keptN (l.take j) + x.kept.length := by
  unfold keptN
  rw [List.take_add_one, hx]
  simp

set_option maxHeartbeats 1000000 in
theorem kept_any (tb : Nat) (m : Mem) (t : Tb) (w : World) (h : TableAt w tb m t) (hk2 : ∀ x ∈ t.l, x.kept.length ≤ 2) :
    Calls Try.prog 12 #[.pointer (some ⟨tb, 0, none⟩)] w fun e w' => e = .returned (.int .i64 (keptN t.l)) ∧ ∃ q, w' = w.drewN q := by
  have cn := h.cn
  obtain ⟨n, hn⟩ : ∃ n, n = t.l.length := ⟨_, rfl⟩
  have hn4 : n ≤ 4 := by rw [hn]; exact Nat.le_trans h.fits h.hi
  rw [← hn] at cn
  have hn4i : (n : Int) ≤ 4 := by omega
  have HH := Lib.hid h
  have HN := Lib.hid hn
  have HK := Lib.hid hk2
  clear h hn hk2
  go_enter Try.func12, Try.ntmps12
  go_wp2_with fail
  go_quiet (fail)
  go_wp2_with fail
  go_loop [3, 15] (fun s3 i => ∃ j : Nat, j ≤ n ∧ i = .int .i64 j ∧ s3 = .int .i64 (keptN (t.l.take j)) ∧ keptN (t.l.take j) ≤ 2 * j) (fun _ i => n - (intOf i).toNat)
  case atStart => exact ⟨0, Nat.zero_le _, rfl, by simp [keptN], by simp [keptN]⟩
  case round =>
    obtain ⟨j, hj, rfl, rfl, hbd⟩ := hrel
    by_cases hjn : j < n
    · obtain ⟨x, hx⟩ : ∃ x, t.l[j]? = some x := ⟨_, List.getElem?_eq_getElem (by rw [← HN.out]; exact hjn)⟩
      obtain ⟨b, kv, hb, hkv, hs⟩ := HH.out.at_ hx
      have q1 := HH.out.cptr (i := j) (by omega)
      rw [hb] at q1
      have q2 : w.cell? ⟨tb, j, none⟩ = some (.pointer (some ⟨b, 0, none⟩)) := q1
      obtain ⟨a, cap, rfl⟩ := hs.row.shape
      have q3 : w.cell? ⟨b, 4, none⟩ = some (.slice a x.kept.length cap) := by simp [World.cell?, hs.box]
      have hx2 := HK.out x (List.mem_of_getElem? hx)
      have HS := Lib.hid (keptN_succ t.l j hx)
      have y1 : (j : Int) < (n : Int) := by omega
      clear hx hb hkv hs q1
      go_wp2_with fail
      refine ⟨⟨j + 1, by omega, by go_num, by rw [HS.out]; go_num, by rw [HS.out]; omega⟩, by simp [intOf]; omega⟩
    · have y1 : ¬ (j : Int) < (n : Int) := by omega
      go_wp2_with fail
      go_ret
      have hjn : j = n := by omega
      have e : List.take j t.l = t.l := by rw [hjn, HN.out, List.take_length]
      rw [e]
      exact ⟨rfl, nq, rfl⟩

theorem info29' : (Try.prog.info? 29).map (fun i => (i.zero, i.size, i.bytes)) = some (some (.agg #[.int .i64 0, .int .i64 0, .int .i64 0, .int .i64 0]), 4, 32) := info29

theorem src_sess (w : World) (a b c d : Int) : Src Try.prog 4 30 (.slice (some ⟨w.heap.size, 0, none⟩) 1 1) 1 [.int .i64 a, .int .i64 b, .int .i64 c, .int .i64 d] (w.alloc (.cells #[.int .i64 a, .int .i64 b, .int .i64 c, .int .i64 d] 29)) := by
  have h := heap_alloc_new w (.cells #[.int .i64 a, .int .i64 b, .int .i64 c, .int .i64 d] 29)
  have c0 : ∀ j u, #[(.int .i64 a : Value), .int .i64 b, .int .i64 c, .int .i64 d][j]? = some u → (w.alloc (.cells #[.int .i64 a, .int .i64 b, .int .i64 c, .int .i64 d] 29)).cell? ⟨w.heap.size, j, none⟩ = some u := fun j u hu => by simp only [World.cell?, h]; exact hu
  refine Src.ofSlice _ Try.underlying30 ⟨w.heap.size, 0, none⟩ 1 1 _ rfl (fun j u hu => ?_) (by simp [Value.oneCell'])
  rw [addr_add, Nat.zero_add]
  exact c0 j u (by simpa using hu)

/-- All sessions, in a row of the call's own. -/
def AllPost (w : World) (l : List Sess) (e : Ending) (w' : World) : Prop :=
  ∃ sv, e = .returned sv ∧ OffRow w' 29 4 sv l.length (flatS l) ∧ (∀ k, sv.ownBlock = some k → w.heap.size ≤ k) ∧ Below w.heap.size w w'

set_option maxHeartbeats 1000000 in
theorem all_any (tb : Nat) (m : Mem) (t : Tb) (w : World) (h : TableAt w tb m t) :
    Calls Try.prog 11 #[.pointer (some ⟨tb, 0, none⟩)] w (AllPost w t.l) := by
  have cn := h.cn
  obtain ⟨n, hn⟩ : ∃ n, n = t.l.length := ⟨_, rfl⟩
  have hn4 : n ≤ 4 := by rw [hn]; exact Nat.le_trans h.fits h.hi
  rw [← hn] at cn
  have hn4i : (n : Int) ≤ 4 := by omega
  obtain ⟨i29, hi29, hz29, hs29, hb29⟩ := info_parts info29
  have HH := Lib.hid h
  have HN := Lib.hid hn
  clear h hn
  go_enter Try.func11, Try.ntmps11
  go_wp2_with fail
  go_quiet (fail)
  go_wp2_with fail
  go_loopw [3, 15] (fun s3 i wr => ∃ j : Nat, j ≤ n ∧ i = .int .i64 j ∧ OffRow wr 29 4 s3 j (flatS (t.l.take j)) ∧ (∀ k, s3.ownBlock = some k → w.heap.size ≤ k) ∧ Below w.heap.size w wr) (fun _ i _ => n - (intOf i).toNat)
  case atStart => exact ⟨0, Nat.zero_le _, rfl, OffRow.nil _ _ _, fun k hk => by simp [Value.ownBlock] at hk, below_drewN w nq⟩
  case round =>
    obtain ⟨j, hj, rfl, hrow, hown, hB⟩ := hrel
    have HR := Lib.hid hrow
    have HO := Lib.hid hown
    have HB := Lib.hid hB
    clear hrow hown
    by_cases hjn : j < n
    · obtain ⟨x, hx⟩ : ∃ x, t.l[j]? = some x := ⟨_, List.getElem?_eq_getElem (by rw [← HN.out]; exact hjn)⟩
      have hT := HH.out.below hB
      obtain ⟨b, kv, hb, hkv, hs⟩ := hT.at_ hx
      have q1 := hT.cptr (i := j) (by omega)
      rw [hb] at q1
      have q2 : wr.cell? ⟨tb, j, none⟩ = some (.pointer (some ⟨b, 0, none⟩)) := q1
      have z0 : wr.cell? ⟨b, 0, none⟩ = some (.int .i64 x.id) := by simp [World.cell?, hs.box]
      have z1 : wr.cell? ⟨b, 1, none⟩ = some (.int .i64 x.block) := by simp [World.cell?, hs.box]
      have z2 : wr.cell? ⟨b, 2, none⟩ = some (.int .i64 x.dead) := by simp [World.cell?, hs.box]
      have z3 : wr.cell? ⟨b, 3, none⟩ = some (.int .i64 x.last) := by simp [World.cell?, hs.box]
      have HX := Lib.hid hx
      have y1 : (j : Int) < (n : Int) := by omega
      clear hx hb hkv hs q1 hT hB
      go_wp2_with (at_builtin; refine wpList_append_off rfl (.tmp 19) (.tmp 24) 30 30 29 rfl i29 _ 4 32 Try.underlying30 hi29 hz29 hs29 hb29 rfl _ j (flatS (t.l.take j)) rfl (offRow_same HR.out fun k hk => Below.heap_alloc _ _ _ hk) 1 [.int .i64 x.id, .int .i64 x.block, .int .i64 x.dead, .int .i64 x.last] (src_sess wr _ _ _ _) (by omega) (by unfold maxLen; omega) (by omega) ?_)
      intro v1 w1 ho1 hg1 hn1
      have HO1 := Lib.hid ho1
      have HG1 := Lib.hid hg1
      have HN1 := Lib.hid hn1
      clear ho1 hg1 hn1
      go_wp2_with fail
      have hS : flatS (t.l.take (j + 1)) = flatS (t.l.take j) ++ [.int .i64 x.id, .int .i64 x.block, .int .i64 x.dead, .int .i64 x.last] := by
        rw [List.take_add_one, HX.out, flatS_append]
        rfl
      refine ⟨⟨j + 1, by omega, by go_num, by rw [hS]; exact HO1.out, fun k hk => ?_, (HB.out.alloc HB.out.size _).grown HG1.out (Nat.le_trans HB.out.size (by simp)) HO.out⟩, by simp [intOf]; omega⟩
      rcases HN1.out with e | e
      · exact HO.out k (e ▸ hk)
      · rw [e] at hk
        have := HB.out.size
        simp at hk
        omega
    · have y1 : ¬ (j : Int) < (n : Int) := by omega
      go_wp2_with fail
      go_ret
      have hjn : j = n := by omega
      refine ⟨_, rfl, ?_, HO.out, HB.out⟩
      have := HR.out
      rw [hjn, HN.out, List.take_length] at this
      exact this
end Go.Proofs.Ytdikajbbolecoaa

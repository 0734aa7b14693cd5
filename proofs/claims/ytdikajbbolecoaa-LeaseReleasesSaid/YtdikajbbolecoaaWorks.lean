/-
  The fixed facts.
-/
import Derived.Test.YtdikajbbolecoaaSame
namespace Go.Proofs.Ytdikajbbolecoaa
open Go.RowKit
set_option linter.unusedVariables false
set_option linter.unusedSimpArgs false

/-- A table that is new is the call's own. -/
theorem own_new {w w' : World} {mo te : Nat} (h : TableAt w' w.heap.size emptyM (emptyT mo te)) (hb : Below w.heap.size w w') (h1 : 1 ≤ mo) (h2 : 1 ≤ te) (h3 : te ≤ 1000) {B : Nat} {w0 : World} (hB : B ≤ w.heap.size) (hb0 : Below B w0 w) :
    Own B w0 w' w.heap.size emptyM (emptyT mo te) := by
  refine ⟨h, fun k hk => ?_, inv_empty mo te h1 h2 h3, hb0.trans (hb.mono hB)⟩
  rcases hk with e | e | ⟨kv, hkv, e⟩ | e
  · omega
  · cases e
  · cases hkv
  · simp [emptyM, Value.ownBlock] at e

/-- A session in a cell of its own. -/
theorem box4 {w W : World} {x0 x1 x2 x3 : Value} (hW : w.alloc (.cells #[x0, x1, x2, x3] 29) = W) :
    Below w.heap.size w W ∧ W.heap[w.heap.size]? = some (.cells #[x0, x1, x2, x3] 29 (0, 0)) ∧ w.heap.size < W.heap.size := by
  rw [← hW]
  exact ⟨(Below.refl _ w).alloc (Nat.le_refl _) _, heap_alloc_new w _, by simp⟩

def xS : ByteArray := ⟨#[120]⟩
def ws1 : Tb := ⟨2, 3, 1, [⟨1, 7, 3, 0, []⟩], []⟩
def ws2 : Tb := ⟨2, 3, 1, [⟨1, 7, 3, 4, [(4, xS)]⟩], []⟩
def ws3 : Tb := ⟨2, 3, 1, [⟨1, 7, 5, 4, [(4, xS)]⟩], []⟩
def ws4 : Tb := ⟨2, 3, 1, [⟨1, 8, 5, 4, [(4, xS)]⟩], []⟩
def ws5 : Tb := ⟨2, 3, 1, [], [1]⟩
def ws6 : Tb := ⟨2, 3, 2, [⟨2, 1, 8, 0, []⟩], [1]⟩
def ws7 : Tb := ⟨2, 3, 2, [], [1]⟩
theorem wt1 : openS (emptyT 2 3) 7 0 = (ws1, 1, 0) := by kernel_rfl
theorem wt2 : findR ws1 1 2 = .tuple #[.agg #[.int .i64 1, .int .i64 7, .int .i64 3, .int .i64 0], .int .i64 0] := by kernel_rfl
theorem wt3 : findR ws1 1 3 = .tuple #[.agg #[.int .i64 0, .int .i64 0, .int .i64 0, .int .i64 0], .int .i64 6] := by kernel_rfl
theorem wt4 : findR ws1 9 0 = .tuple #[.agg #[.int .i64 0, .int .i64 0, .int .i64 0, .int .i64 0], .int .i64 5] := by kernel_rfl
theorem wt5 : storeS ws1 1 4 xS = (ws2, 0) := by kernel_rfl
theorem wt6 : replayS ws2 1 4 = (xS, 0) := by kernel_rfl
theorem wt7 : replayS ws2 1 5 = (⟨#[]⟩, 9) := by kernel_rfl
theorem wt8 : renewS ws2 1 2 = (ws3, 0) := by kernel_rfl
theorem wt9 : repinS ws3 1 8 4 = (ws4, 7, 0) := by kernel_rfl
theorem wt10 : keptN ws4.l = 1 := by kernel_rfl
theorem wt11 : expireS ws4 5 = (ws5, [⟨1, 8, 5, 4, [(4, xS)]⟩]) := by kernel_rfl
theorem wt12 : findR ws5 1 5 = .tuple #[.agg #[.int .i64 0, .int .i64 0, .int .i64 0, .int .i64 0], .int .i64 6] := by kernel_rfl
theorem wt13 : openS ws5 1 5 = (ws6, 2, 0) := by kernel_rfl
theorem wt14 : releaseS ws6 2 6 = (ws7, 1, 0) := by kernel_rfl

set_option maxHeartbeats 4000000 in
set_option maxRecDepth 100000 in
theorem works_any (w : World) : Calls Try.prog 7 #[] w fun e w' => e = .returned (.bool true) ∧ Below w.heap.size w w' := by
  have hB := Nat.le_refl w.heap.size
  have DN := Lib.hid (new_any 2 3 w (by omega) (by omega) (by omega) (by omega))
  rw [show mostI 2 = 2 from by unfold mostI; omega, show termI 3 = 3 from by unfold termI; omega] at DN
  go_enter Try.func7, Try.ntmps7
  go_wp2_with fail
  refine DN.out.mono ?_
  rintro e w1 ⟨rfl, hT, hb1⟩
  have hO : Own w.heap.size w w1 w.heap.size emptyM (emptyT 2 3) := own_new hT hb1 (by omega) (by omega) (by omega) hB (Below.refl _ w)
  clear hT DN
  have hs1 := hb1.size
  have D := hO.open_ hB 7 0 (by omega) (by omega)
  rw [wt1] at D
  have D := Lib.hid D
  have HOO := Lib.hid hO
  clear hO
  go_wp2_with fail
  refine D.out.mono ?_
  rintro e w2 ⟨rfl, m2, hO, hsz, hk⟩
  clear hk hsz D HOO
  have D := hO.find 1 2
  rw [wt2] at D
  have D := Lib.hid D
  have HOO := Lib.hid hO
  clear hO
  go_wp2_with fail
  refine D.out.mono ?_
  rintro e w3 ⟨rfl, hb⟩
  have hO := HOO.out.keep hB hb
  clear hb D HOO
  go_upto_region 6 with fail
  generalize hW : World.alloc w3 _ = w4
  obtain ⟨hb, hbx, hlt⟩ := box4 hW
  have MA := Lib.hid (hO.fresh (Nat.le_refl w3.heap.size))
  have hO := hO.keep hB hb
  obtain ⟨bA, hbn⟩ : ∃ b, b = w3.heap.size := ⟨_, rfl⟩
  rw [← hbn] at hbx MA ⊢
  have BA := Lib.hid hbx
  clear hW hb hbx hlt hbn
  have D := hO.find 1 3
  rw [wt3] at D
  have D := Lib.hid D
  have HOO := Lib.hid hO
  clear hO
  go_wp2_with fail
  refine D.out.mono ?_
  rintro e w5 ⟨rfl, hb⟩
  have hO := HOO.out.keep hB hb
  have BA := Lib.hid ((hb.block bA (lt_of_block BA.out)).trans BA.out)
  clear hb D HOO
  go_upto_region 7 with fail
  generalize hW : World.alloc w5 _ = w6
  obtain ⟨hb, hbx, hlt⟩ := box4 hW
  have MC := Lib.hid (hO.fresh (Nat.le_refl w5.heap.size))
  have hO := hO.keep hB hb
  have BA := Lib.hid ((hb.block bA (lt_of_block BA.out)).trans BA.out)
  obtain ⟨bC, hbn⟩ : ∃ b, b = w5.heap.size := ⟨_, rfl⟩
  rw [← hbn] at hbx MC ⊢
  have BC := Lib.hid hbx
  clear hW hb hbx hlt hbn
  have D := hO.find 9 0
  rw [wt4] at D
  have D := Lib.hid D
  have HOO := Lib.hid hO
  clear hO
  go_wp2_with fail
  refine D.out.mono ?_
  rintro e w7 ⟨rfl, hb⟩
  have hO := HOO.out.keep hB hb
  have BA := Lib.hid ((hb.block bA (lt_of_block BA.out)).trans BA.out)
  have BC := Lib.hid ((hb.block bC (lt_of_block BC.out)).trans BC.out)
  clear hb D HOO
  go_upto_region 8 with fail
  generalize hW : World.alloc w7 _ = w8
  obtain ⟨hb, hbx, hlt⟩ := box4 hW
  have ME := Lib.hid (hO.fresh (Nat.le_refl w7.heap.size))
  have hO := hO.keep hB hb
  have BA := Lib.hid ((hb.block bA (lt_of_block BA.out)).trans BA.out)
  have BC := Lib.hid ((hb.block bC (lt_of_block BC.out)).trans BC.out)
  obtain ⟨bE, hbn⟩ : ∃ b, b = w7.heap.size := ⟨_, rfl⟩
  rw [← hbn] at hbx ME ⊢
  have BE := Lib.hid hbx
  clear hW hb hbx hlt hbn
  have D := hO.store hB 1 4 xS
  rw [wt5] at D
  have D := Lib.hid D
  have HOO := Lib.hid hO
  clear hO
  go_wp2_with fail
  refine D.out.mono ?_
  rintro e w9 ⟨rfl, m9, hO, hsz, hk⟩
  have gA := hk bA (Nat.lt_of_lt_of_le (lt_of_block BA.out) (Nat.le_refl _)) MA.out
  have BA := Lib.hid (gA.1.trans BA.out)
  have MA := Lib.hid gA.2
  clear gA
  have gC := hk bC (Nat.lt_of_lt_of_le (lt_of_block BC.out) (Nat.le_refl _)) MC.out
  have BC := Lib.hid (gC.1.trans BC.out)
  have MC := Lib.hid gC.2
  clear gC
  have gE := hk bE (Nat.lt_of_lt_of_le (lt_of_block BE.out) (Nat.le_refl _)) ME.out
  have BE := Lib.hid (gE.1.trans BE.out)
  have ME := Lib.hid gE.2
  clear gE
  clear hk hsz D HOO
  have D := hO.replay 1 4
  rw [wt6] at D
  have D := Lib.hid D
  have HOO := Lib.hid hO
  clear hO
  go_wp2_with fail
  refine D.out.mono ?_
  rintro e w10 ⟨rfl, hb⟩
  have hO := HOO.out.keep hB hb
  have BA := Lib.hid ((hb.block bA (lt_of_block BA.out)).trans BA.out)
  have BC := Lib.hid ((hb.block bC (lt_of_block BC.out)).trans BC.out)
  have BE := Lib.hid ((hb.block bE (lt_of_block BE.out)).trans BE.out)
  clear hb D HOO
  have D := hO.replay 1 5
  rw [wt7] at D
  have D := Lib.hid D
  have HOO := Lib.hid hO
  clear hO
  go_wp2_with fail
  refine D.out.mono ?_
  rintro e w11 ⟨rfl, hb⟩
  have hO := HOO.out.keep hB hb
  have BA := Lib.hid ((hb.block bA (lt_of_block BA.out)).trans BA.out)
  have BC := Lib.hid ((hb.block bC (lt_of_block BC.out)).trans BC.out)
  have BE := Lib.hid ((hb.block bE (lt_of_block BE.out)).trans BE.out)
  clear hb D HOO
  have D := hO.renew hB 1 2 (by omega) (by omega)
  rw [wt8] at D
  have D := Lib.hid D
  have HOO := Lib.hid hO
  clear hO
  go_wp2_with fail
  refine D.out.mono ?_
  rintro e w12 ⟨rfl, m12, hO, hsz, hk⟩
  have gA := hk bA (Nat.lt_of_lt_of_le (lt_of_block BA.out) (Nat.le_refl _)) MA.out
  have BA := Lib.hid (gA.1.trans BA.out)
  have MA := Lib.hid gA.2
  clear gA
  have gC := hk bC (Nat.lt_of_lt_of_le (lt_of_block BC.out) (Nat.le_refl _)) MC.out
  have BC := Lib.hid (gC.1.trans BC.out)
  have MC := Lib.hid gC.2
  clear gC
  have gE := hk bE (Nat.lt_of_lt_of_le (lt_of_block BE.out) (Nat.le_refl _)) ME.out
  have BE := Lib.hid (gE.1.trans BE.out)
  have ME := Lib.hid gE.2
  clear gE
  clear hk hsz D HOO
  have D := hO.repin hB 1 8 4
  rw [wt9] at D
  have D := Lib.hid D
  have HOO := Lib.hid hO
  clear hO
  go_wp2_with fail
  refine D.out.mono ?_
  rintro e w13 ⟨rfl, m13, hO, hsz, hk⟩
  have gA := hk bA (Nat.lt_of_lt_of_le (lt_of_block BA.out) (Nat.le_refl _)) MA.out
  have BA := Lib.hid (gA.1.trans BA.out)
  have MA := Lib.hid gA.2
  clear gA
  have gC := hk bC (Nat.lt_of_lt_of_le (lt_of_block BC.out) (Nat.le_refl _)) MC.out
  have BC := Lib.hid (gC.1.trans BC.out)
  have MC := Lib.hid gC.2
  clear gC
  have gE := hk bE (Nat.lt_of_lt_of_le (lt_of_block BE.out) (Nat.le_refl _)) ME.out
  have BE := Lib.hid (gE.1.trans BE.out)
  have ME := Lib.hid gE.2
  clear gE
  clear hk hsz D HOO
  have D := hO.kept
  rw [wt10] at D
  have D := Lib.hid D
  have HOO := Lib.hid hO
  clear hO
  go_wp2_with fail
  refine D.out.mono ?_
  rintro e w14 ⟨rfl, q, hwq⟩
  have hb : Below w13.heap.size w13 w14 := by rw [hwq]; exact below_drewN _ q
  have hO := HOO.out.keep hB hb
  have BA := Lib.hid ((hb.block bA (lt_of_block BA.out)).trans BA.out)
  have BC := Lib.hid ((hb.block bC (lt_of_block BC.out)).trans BC.out)
  have BE := Lib.hid ((hb.block bE (lt_of_block BE.out)).trans BE.out)
  clear hb hwq D HOO
  have D := hO.expire hB 5
  rw [wt11] at D
  have D := Lib.hid D
  have HOO := Lib.hid hO
  clear hO
  go_wp2_with fail
  refine D.out.mono ?_
  rintro e w15 ⟨sv, rfl, hrow, hsv, m15, hO, hsz, hk, hnm⟩
  have gA := hk bA (Nat.lt_of_lt_of_le (lt_of_block BA.out) (Nat.le_refl _)) MA.out
  have BA := Lib.hid (gA.1.trans BA.out)
  have MA := Lib.hid gA.2
  clear gA
  have gC := hk bC (Nat.lt_of_lt_of_le (lt_of_block BC.out) (Nat.le_refl _)) MC.out
  have BC := Lib.hid (gC.1.trans BC.out)
  have MC := Lib.hid gC.2
  clear gC
  have gE := hk bE (Nat.lt_of_lt_of_le (lt_of_block BE.out) (Nat.le_refl _)) ME.out
  have BE := Lib.hid (gE.1.trans BE.out)
  have ME := Lib.hid gE.2
  clear gE
  clear hk hsz D HOO hsv
  obtain ⟨sa, sc, rfl⟩ := hrow.shape
  have HROW := Lib.hid hrow
  have HNM := Lib.hid hnm
  clear hrow hnm
  have D := hO.find 1 5
  rw [wt12] at D
  have D := Lib.hid D
  have HOO := Lib.hid hO
  clear hO
  go_wp2_with fail
  refine D.out.mono ?_
  rintro e w16 ⟨rfl, hb⟩
  have hO := HOO.out.keep hB hb
  have BA := Lib.hid ((hb.block bA (lt_of_block BA.out)).trans BA.out)
  have BC := Lib.hid ((hb.block bC (lt_of_block BC.out)).trans BC.out)
  have BE := Lib.hid ((hb.block bE (lt_of_block BE.out)).trans BE.out)
  have HROW := Lib.hid (HROW.out.kept fun k hk2 => hb.block k (HROW.out.lt k hk2))
  clear hb D HOO
  go_upto_region 16 with fail
  generalize hW : World.alloc w16 _ = w17
  obtain ⟨hb, hbx, hlt⟩ := box4 hW
  have MF := Lib.hid (hO.fresh (Nat.le_refl w16.heap.size))
  have hO := hO.keep hB hb
  have BA := Lib.hid ((hb.block bA (lt_of_block BA.out)).trans BA.out)
  have BC := Lib.hid ((hb.block bC (lt_of_block BC.out)).trans BC.out)
  have BE := Lib.hid ((hb.block bE (lt_of_block BE.out)).trans BE.out)
  have HROW := Lib.hid (HROW.out.kept fun k hk2 => hb.block k (HROW.out.lt k hk2))
  obtain ⟨bF, hbn⟩ : ∃ b, b = w16.heap.size := ⟨_, rfl⟩
  rw [← hbn] at hbx MF ⊢
  have BF := Lib.hid hbx
  clear hW hb hbx hlt hbn
  have D := hO.open_ hB 1 5 (by omega) (by omega)
  rw [wt13] at D
  have D := Lib.hid D
  have HOO := Lib.hid hO
  clear hO
  go_wp2_with fail
  refine D.out.mono ?_
  rintro e w18 ⟨rfl, m18, hO, hsz, hk⟩
  have gA := hk bA (Nat.lt_of_lt_of_le (lt_of_block BA.out) (Nat.le_refl _)) MA.out
  have BA := Lib.hid (gA.1.trans BA.out)
  have MA := Lib.hid gA.2
  clear gA
  have gC := hk bC (Nat.lt_of_lt_of_le (lt_of_block BC.out) (Nat.le_refl _)) MC.out
  have BC := Lib.hid (gC.1.trans BC.out)
  have MC := Lib.hid gC.2
  clear gC
  have gE := hk bE (Nat.lt_of_lt_of_le (lt_of_block BE.out) (Nat.le_refl _)) ME.out
  have BE := Lib.hid (gE.1.trans BE.out)
  have ME := Lib.hid gE.2
  clear gE
  have gF := hk bF (Nat.lt_of_lt_of_le (lt_of_block BF.out) (Nat.le_refl _)) MF.out
  have BF := Lib.hid (gF.1.trans BF.out)
  have MF := Lib.hid gF.2
  clear gF
  have HNM2 := Lib.hid (fun k hk2 => (hk k (HROW.out.lt k hk2) (HNM.out k hk2)).2)
  have HROW := Lib.hid (HROW.out.kept fun k hk2 => (hk k (HROW.out.lt k hk2) (HNM.out k hk2)).1)
  clear HNM
  have HNM := HNM2
  clear HNM2
  clear hk hsz D HOO
  have D := hO.release hB 2 6
  rw [wt14] at D
  have D := Lib.hid D
  have HOO := Lib.hid hO
  clear hO
  go_wp2_with fail
  refine D.out.mono ?_
  rintro e w19 ⟨rfl, m19, hO, hsz, hk⟩
  have gA := hk bA (Nat.lt_of_lt_of_le (lt_of_block BA.out) (Nat.le_refl _)) MA.out
  have BA := Lib.hid (gA.1.trans BA.out)
  have MA := Lib.hid gA.2
  clear gA
  have gC := hk bC (Nat.lt_of_lt_of_le (lt_of_block BC.out) (Nat.le_refl _)) MC.out
  have BC := Lib.hid (gC.1.trans BC.out)
  have MC := Lib.hid gC.2
  clear gC
  have gE := hk bE (Nat.lt_of_lt_of_le (lt_of_block BE.out) (Nat.le_refl _)) ME.out
  have BE := Lib.hid (gE.1.trans BE.out)
  have ME := Lib.hid gE.2
  clear gE
  have gF := hk bF (Nat.lt_of_lt_of_le (lt_of_block BF.out) (Nat.le_refl _)) MF.out
  have BF := Lib.hid (gF.1.trans BF.out)
  have MF := Lib.hid gF.2
  clear gF
  have HNM2 := Lib.hid (fun k hk2 => (hk k (HROW.out.lt k hk2) (HNM.out k hk2)).2)
  have HROW := Lib.hid (HROW.out.kept fun k hk2 => (hk k (HROW.out.lt k hk2) (HNM.out k hk2)).1)
  clear HNM
  have HNM := HNM2
  clear HNM2
  clear hk hsz D HOO
  have D := Lib.hid hO.all
  have cA : ∀ i u, (#[(.int .i64 1 : Value), .int .i64 7, .int .i64 3, .int .i64 0])[i]? = some u → w19.cell? ⟨bA, i, none⟩ = some u := fun i u hu => by simp only [World.cell?, BA.out]; exact hu
  have cA1 : w19.cell? ⟨bA, 1, none⟩ = some (.int .i64 7) := cA 1 _ rfl
  have cA2 : w19.cell? ⟨bA, 2, none⟩ = some (.int .i64 3) := cA 2 _ rfl
  obtain ⟨g, o, cap, hv, r0, r1, r2, r3⟩ := row_sess (i := 0) HROW.out rfl
  simp only [Value.slice.injEq] at hv
  obtain ⟨rfl, _, rfl⟩ := hv
  simp only [List.length_singleton, Nat.zero_mul, Nat.add_zero] at *
  clear cA r0 r2 r3
  have BL := Lib.hid hO.below
  clear hO
  unfold xS
  go_wp2_with fail
  refine D.out.mono ?_
  rintro e w' ⟨sv, rfl, hrow, _, hb⟩
  obtain ⟨sa', sc', rfl⟩ := hrow.shape
  have HB := Lib.hid hb
  clear hrow hb
  go_wp2_with fail
  go_ret
  exact ⟨rfl, BL.out.trans (HB.out.mono BL.out.size)⟩
end Go.Proofs.Ytdikajbbolecoaa

/-
  An act: the laws' own 'do'.
-/
import Derived.Test.YtdikajbbolecoaaOwn
import Derived.WalkMore
import Derived.ScopeJumps
import Derived.Deep.CutBlock
import Derived.Deep.DeepCutAuto
namespace Go.Proofs.Ytdikajbbolecoaa
open Go.RowKit
set_option linter.unusedVariables false
set_option linter.unusedSimpArgs false

def doT (t : Tb) (a : ActD) : Tb :=
  if a.K = 0 then (openS t a.Block a.Clock).1 else if a.K = 1 then t else if a.K = 2 then (renewS t a.Id a.Clock).1 else if a.K = 3 then (repinS t a.Id a.Block a.Clock).1
  else if a.K = 4 then (releaseS t a.Id a.Clock).1 else if a.K = 5 then (expireS t a.Clock).1 else if a.K = 6 then (storeS t a.Id a.Seq a.Text).1 else t

structure Same5 (b : Nat) (w w' : World) : Prop where
  os : w'.os = w.os
  tape : w'.tape = w.tape
  output : w'.output = w.output
  size : w'.heap.size = w.heap.size
  block : ∀ k, k ≠ b → w'.heap[k]? = w.heap[k]?
theorem Same5.set (b c : Nat) (w : World) (u : Value) : Same5 b w (w.setCell ⟨b, c, none⟩ u) := ⟨rfl, rfl, rfl, by simp, fun k hk => Below.heap_setCell _ _ _ _ hk⟩
theorem Same5.trans {b : Nat} {w1 w2 w3 : World} (h : Same5 b w1 w2) (h' : Same5 b w2 w3) : Same5 b w1 w3 := ⟨h'.os.trans h.os, h'.tape.trans h.tape, h'.output.trans h.output, h'.size.trans h.size, fun k hk => (h'.block k hk).trans (h.block k hk)⟩

def zero8 : Obj := .cells #[.int .i64 0, .int .i64 0, .string ⟨#[]⟩, .int .i64 0, .int .i64 0, .int .i64 0, .int .i64 0, .slice none 0 0] 32 (0, 0)

/-- What stands behind the switch: the answer, in a cell of its own; the table. -/
def DoR (B : Nat) (w0 w : World) (tb : Nat) (m : Mem) (t : Tb) (a : ActD) (wx : World) : Prop :=
  ∃ (E N : Int) (s : ByteArray) (S0 S1 S2 S3 : Int) (all : Value) (m' : Mem), wx.heap[w.heap.size + 2]? = some (.cells #[.int .i64 E, .int .i64 N, .string s, .int .i64 S0, .int .i64 S1, .int .i64 S2, .int .i64 S3, all] 32 (0, 0)) ∧ (∃ g c d, all = .slice g c d) ∧ wx.heap[w.heap.size + 1]? = some zero8 ∧
    (a.K = 0 → E = (openS t a.Block a.Clock).2.2 ∧ N = (openS t a.Block a.Clock).2.1) ∧ Own B w0 wx tb m' (doT t a) ∧ w.heap.size + 3 ≤ wx.heap.size ∧ (∀ k, k < w.heap.size → ¬ Mine tb m k → wx.heap[k]? = w.heap[k]? ∧ ¬ Mine tb m' k) ∧ ¬ Mine tb m' (w.heap.size + 1)

def DoPost (B : Nat) (w0 w : World) (tb : Nat) (m : Mem) (t : Tb) (a : ActD) (e : Ending) (w' : World) : Prop :=
  ∃ (E N : Int) (s : ByteArray) (S0 S1 S2 S3 : Int) (all : Value), e = .returned (.agg #[.int .i64 E, .int .i64 N, .string s, .int .i64 S0, .int .i64 S1, .int .i64 S2, .int .i64 S3, all]) ∧ (∃ g c d, all = .slice g c d) ∧
    (a.K = 0 → E = (openS t a.Block a.Clock).2.2 ∧ N = (openS t a.Block a.Clock).2.1) ∧ ∃ m', Own B w0 w' tb m' (doT t a) ∧ w.heap.size ≤ w'.heap.size ∧ ∀ k, k < w.heap.size → ¬ Mine tb m k → w'.heap[k]? = w.heap[k]? ∧ ¬ Mine tb m' k

theorem do_meet {B : Nat} {w0 w w3 w' wx : World} {tb : Nat} {m m' : Mem} {t : Tb} {a : ActD} {E N : Int} {s : ByteArray} {S0 S1 S2 S3 : Int} {all : Value} (hBs : B ≤ w.heap.size) (h3 : Below w.heap.size w w3) (hs3 : w.heap.size + 3 ≤ w3.heap.size)
    (hO3 : Own B w0 w3 tb m t) (hmine : ∀ k, w.heap.size ≤ k → ¬ Mine tb m k)
    (hO : Own B w0 w' tb m' (doT t a)) (hsz : w3.heap.size ≤ w'.heap.size) (hk : ∀ k, k < w3.heap.size → ¬ Mine tb m k → w'.heap[k]? = w3.heap[k]? ∧ ¬ Mine tb m' k) (h4 : w3.heap[w.heap.size + 1]? = some zero8)
    (h5 : Same5 (w.heap.size + 2) w' wx) (hb : wx.heap[w.heap.size + 2]? = some (.cells #[.int .i64 E, .int .i64 N, .string s, .int .i64 S0, .int .i64 S1, .int .i64 S2, .int .i64 S3, all] 32 (0, 0))) (hal : ∃ g c d, all = .slice g c d)
    (hEN : a.K = 0 → E = (openS t a.Block a.Clock).2.2 ∧ N = (openS t a.Block a.Clock).2.1) : DoR B w0 w tb m t a wx := by
  have hm5 : ¬ Mine tb m' (w.heap.size + 2) := (hk _ (by omega) (hmine _ (by omega))).2
  refine ⟨E, N, s, S0, S1, S2, S3, all, m', hb, hal, ?_, hEN, ⟨hO.at_.kept fun k hk2 => h5.block k (by rintro rfl; exact hm5 hk2), hO.mine, hO.inv, hO.below.trans ⟨h5.os, h5.tape, h5.output, by rw [h5.size]; exact Nat.le_refl _, fun k hk2 => h5.block k (by omega)⟩⟩, by rw [h5.size]; omega, fun k hk2 hm => ?_, (hk _ (by omega) (hmine _ (by omega))).2⟩
  · rw [h5.block _ (by omega), (hk _ (by omega) (hmine _ (by omega))).1]
    exact h4
  · obtain ⟨g1, g2⟩ := hk k (by omega) hm
    exact ⟨(h5.block k (by omega)).trans (g1.trans (h3.block k hk2)), g2⟩

theorem own_keep_of {B : Nat} {w0 w w' : World} {tb : Nat} {m : Mem} {t : Tb} (h : Own B w0 w tb m t) (hB : B ≤ w0.heap.size) (hb : Below w.heap.size w w') : Own B w0 w' tb m t ∧ w.heap.size ≤ w'.heap.size ∧ ∀ k, k < w.heap.size → ¬ Mine tb m k → w'.heap[k]? = w.heap[k]? ∧ ¬ Mine tb m k :=
  ⟨h.keep hB hb, hb.size, fun k hk hm => ⟨hb.block k hk, hm⟩⟩

theorem findR_shape (t : Tb) (id clock : Int) : ∃ a b c d e : Int, findR t id clock = .tuple #[.agg #[.int .i64 a, .int .i64 b, .int .i64 c, .int .i64 d], .int .i64 e] := by
  unfold findR
  split
  · split <;> exact ⟨_, _, _, _, _, rfl⟩
  · exact ⟨_, _, _, _, _, rfl⟩

theorem set8 {w : World} {b : Nat} {a0 a1 a2 a3 a4 a5 a6 a7 : Value} (h : w.heap[b]? = some (.cells #[a0, a1, a2, a3, a4, a5, a6, a7] 32 (0, 0))) (x0 x1 x2 x3 x4 x5 x6 x7 : Value) :
    ((((((((w.setCell ⟨b, 0, none⟩ x0).setCell ⟨b, 1, none⟩ x1).setCell ⟨b, 2, none⟩ x2).setCell ⟨b, 3, none⟩ x3).setCell ⟨b, 4, none⟩ x4).setCell ⟨b, 5, none⟩ x5).setCell ⟨b, 6, none⟩ x6).setCell ⟨b, 7, none⟩ x7).heap[b]? = some (.cells #[x0, x1, x2, x3, x4, x5, x6, x7] 32 (0, 0)) := by
  have h0 : (w.setCell ⟨b, 0, none⟩ x0).heap[b]? = some (.cells #[x0, a1, a2, a3, a4, a5, a6, a7] 32 (0, 0)) := by simp only [World.setCell, Array.getElem?_modify, if_pos rfl, h]; rfl
  generalize w.setCell ⟨b, 0, none⟩ x0 = w0 at *
  have h1 : (w0.setCell ⟨b, 1, none⟩ x1).heap[b]? = some (.cells #[x0, x1, a2, a3, a4, a5, a6, a7] 32 (0, 0)) := by simp only [World.setCell, Array.getElem?_modify, if_pos rfl, h0]; rfl
  generalize w0.setCell ⟨b, 1, none⟩ x1 = w1 at *
  have h2 : (w1.setCell ⟨b, 2, none⟩ x2).heap[b]? = some (.cells #[x0, x1, x2, a3, a4, a5, a6, a7] 32 (0, 0)) := by simp only [World.setCell, Array.getElem?_modify, if_pos rfl, h1]; rfl
  generalize w1.setCell ⟨b, 2, none⟩ x2 = w2 at *
  have h3 : (w2.setCell ⟨b, 3, none⟩ x3).heap[b]? = some (.cells #[x0, x1, x2, x3, a4, a5, a6, a7] 32 (0, 0)) := by simp only [World.setCell, Array.getElem?_modify, if_pos rfl, h2]; rfl
  generalize w2.setCell ⟨b, 3, none⟩ x3 = w3 at *
  have h4 : (w3.setCell ⟨b, 4, none⟩ x4).heap[b]? = some (.cells #[x0, x1, x2, x3, x4, a5, a6, a7] 32 (0, 0)) := by simp only [World.setCell, Array.getElem?_modify, if_pos rfl, h3]; rfl
  generalize w3.setCell ⟨b, 4, none⟩ x4 = w4 at *
  have h5 : (w4.setCell ⟨b, 5, none⟩ x5).heap[b]? = some (.cells #[x0, x1, x2, x3, x4, x5, a6, a7] 32 (0, 0)) := by simp only [World.setCell, Array.getElem?_modify, if_pos rfl, h4]; rfl
  generalize w4.setCell ⟨b, 5, none⟩ x5 = w5 at *
  have h6 : (w5.setCell ⟨b, 6, none⟩ x6).heap[b]? = some (.cells #[x0, x1, x2, x3, x4, x5, x6, a7] 32 (0, 0)) := by simp only [World.setCell, Array.getElem?_modify, if_pos rfl, h5]; rfl
  generalize w5.setCell ⟨b, 6, none⟩ x6 = w6 at *
  simp only [World.setCell, Array.getElem?_modify, if_pos rfl, h6]
  rfl
theorem same8 (b : Nat) (w : World) (x0 x1 x2 x3 x4 x5 x6 x7 : Value) : Same5 b w ((((((((w.setCell ⟨b, 0, none⟩ x0).setCell ⟨b, 1, none⟩ x1).setCell ⟨b, 2, none⟩ x2).setCell ⟨b, 3, none⟩ x3).setCell ⟨b, 4, none⟩ x4).setCell ⟨b, 5, none⟩ x5).setCell ⟨b, 6, none⟩ x6).setCell ⟨b, 7, none⟩ x7) :=
  (((((((Same5.set b 0 w _).trans (Same5.set _ 1 _ _)).trans (Same5.set _ 2 _ _)).trans (Same5.set _ 3 _ _)).trans (Same5.set _ 4 _ _)).trans (Same5.set _ 5 _ _)).trans (Same5.set _ 6 _ _)).trans (Same5.set _ 7 _ _)

set_option maxHeartbeats 4000000 in
set_option maxRecDepth 100000 in
theorem do_any (B : Nat) (w0 w : World) (tb : Nat) (m : Mem) (t : Tb) (a : ActD) (h : Own B w0 w tb m t) (hB : B ≤ w0.heap.size) (hf : Fit a) :
    Calls Try.prog 10 #[.pointer (some ⟨tb, 0, none⟩), a.val] w (DoPost B w0 w tb m t a) := by
  have hBs : B ≤ w.heap.size := Nat.le_trans hB h.below.size
  have hmine : ∀ k, w.heap.size ≤ k → ¬ Mine tb m k := fun k hk => h.fresh hk
  obtain ⟨w3, hw3⟩ : ∃ w3, w3 = ((w.alloc (.cells #[.int .i64 a.K, .int .i64 a.Id, .int .i64 a.Block, .int .i64 a.Clock, .int .i64 a.Seq, .string a.Text] 35)).alloc zero8).alloc zero8 := ⟨_, rfl⟩
  have h3 : Below w.heap.size w w3 := by
    rw [hw3]
    exact (((Below.refl _ w).alloc (Nat.le_refl _) _).alloc (by simp) _).alloc (by simp; omega) _
  have hs3 : w.heap.size + 3 ≤ w3.heap.size := by rw [hw3]; simp
  have hO3 : Own B w0 w3 tb m t := h.keep hB h3
  have e3 : w3.heap[w.heap.size]? = some (.cells #[.int .i64 a.K, .int .i64 a.Id, .int .i64 a.Block, .int .i64 a.Clock, .int .i64 a.Seq, .string a.Text] 35 (0, 0)) := by
    rw [hw3, Below.heap_alloc _ _ _ (by simp; omega), Below.heap_alloc _ _ _ (by simp)]
    exact heap_alloc_new w _
  have e4 : w3.heap[w.heap.size + 1]? = some zero8 := by
    rw [hw3, Below.heap_alloc _ _ _ (by simp)]
    simpa using heap_alloc_new (w.alloc (.cells #[.int .i64 a.K, .int .i64 a.Id, .int .i64 a.Block, .int .i64 a.Clock, .int .i64 a.Seq, .string a.Text] 35)) zero8
  have e5 : w3.heap[w.heap.size + 2]? = some zero8 := by
    rw [hw3]
    simpa using heap_alloc_new ((w.alloc (.cells #[.int .i64 a.K, .int .i64 a.Id, .int .i64 a.Block, .int .i64 a.Clock, .int .i64 a.Seq, .string a.Text] 35)).alloc zero8) zero8
  obtain ⟨K, Id, Block, Clock, Seq, Text⟩ := a
  have ME := Lib.hid (fun (m' : Mem) (w' wx : World) (E N : Int) (s : ByteArray) (S0 S1 S2 S3 : Int) (all : Value) (hp : Own B w0 w' tb m' (doT t ⟨K, Id, Block, Clock, Seq, Text⟩) ∧ w3.heap.size ≤ w'.heap.size ∧ ∀ k, k < w3.heap.size → ¬ Mine tb m k → w'.heap[k]? = w3.heap[k]? ∧ ¬ Mine tb m' k) h5 hb hal hEN =>
    do_meet (wx := wx) (E := E) (N := N) (s := s) (S0 := S0) (S1 := S1) (S2 := S2) (S3 := S3) (all := all) hBs h3 hs3 hO3 hmine hp.1 hp.2.1 hp.2.2 e4 h5 hb hal hEN)
  have c3 : ∀ i u, (#[(.int .i64 K : Value), .int .i64 Id, .int .i64 Block, .int .i64 Clock, .int .i64 Seq, .string Text])[i]? = some u → w3.cell? ⟨w.heap.size, i, none⟩ = some u := fun i u hu => by simp only [World.cell?, e3]; exact hu
  have k0 := c3 0 _ rfl
  have k1 := c3 1 _ rfl
  have k2 := c3 2 _ rfl
  have k3 := c3 3 _ rfl
  have k4 := c3 4 _ rfl
  have k5 := c3 5 _ rfl
  have E5 := Lib.hid (fun (m' : Mem) (w' : World) (hk : ∀ k, k < w3.heap.size → ¬ Mine tb m k → w'.heap[k]? = w3.heap[k]? ∧ ¬ Mine tb m' k) => (hk (w.heap.size + 2) (by omega) (hmine _ (by omega))).1.trans e5)
  have D0 := Lib.hid (hO3.open_ hB Block Clock hf.2.1 hf.2.2.1)
  have D1 := Lib.hid (hO3.find Id Clock)
  have D2 := Lib.hid (hO3.renew hB Id Clock hf.2.1 hf.2.2.1)
  have D3 := Lib.hid (hO3.repin hB Id Block Clock)
  have D4 := Lib.hid (hO3.release hB Id Clock)
  have D5 := Lib.hid (hO3.expire hB Clock)
  have D6 := Lib.hid (hO3.store hB Id Seq Text)
  have D7 := Lib.hid (hO3.replay Id Seq)
  have KO := Lib.hid (fun (w' : World) (hb : Below w3.heap.size w3 w') => own_keep_of hO3 hB hb)
  have HW3 := Lib.hid hw3
  unfold zero8 at HW3
  have HBS := Lib.hid hBs
  unfold ActD.val
  dsimp only
  clear h hB hf hmine h3 hs3 hO3 e3 e4 e5 c3 hw3 hBs
  go_enter Try.func10, Try.ntmps10
  go_upto_block 0 with fail
  rw [← HW3.out]
  go_cut [8] (fun s8 wx => DoR B w0 w tb m t ⟨K, Id, Block, Clock, Seq, Text⟩ wx)
  case first =>
    by_cases h0 : K = 0
    · skip
      have b0 : (K == 0) = true := by rw [beq_iff_eq]; exact h0
      have hd : doT t ⟨K, Id, Block, Clock, Seq, Text⟩ = (openS t Block Clock).1 := by
        unfold doT
        simp only [if_pos h0]
      have HD := Lib.hid hd
      clear hd h0 D1 D2 D3 D4 D5 D6 D7
      go_wp2_with fail
      refine D0.out.mono ?_
      rintro e w' ⟨rfl, m', hp⟩
      rw [← HD.out] at hp
      have e5 := E5.out m' w' hp.2.2
      unfold zero8 at e5
      have k : ∀ i u, (#[(.int .i64 0 : Value), .int .i64 0, .string ⟨#[]⟩, .int .i64 0, .int .i64 0, .int .i64 0, .int .i64 0, .slice none 0 0])[i]? = some u → w'.cell? ⟨w.heap.size + 2, i, none⟩ = some u := fun i u hu => by simp only [World.cell?, e5]; exact hu
      have z0 : w'.cell? ⟨w.heap.size + 1 + 1, 0, none⟩ = _ := k 0 _ rfl
      have z1 : w'.cell? ⟨w.heap.size + 1 + 1, 1, none⟩ = _ := k 1 _ rfl
      have z2 : w'.cell? ⟨w.heap.size + 1 + 1, 2, none⟩ = _ := k 2 _ rfl
      have z3 : w'.cell? ⟨w.heap.size + 1 + 1, 3, none⟩ = _ := k 3 _ rfl
      have z4 : w'.cell? ⟨w.heap.size + 1 + 1, 4, none⟩ = _ := k 4 _ rfl
      have z5 : w'.cell? ⟨w.heap.size + 1 + 1, 5, none⟩ = _ := k 5 _ rfl
      have z6 : w'.cell? ⟨w.heap.size + 1 + 1, 6, none⟩ = _ := k 6 _ rfl
      have z7 : w'.cell? ⟨w.heap.size + 1 + 1, 7, none⟩ = _ := k 7 _ rfl
      have fz : ∀ i, w'.frozen? ⟨w.heap.size + 1 + 1, i, none⟩ = false := fun i => by simp only [World.frozen?]; erw [e5]; rfl
      have HP := Lib.hid hp
      have HE5 := Lib.hid e5
      clear hp e5 k
      go_wp2_with fail
      go_meet
      exact ME.out m' w' _ _ _ _ _ _ _ _ _ HP.out ((Same5.set _ 1 _ _).trans (Same5.set _ 0 _ _)) (by simp only [World.setCell, Array.getElem?_modify, if_pos rfl, HE5.out]; rfl) ⟨_, _, _, rfl⟩ (fun _ => ⟨rfl, rfl⟩)
    by_cases h1 : K = 1
    · skip
      have b0 : (K == 0) = false := by rw [beq_eq_false_iff_ne]; exact h0
      have b1 : (K == 1) = true := by rw [beq_iff_eq]; exact h1
      have hd : doT t ⟨K, Id, Block, Clock, Seq, Text⟩ = t := by
        unfold doT
        simp only [if_neg h0, if_pos h1]
      have HD := Lib.hid hd
      have HK := Lib.hid h0
      clear hd h0 h1 D0 D2 D3 D4 D5 D6 D7
      obtain ⟨f0, f1, f2, f3, f4, hfr⟩ := findR_shape t Id Clock
      rw [hfr] at D1
      clear hfr
      go_wp2_with fail
      refine D1.out.mono ?_
      rintro e w' ⟨rfl, hb⟩
      have hp := KO.out w' hb
      rw [← HD.out] at hp
      clear hb
      have e5 := E5.out m w' hp.2.2
      unfold zero8 at e5
      have k : ∀ i u, (#[(.int .i64 0 : Value), .int .i64 0, .string ⟨#[]⟩, .int .i64 0, .int .i64 0, .int .i64 0, .int .i64 0, .slice none 0 0])[i]? = some u → w'.cell? ⟨w.heap.size + 2, i, none⟩ = some u := fun i u hu => by simp only [World.cell?, e5]; exact hu
      have z0 : w'.cell? ⟨w.heap.size + 1 + 1, 0, none⟩ = _ := k 0 _ rfl
      have z1 : w'.cell? ⟨w.heap.size + 1 + 1, 1, none⟩ = _ := k 1 _ rfl
      have z2 : w'.cell? ⟨w.heap.size + 1 + 1, 2, none⟩ = _ := k 2 _ rfl
      have z3 : w'.cell? ⟨w.heap.size + 1 + 1, 3, none⟩ = _ := k 3 _ rfl
      have z4 : w'.cell? ⟨w.heap.size + 1 + 1, 4, none⟩ = _ := k 4 _ rfl
      have z5 : w'.cell? ⟨w.heap.size + 1 + 1, 5, none⟩ = _ := k 5 _ rfl
      have z6 : w'.cell? ⟨w.heap.size + 1 + 1, 6, none⟩ = _ := k 6 _ rfl
      have z7 : w'.cell? ⟨w.heap.size + 1 + 1, 7, none⟩ = _ := k 7 _ rfl
      have fz : ∀ i, w'.frozen? ⟨w.heap.size + 1 + 1, i, none⟩ = false := fun i => by simp only [World.frozen?]; erw [e5]; rfl
      have HP := Lib.hid hp
      have HE5 := Lib.hid e5
      clear hp e5 k
      go_wp2_with fail
      go_meet
      exact ME.out m w' _ _ _ _ _ _ _ _ _ HP.out (((((Same5.set _ 3 _ _).trans (Same5.set _ 4 _ _)).trans (Same5.set _ 5 _ _)).trans (Same5.set _ 6 _ _)).trans (Same5.set _ 0 _ _)) (by simp only [World.setCell, Array.getElem?_modify, if_pos rfl, HE5.out]; rfl) ⟨_, _, _, rfl⟩ (fun e => absurd e HK.out)
    by_cases h2 : K = 2
    · skip
      have b0 : (K == 0) = false := by rw [beq_eq_false_iff_ne]; exact h0
      have b1 : (K == 1) = false := by rw [beq_eq_false_iff_ne]; exact h1
      have b2 : (K == 2) = true := by rw [beq_iff_eq]; exact h2
      have hd : doT t ⟨K, Id, Block, Clock, Seq, Text⟩ = (renewS t Id Clock).1 := by
        unfold doT
        simp only [if_neg h0, if_neg h1, if_pos h2]
      have HD := Lib.hid hd
      have HK := Lib.hid h0
      clear hd h0 h1 h2 D0 D1 D3 D4 D5 D6 D7
      go_wp2_with fail
      refine D2.out.mono ?_
      rintro e w' ⟨rfl, m', hp⟩
      rw [← HD.out] at hp
      have e5 := E5.out m' w' hp.2.2
      unfold zero8 at e5
      have k : ∀ i u, (#[(.int .i64 0 : Value), .int .i64 0, .string ⟨#[]⟩, .int .i64 0, .int .i64 0, .int .i64 0, .int .i64 0, .slice none 0 0])[i]? = some u → w'.cell? ⟨w.heap.size + 2, i, none⟩ = some u := fun i u hu => by simp only [World.cell?, e5]; exact hu
      have z0 : w'.cell? ⟨w.heap.size + 1 + 1, 0, none⟩ = _ := k 0 _ rfl
      have z1 : w'.cell? ⟨w.heap.size + 1 + 1, 1, none⟩ = _ := k 1 _ rfl
      have z2 : w'.cell? ⟨w.heap.size + 1 + 1, 2, none⟩ = _ := k 2 _ rfl
      have z3 : w'.cell? ⟨w.heap.size + 1 + 1, 3, none⟩ = _ := k 3 _ rfl
      have z4 : w'.cell? ⟨w.heap.size + 1 + 1, 4, none⟩ = _ := k 4 _ rfl
      have z5 : w'.cell? ⟨w.heap.size + 1 + 1, 5, none⟩ = _ := k 5 _ rfl
      have z6 : w'.cell? ⟨w.heap.size + 1 + 1, 6, none⟩ = _ := k 6 _ rfl
      have z7 : w'.cell? ⟨w.heap.size + 1 + 1, 7, none⟩ = _ := k 7 _ rfl
      have fz : ∀ i, w'.frozen? ⟨w.heap.size + 1 + 1, i, none⟩ = false := fun i => by simp only [World.frozen?]; erw [e5]; rfl
      have HP := Lib.hid hp
      have HE5 := Lib.hid e5
      clear hp e5 k
      go_wp2_with fail
      go_meet
      exact ME.out m' w' _ _ _ _ _ _ _ _ _ HP.out (Same5.set _ 0 _ _) (by simp only [World.setCell, Array.getElem?_modify, if_pos rfl, HE5.out]; rfl) ⟨_, _, _, rfl⟩ (fun e => absurd e HK.out)
    by_cases h3 : K = 3
    · skip
      have b0 : (K == 0) = false := by rw [beq_eq_false_iff_ne]; exact h0
      have b1 : (K == 1) = false := by rw [beq_eq_false_iff_ne]; exact h1
      have b2 : (K == 2) = false := by rw [beq_eq_false_iff_ne]; exact h2
      have b3 : (K == 3) = true := by rw [beq_iff_eq]; exact h3
      have hd : doT t ⟨K, Id, Block, Clock, Seq, Text⟩ = (repinS t Id Block Clock).1 := by
        unfold doT
        simp only [if_neg h0, if_neg h1, if_neg h2, if_pos h3]
      have HD := Lib.hid hd
      have HK := Lib.hid h0
      clear hd h0 h1 h2 h3 D0 D1 D2 D4 D5 D6 D7
      go_wp2_with fail
      refine D3.out.mono ?_
      rintro e w' ⟨rfl, m', hp⟩
      rw [← HD.out] at hp
      have e5 := E5.out m' w' hp.2.2
      unfold zero8 at e5
      have k : ∀ i u, (#[(.int .i64 0 : Value), .int .i64 0, .string ⟨#[]⟩, .int .i64 0, .int .i64 0, .int .i64 0, .int .i64 0, .slice none 0 0])[i]? = some u → w'.cell? ⟨w.heap.size + 2, i, none⟩ = some u := fun i u hu => by simp only [World.cell?, e5]; exact hu
      have z0 : w'.cell? ⟨w.heap.size + 1 + 1, 0, none⟩ = _ := k 0 _ rfl
      have z1 : w'.cell? ⟨w.heap.size + 1 + 1, 1, none⟩ = _ := k 1 _ rfl
      have z2 : w'.cell? ⟨w.heap.size + 1 + 1, 2, none⟩ = _ := k 2 _ rfl
      have z3 : w'.cell? ⟨w.heap.size + 1 + 1, 3, none⟩ = _ := k 3 _ rfl
      have z4 : w'.cell? ⟨w.heap.size + 1 + 1, 4, none⟩ = _ := k 4 _ rfl
      have z5 : w'.cell? ⟨w.heap.size + 1 + 1, 5, none⟩ = _ := k 5 _ rfl
      have z6 : w'.cell? ⟨w.heap.size + 1 + 1, 6, none⟩ = _ := k 6 _ rfl
      have z7 : w'.cell? ⟨w.heap.size + 1 + 1, 7, none⟩ = _ := k 7 _ rfl
      have fz : ∀ i, w'.frozen? ⟨w.heap.size + 1 + 1, i, none⟩ = false := fun i => by simp only [World.frozen?]; erw [e5]; rfl
      have HP := Lib.hid hp
      have HE5 := Lib.hid e5
      clear hp e5 k
      go_wp2_with fail
      go_meet
      exact ME.out m' w' _ _ _ _ _ _ _ _ _ HP.out ((Same5.set _ 1 _ _).trans (Same5.set _ 0 _ _)) (by simp only [World.setCell, Array.getElem?_modify, if_pos rfl, HE5.out]; rfl) ⟨_, _, _, rfl⟩ (fun e => absurd e HK.out)
    by_cases h4 : K = 4
    · skip
      have b0 : (K == 0) = false := by rw [beq_eq_false_iff_ne]; exact h0
      have b1 : (K == 1) = false := by rw [beq_eq_false_iff_ne]; exact h1
      have b2 : (K == 2) = false := by rw [beq_eq_false_iff_ne]; exact h2
      have b3 : (K == 3) = false := by rw [beq_eq_false_iff_ne]; exact h3
      have b4 : (K == 4) = true := by rw [beq_iff_eq]; exact h4
      have hd : doT t ⟨K, Id, Block, Clock, Seq, Text⟩ = (releaseS t Id Clock).1 := by
        unfold doT
        simp only [if_neg h0, if_neg h1, if_neg h2, if_neg h3, if_pos h4]
      have HD := Lib.hid hd
      have HK := Lib.hid h0
      clear hd h0 h1 h2 h3 h4 D0 D1 D2 D3 D5 D6 D7
      go_wp2_with fail
      refine D4.out.mono ?_
      rintro e w' ⟨rfl, m', hp⟩
      rw [← HD.out] at hp
      have e5 := E5.out m' w' hp.2.2
      unfold zero8 at e5
      have k : ∀ i u, (#[(.int .i64 0 : Value), .int .i64 0, .string ⟨#[]⟩, .int .i64 0, .int .i64 0, .int .i64 0, .int .i64 0, .slice none 0 0])[i]? = some u → w'.cell? ⟨w.heap.size + 2, i, none⟩ = some u := fun i u hu => by simp only [World.cell?, e5]; exact hu
      have z0 : w'.cell? ⟨w.heap.size + 1 + 1, 0, none⟩ = _ := k 0 _ rfl
      have z1 : w'.cell? ⟨w.heap.size + 1 + 1, 1, none⟩ = _ := k 1 _ rfl
      have z2 : w'.cell? ⟨w.heap.size + 1 + 1, 2, none⟩ = _ := k 2 _ rfl
      have z3 : w'.cell? ⟨w.heap.size + 1 + 1, 3, none⟩ = _ := k 3 _ rfl
      have z4 : w'.cell? ⟨w.heap.size + 1 + 1, 4, none⟩ = _ := k 4 _ rfl
      have z5 : w'.cell? ⟨w.heap.size + 1 + 1, 5, none⟩ = _ := k 5 _ rfl
      have z6 : w'.cell? ⟨w.heap.size + 1 + 1, 6, none⟩ = _ := k 6 _ rfl
      have z7 : w'.cell? ⟨w.heap.size + 1 + 1, 7, none⟩ = _ := k 7 _ rfl
      have fz : ∀ i, w'.frozen? ⟨w.heap.size + 1 + 1, i, none⟩ = false := fun i => by simp only [World.frozen?]; erw [e5]; rfl
      have HP := Lib.hid hp
      have HE5 := Lib.hid e5
      clear hp e5 k
      go_wp2_with fail
      go_meet
      exact ME.out m' w' _ _ _ _ _ _ _ _ _ HP.out ((Same5.set _ 1 _ _).trans (Same5.set _ 0 _ _)) (by simp only [World.setCell, Array.getElem?_modify, if_pos rfl, HE5.out]; rfl) ⟨_, _, _, rfl⟩ (fun e => absurd e HK.out)
    by_cases h5 : K = 5
    · skip
      have b0 : (K == 0) = false := by rw [beq_eq_false_iff_ne]; exact h0
      have b1 : (K == 1) = false := by rw [beq_eq_false_iff_ne]; exact h1
      have b2 : (K == 2) = false := by rw [beq_eq_false_iff_ne]; exact h2
      have b3 : (K == 3) = false := by rw [beq_eq_false_iff_ne]; exact h3
      have b4 : (K == 4) = false := by rw [beq_eq_false_iff_ne]; exact h4
      have b5 : (K == 5) = true := by rw [beq_iff_eq]; exact h5
      have hd : doT t ⟨K, Id, Block, Clock, Seq, Text⟩ = (expireS t Clock).1 := by
        unfold doT
        simp only [if_neg h0, if_neg h1, if_neg h2, if_neg h3, if_neg h4, if_pos h5]
      have HD := Lib.hid hd
      have HK := Lib.hid h0
      clear hd h0 h1 h2 h3 h4 h5 D0 D1 D2 D3 D4 D6 D7
      go_wp2_with fail
      refine D5.out.mono ?_
      rintro e w' ⟨sv, rfl, hrow, _, m', g1, g2, g3, _⟩
      have hp := And.intro g1 (And.intro g2 g3)
      rw [← HD.out] at hp
      obtain ⟨ga, gc, rfl⟩ := hrow.shape
      clear hrow g1 g2 g3
      have e5 := E5.out m' w' hp.2.2
      unfold zero8 at e5
      have k : ∀ i u, (#[(.int .i64 0 : Value), .int .i64 0, .string ⟨#[]⟩, .int .i64 0, .int .i64 0, .int .i64 0, .int .i64 0, .slice none 0 0])[i]? = some u → w'.cell? ⟨w.heap.size + 2, i, none⟩ = some u := fun i u hu => by simp only [World.cell?, e5]; exact hu
      have z0 : w'.cell? ⟨w.heap.size + 1 + 1, 0, none⟩ = _ := k 0 _ rfl
      have z1 : w'.cell? ⟨w.heap.size + 1 + 1, 1, none⟩ = _ := k 1 _ rfl
      have z2 : w'.cell? ⟨w.heap.size + 1 + 1, 2, none⟩ = _ := k 2 _ rfl
      have z3 : w'.cell? ⟨w.heap.size + 1 + 1, 3, none⟩ = _ := k 3 _ rfl
      have z4 : w'.cell? ⟨w.heap.size + 1 + 1, 4, none⟩ = _ := k 4 _ rfl
      have z5 : w'.cell? ⟨w.heap.size + 1 + 1, 5, none⟩ = _ := k 5 _ rfl
      have z6 : w'.cell? ⟨w.heap.size + 1 + 1, 6, none⟩ = _ := k 6 _ rfl
      have z7 : w'.cell? ⟨w.heap.size + 1 + 1, 7, none⟩ = _ := k 7 _ rfl
      have fz : ∀ i, w'.frozen? ⟨w.heap.size + 1 + 1, i, none⟩ = false := fun i => by simp only [World.frozen?]; erw [e5]; rfl
      have HP := Lib.hid hp
      have HE5 := Lib.hid e5
      clear hp e5 k
      go_wp2_with fail
      go_meet
      exact ME.out m' w' _ _ _ _ _ _ _ _ _ HP.out (Same5.set _ 7 _ _) (by simp only [World.setCell, Array.getElem?_modify, if_pos rfl, HE5.out]; rfl) ⟨_, _, _, rfl⟩ (fun e => absurd e HK.out)
    by_cases h6 : K = 6
    · skip
      have b0 : (K == 0) = false := by rw [beq_eq_false_iff_ne]; exact h0
      have b1 : (K == 1) = false := by rw [beq_eq_false_iff_ne]; exact h1
      have b2 : (K == 2) = false := by rw [beq_eq_false_iff_ne]; exact h2
      have b3 : (K == 3) = false := by rw [beq_eq_false_iff_ne]; exact h3
      have b4 : (K == 4) = false := by rw [beq_eq_false_iff_ne]; exact h4
      have b5 : (K == 5) = false := by rw [beq_eq_false_iff_ne]; exact h5
      have b6 : (K == 6) = true := by rw [beq_iff_eq]; exact h6
      have hd : doT t ⟨K, Id, Block, Clock, Seq, Text⟩ = (storeS t Id Seq Text).1 := by
        unfold doT
        simp only [if_neg h0, if_neg h1, if_neg h2, if_neg h3, if_neg h4, if_neg h5, if_pos h6]
      have HD := Lib.hid hd
      have HK := Lib.hid h0
      clear hd h0 h1 h2 h3 h4 h5 h6 D0 D1 D2 D3 D4 D5 D7
      go_wp2_with fail
      refine D6.out.mono ?_
      rintro e w' ⟨rfl, m', hp⟩
      rw [← HD.out] at hp
      have e5 := E5.out m' w' hp.2.2
      unfold zero8 at e5
      have k : ∀ i u, (#[(.int .i64 0 : Value), .int .i64 0, .string ⟨#[]⟩, .int .i64 0, .int .i64 0, .int .i64 0, .int .i64 0, .slice none 0 0])[i]? = some u → w'.cell? ⟨w.heap.size + 2, i, none⟩ = some u := fun i u hu => by simp only [World.cell?, e5]; exact hu
      have z0 : w'.cell? ⟨w.heap.size + 1 + 1, 0, none⟩ = _ := k 0 _ rfl
      have z1 : w'.cell? ⟨w.heap.size + 1 + 1, 1, none⟩ = _ := k 1 _ rfl
      have z2 : w'.cell? ⟨w.heap.size + 1 + 1, 2, none⟩ = _ := k 2 _ rfl
      have z3 : w'.cell? ⟨w.heap.size + 1 + 1, 3, none⟩ = _ := k 3 _ rfl
      have z4 : w'.cell? ⟨w.heap.size + 1 + 1, 4, none⟩ = _ := k 4 _ rfl
      have z5 : w'.cell? ⟨w.heap.size + 1 + 1, 5, none⟩ = _ := k 5 _ rfl
      have z6 : w'.cell? ⟨w.heap.size + 1 + 1, 6, none⟩ = _ := k 6 _ rfl
      have z7 : w'.cell? ⟨w.heap.size + 1 + 1, 7, none⟩ = _ := k 7 _ rfl
      have fz : ∀ i, w'.frozen? ⟨w.heap.size + 1 + 1, i, none⟩ = false := fun i => by simp only [World.frozen?]; erw [e5]; rfl
      have HP := Lib.hid hp
      have HE5 := Lib.hid e5
      clear hp e5 k
      go_wp2_with fail
      go_meet
      exact ME.out m' w' _ _ _ _ _ _ _ _ _ HP.out (Same5.set _ 0 _ _) (by simp only [World.setCell, Array.getElem?_modify, if_pos rfl, HE5.out]; rfl) ⟨_, _, _, rfl⟩ (fun e => absurd e HK.out)
    have b0 : (K == 0) = false := by rw [beq_eq_false_iff_ne]; exact h0
    have b1 : (K == 1) = false := by rw [beq_eq_false_iff_ne]; exact h1
    have b2 : (K == 2) = false := by rw [beq_eq_false_iff_ne]; exact h2
    have b3 : (K == 3) = false := by rw [beq_eq_false_iff_ne]; exact h3
    have b4 : (K == 4) = false := by rw [beq_eq_false_iff_ne]; exact h4
    have b5 : (K == 5) = false := by rw [beq_eq_false_iff_ne]; exact h5
    have b6 : (K == 6) = false := by rw [beq_eq_false_iff_ne]; exact h6
    have hd : doT t ⟨K, Id, Block, Clock, Seq, Text⟩ = t := by
      unfold doT
      simp only [if_neg h0, if_neg h1, if_neg h2, if_neg h3, if_neg h4, if_neg h5, if_neg h6]
    have HD := Lib.hid hd
    have HK := Lib.hid h0
    clear hd h0 h1 h2 h3 h4 h5 h6 D0 D1 D2 D3 D4 D5 D6
    go_wp2_with fail
    refine D7.out.mono ?_
    rintro e w' ⟨rfl, hb⟩
    have hp := KO.out w' hb
    rw [← HD.out] at hp
    clear hb
    have e5 := E5.out m w' hp.2.2
    unfold zero8 at e5
    have k : ∀ i u, (#[(.int .i64 0 : Value), .int .i64 0, .string ⟨#[]⟩, .int .i64 0, .int .i64 0, .int .i64 0, .int .i64 0, .slice none 0 0])[i]? = some u → w'.cell? ⟨w.heap.size + 2, i, none⟩ = some u := fun i u hu => by simp only [World.cell?, e5]; exact hu
    have z0 : w'.cell? ⟨w.heap.size + 1 + 1, 0, none⟩ = _ := k 0 _ rfl
    have z1 : w'.cell? ⟨w.heap.size + 1 + 1, 1, none⟩ = _ := k 1 _ rfl
    have z2 : w'.cell? ⟨w.heap.size + 1 + 1, 2, none⟩ = _ := k 2 _ rfl
    have z3 : w'.cell? ⟨w.heap.size + 1 + 1, 3, none⟩ = _ := k 3 _ rfl
    have z4 : w'.cell? ⟨w.heap.size + 1 + 1, 4, none⟩ = _ := k 4 _ rfl
    have z5 : w'.cell? ⟨w.heap.size + 1 + 1, 5, none⟩ = _ := k 5 _ rfl
    have z6 : w'.cell? ⟨w.heap.size + 1 + 1, 6, none⟩ = _ := k 6 _ rfl
    have z7 : w'.cell? ⟨w.heap.size + 1 + 1, 7, none⟩ = _ := k 7 _ rfl
    have fz : ∀ i, w'.frozen? ⟨w.heap.size + 1 + 1, i, none⟩ = false := fun i => by simp only [World.frozen?]; erw [e5]; rfl
    have HP := Lib.hid hp
    have HE5 := Lib.hid e5
    clear hp e5 k
    go_wp2_with fail
    go_meet
    exact ME.out m w' _ _ _ _ _ _ _ _ _ HP.out ((Same5.set _ 2 _ _).trans (Same5.set _ 0 _ _)) (by simp only [World.setCell, Array.getElem?_modify, if_pos rfl, HE5.out]; rfl) ⟨_, _, _, rfl⟩ (fun e => absurd e HK.out)
  case rest =>
    obtain ⟨E, N, s, S0, S1, S2, S3, all, m', hb, ⟨ga, gn, gc, rfl⟩, h4, hEN, hO, hsz, hk, hm4⟩ := hcut
    unfold zero8 at h4
    have k : ∀ i u, (#[(.int .i64 E : Value), .int .i64 N, .string s, .int .i64 S0, .int .i64 S1, .int .i64 S2, .int .i64 S3, .slice ga gn gc])[i]? = some u → wc.cell? ⟨w.heap.size + 1 + 1, i, none⟩ = some u := fun i u hu => by simp only [World.cell?]; erw [hb]; exact hu
    have y0 : wc.cell? ⟨w.heap.size + 1 + 1, 0, none⟩ = _ := k 0 _ rfl
    have y1 : wc.cell? ⟨w.heap.size + 1 + 1, 1, none⟩ = _ := k 1 _ rfl
    have y2 : wc.cell? ⟨w.heap.size + 1 + 1, 2, none⟩ = _ := k 2 _ rfl
    have y3 : wc.cell? ⟨w.heap.size + 1 + 1, 3, none⟩ = _ := k 3 _ rfl
    have y4 : wc.cell? ⟨w.heap.size + 1 + 1, 4, none⟩ = _ := k 4 _ rfl
    have y5 : wc.cell? ⟨w.heap.size + 1 + 1, 5, none⟩ = _ := k 5 _ rfl
    have y6 : wc.cell? ⟨w.heap.size + 1 + 1, 6, none⟩ = _ := k 6 _ rfl
    have y7 : wc.cell? ⟨w.heap.size + 1 + 1, 7, none⟩ = _ := k 7 _ rfl
    have z : ∀ i u, (#[(.int .i64 0 : Value), .int .i64 0, .string ⟨#[]⟩, .int .i64 0, .int .i64 0, .int .i64 0, .int .i64 0, .slice none 0 0])[i]? = some u → wc.cell? ⟨w.heap.size + 1, i, none⟩ = some u := fun i u hu => by simp only [World.cell?, h4]; exact hu
    have z0 := z 0 _ rfl
    have z1 := z 1 _ rfl
    have z2 := z 2 _ rfl
    have z3 := z 3 _ rfl
    have z4 := z 4 _ rfl
    have z5 := z 5 _ rfl
    have z6 := z 6 _ rfl
    have z7 := z 7 _ rfl
    have fz : ∀ i, wc.frozen? ⟨w.heap.size + 1, i, none⟩ = false := fun i => by simp only [World.frozen?, h4]; rfl
    have H4 := Lib.hid h4
    have HO := Lib.hid hO
    have HK := Lib.hid hk
    have HM := Lib.hid hm4
    have HEN := Lib.hid hEN
    clear hb h4 hO hk hm4 hEN k z
    clear D0 D1 D2 D3 D4 D5 D6 D7 KO E5 ME
    go_wp2_with fail
    have e8 := set8 H4.out (.int .i64 E) (.int .i64 N) (.string s) (.int .i64 S0) (.int .i64 S1) (.int .i64 S2) (.int .i64 S3) (.slice ga gn gc)
    have s8 := same8 (w.heap.size + 1) wc (.int .i64 E) (.int .i64 N) (.string s) (.int .i64 S0) (.int .i64 S1) (.int .i64 S2) (.int .i64 S3) (.slice ga gn gc)
    clear y0 y1 y2 y3 y4 y5 y6 y7 z0 z1 z2 z3 z4 z5 z6 z7 fz
    generalize (World.setCell (World.setCell (World.setCell (World.setCell (World.setCell (World.setCell (World.setCell (World.setCell _ _ _) _ _) _ _) _ _) _ _) _ _) _ _) _ _) = W9 at *
    have k : ∀ i u, (#[(.int .i64 E : Value), .int .i64 N, .string s, .int .i64 S0, .int .i64 S1, .int .i64 S2, .int .i64 S3, .slice ga gn gc])[i]? = some u → W9.cell? ⟨w.heap.size + 1, i, none⟩ = some u := fun i u hu => by simp only [World.cell?, e8]; exact hu
    have y0 : W9.cell? ⟨w.heap.size + 1, 0, none⟩ = some (.int .i64 E) := k 0 _ rfl
    have y1 : W9.cell? ⟨w.heap.size + 1, 1, none⟩ = some (.int .i64 N) := k 1 _ rfl
    have y2 : W9.cell? ⟨w.heap.size + 1, 2, none⟩ = some (.string s) := k 2 _ rfl
    have y3 : W9.cell? ⟨w.heap.size + 1, 3, none⟩ = some (.int .i64 S0) := k 3 _ rfl
    have y4 : W9.cell? ⟨w.heap.size + 1, 4, none⟩ = some (.int .i64 S1) := k 4 _ rfl
    have y5 : W9.cell? ⟨w.heap.size + 1, 5, none⟩ = some (.int .i64 S2) := k 5 _ rfl
    have y6 : W9.cell? ⟨w.heap.size + 1, 6, none⟩ = some (.int .i64 S3) := k 6 _ rfl
    have y7 : W9.cell? ⟨w.heap.size + 1, 7, none⟩ = some (.slice ga gn gc) := k 7 _ rfl
    have HS8 := Lib.hid s8
    have hfin : DoPost B w0 w tb m t ⟨K, Id, Block, Clock, Seq, Text⟩ (.returned (.agg #[.int .i64 E, .int .i64 N, .string s, .int .i64 S0, .int .i64 S1, .int .i64 S2, .int .i64 S3, .slice ga gn gc])) W9 := by
      have hs := HS8.out
      have hO := HO.out
      have hbs := HBS.out
      refine ⟨E, N, s, S0, S1, S2, S3, _, rfl, ⟨_, _, _, rfl⟩, HEN.out, m', ⟨hO.at_.kept fun k hk2 => hs.block k (by rintro rfl; exact HM.out hk2), hO.mine, hO.inv, hO.below.trans ⟨hs.os, hs.tape, hs.output, by rw [hs.size]; exact Nat.le_refl _, fun k hk2 => hs.block k (by omega)⟩⟩, by rw [hs.size]; omega, fun k hk2 hm => ?_⟩
      obtain ⟨g1, g2⟩ := HK.out k hk2 hm
      exact ⟨(hs.block k (by omega)).trans g1, g2⟩
    clear e8 s8 k HS8 HO HK HM HEN HBS H4
    refine bodyPost_ret (v := .agg #[.int .i64 E, .int .i64 N, .string s, .int .i64 S0, .int .i64 S1, .int .i64 S2, .int .i64 S3, .slice ga gn gc]) ?_ rfl hfin
    clear hfin
    simp only [results, Try.f10]
    clear k0 k1 k2 k3 k4 k5 HW3
    go_simp
end Go.Proofs.Ytdikajbbolecoaa

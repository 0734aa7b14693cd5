/-
  A table of the call's own; what each method of it does; acts that are few enough.
-/
import Derived.Test.YtdikajbbolecoaaOpens
namespace Go.Proofs.Ytdikajbbolecoaa
open Go.RowKit
set_option linter.unusedVariables false
set_option linter.unusedSimpArgs false

/-- What holds of a table at all times. -/
structure Inv (t : Tb) : Prop where
  ids : Ids t
  idb : ∀ x ∈ t.l, 1 ≤ x.id ∧ x.id ≤ t.opened
  term : t.term ≤ 1000
  term1 : 1 ≤ t.term
  most1 : 1 ≤ t.most
  opened : t.opened ≤ 1048576
  ended : t.ended.length ≤ 8
  kept : ∀ x ∈ t.l, x.kept.length ≤ 2

theorem inv_empty (mo te : Nat) (h1 : 1 ≤ mo) (h2 : 1 ≤ te) (h3 : te ≤ 1000) : Inv (emptyT mo te) :=
  ⟨List.Pairwise.nil, fun x hx => (by cases hx), h3, h2, h1, Nat.zero_le _, Nat.zero_le _, fun x hx => (by cases hx)⟩
theorem lastEight_le (l : List Int) : (lastEight l).length ≤ 8 := by unfold lastEight; rw [List.length_drop]; omega
theorem lastTwo_le (l : List (Int × ByteArray)) : (lastTwo l).length ≤ 2 := by unfold lastTwo; rw [List.length_drop]; omega

theorem Inv.setL {t : Tb} (h : Inv t) {i : Nat} {x y : Sess} (hx : t.l[i]? = some x) (hid : y.id = x.id) (hk : y.kept.length ≤ 2) : Inv (setL t i y) := by
  have hil := (List.getElem?_eq_some_iff.1 hx).1
  have hmem : ∀ z ∈ t.l.set i y, z = y ∨ z ∈ t.l := fun z hz => (List.mem_or_eq_of_mem_set hz).symm
  refine ⟨?_, fun z hz => ?_, h.term, h.term1, h.most1, h.opened, h.ended, fun z hz => ?_⟩
  · have hp := h.ids
    unfold Ids at hp ⊢
    show (t.l.set i y).Pairwise _
    rw [List.pairwise_iff_getElem] at hp ⊢
    have hxe := (List.getElem?_eq_some_iff.1 hx).2
    intro a b ha hb hab
    simp only [List.length_set] at ha hb
    simp only [List.getElem_set]
    have := hp a b ha hb hab
    split
    · rename_i e
      subst e
      rw [if_neg (by omega), hid, ← hxe]
      exact this
    · split
      · rename_i e
        subst e
        rw [hid, ← hxe]
        exact this
      · exact this
  · rcases hmem z hz with rfl | hz
    · rw [hid]
      exact h.idb x (List.mem_of_getElem? hx)
    · exact h.idb z hz
  · rcases hmem z hz with rfl | hz
    · exact hk
    · exact h.kept z hz
theorem Inv.filter {t : Tb} (h : Inv t) (p : Sess → Bool) {es : List Int} (he : es.length ≤ 8) : Inv { t with l := t.l.filter p, ended := es } :=
  ⟨h.ids.sublist List.filter_sublist, fun x hx => h.idb x ((List.mem_filter.1 hx).1), h.term, h.term1, h.most1, h.opened, he, fun x hx => h.kept x ((List.mem_filter.1 hx).1)⟩

theorem Inv.open_ {t : Tb} (h : Inv t) (block clock : Int) : Inv (openS t block clock).1 := by
  unfold openS
  split
  · exact h
  · rename_i hc
    have hc' : t.opened ≠ 1048576 := fun e => hc (.inr e)
    refine ⟨?_, fun x hx => ?_, h.term, h.term1, h.most1, by have := h.opened; show t.opened + 1 ≤ _; omega, h.ended, fun x hx => ?_⟩
    · show (t.l ++ [_]).Pairwise _
      rw [List.pairwise_append]
      refine ⟨h.ids, List.pairwise_singleton _ _, fun a ha b hb => ?_⟩
      simp only [List.mem_singleton] at hb
      subst hb
      have := (h.idb a ha).2
      show a.id < (t.opened : Int) + 1
      omega
    · rcases List.mem_append.1 hx with hx | hx
      · have := h.idb x hx
        show 1 ≤ x.id ∧ x.id ≤ ((t.opened + 1 : Nat) : Int)
        omega
      · simp only [List.mem_singleton] at hx
        subst hx
        show 1 ≤ (t.opened : Int) + 1 ∧ (t.opened : Int) + 1 ≤ ((t.opened + 1 : Nat) : Int)
        omega
    · rcases List.mem_append.1 hx with hx | hx
      · exact h.kept x hx
      · simp only [List.mem_singleton] at hx
        subst hx
        exact Nat.zero_le _
theorem Inv.renew {t : Tb} (h : Inv t) (id clock : Int) : Inv (renewS t id clock).1 := by
  unfold renewS
  split
  · split
    · rename_i hx
      have hk := h.kept _ (List.mem_of_getElem? hx)
      exact h.setL hx rfl hk
    · exact h
  · exact h
theorem Inv.repin {t : Tb} (h : Inv t) (id block clock : Int) : Inv (repinS t id block clock).1 := by
  unfold repinS
  split
  · split
    · rename_i hx
      have hk := h.kept _ (List.mem_of_getElem? hx)
      exact h.setL hx rfl hk
    · exact h
  · exact h
theorem Inv.release {t : Tb} (h : Inv t) (id clock : Int) : Inv (releaseS t id clock).1 := by
  unfold releaseS
  split
  · split
    · exact h.filter _ h.ended
    · exact h
  · exact h
theorem Inv.expire {t : Tb} (h : Inv t) (clock : Int) : Inv (expireS t clock).1 := h.filter _ (lastEight_le _)
theorem Inv.store {t : Tb} (h : Inv t) (id seq : Int) (text : ByteArray) : Inv (storeS t id seq text).1 := by
  unfold storeS
  split
  · exact h
  · split
    · exact h
    · rename_i hx
      split
      · exact h
      · exact h.setL hx rfl (lastTwo_le _)

/-- A table of the call's own: all its blocks lie from B on; below B all is as it was in w0. -/
structure Own (B : Nat) (w0 w : World) (tb : Nat) (m : Mem) (t : Tb) : Prop where
  at_ : TableAt w tb m t
  mine : ∀ k, Mine tb m k → B ≤ k
  inv : Inv t
  below : Below B w0 w

/-- What a method of an own table does: what is not the table's own is as it was. -/
def OwnP (B : Nat) (w0 w : World) (tb : Nat) (m : Mem) (t' : Tb) (r : Value) (e : Ending) (w' : World) : Prop :=
  e = .returned r ∧ ∃ m', Own B w0 w' tb m' t' ∧ w.heap.size ≤ w'.heap.size ∧ ∀ k, k < w.heap.size → ¬ Mine tb m k → w'.heap[k]? = w.heap[k]? ∧ ¬ Mine tb m' k

section
variable {B : Nat} {w0 w w' : World} {tb : Nat} {m : Mem} {t t' : Tb}
theorem Own.step {m' : Mem} (h : Own B w0 w tb m t) (hB : B ≤ w0.heap.size) (h' : TableAt w' tb m' t') (hi : Inv t') (ht : Turned w.heap.size w w' tb m m') :
    Own B w0 w' tb m' t' ∧ w.heap.size ≤ w'.heap.size ∧ ∀ k, k < w.heap.size → ¬ Mine tb m k → w'.heap[k]? = w.heap[k]? ∧ ¬ Mine tb m' k :=
  ⟨⟨h', fun k hk => (ht.own k hk).elim (h.mine k) (fun e => by have := h.below.size; omega), hi, h.below.trans (ht.below (Nat.le_trans hB h.below.size) h.mine)⟩, ht.size,
    fun k hk hm => ⟨ht.block k hk hm, fun e => (ht.own k e).elim hm (by omega)⟩⟩
theorem Own.post {f : FuncId} {args : Array Value} {r : Value} (h : Own B w0 w tb m t) (hB : B ≤ w0.heap.size) (hi : Inv t') (hc : Calls Try.prog f args w (TablePost w tb m t' r)) : Calls Try.prog f args w (OwnP B w0 w tb m t' r) :=
  hc.mono fun e w' ⟨he, m', h', ht⟩ => ⟨he, m', h.step hB h' hi ht⟩
theorem Own.keep (h : Own B w0 w tb m t) (hB : B ≤ w0.heap.size) (hb : Below w.heap.size w w') : Own B w0 w' tb m t :=
  ⟨h.at_.below hb, h.mine, h.inv, h.below.trans (hb.mono (Nat.le_trans hB h.below.size))⟩
theorem Own.alloc (h : Own B w0 w tb m t) (hB : B ≤ w0.heap.size) (o : Obj) : Own B w0 (w.alloc o) tb m t := h.keep hB ((Below.refl _ w).alloc (Nat.le_refl _) o)
theorem Own.drewN (h : Own B w0 w tb m t) (hB : B ≤ w0.heap.size) (q : Nat) : Own B w0 (w.drewN q) tb m t := h.keep hB (below_drewN w q)
/-- A store into a block that is not the table's own. -/
theorem Own.set (h : Own B w0 w tb m t) {k c : Nat} {u : Value} (hk : ¬ Mine tb m k) (hBk : B ≤ k) : Own B w0 (w.setCell ⟨k, c, none⟩ u) tb m t :=
  ⟨h.at_.kept fun j hj => Below.heap_setCell _ _ _ _ (by show j ≠ k; rintro rfl; exact hk hj), h.mine, h.inv, h.below.setCell hBk _⟩
theorem Own.fresh (h : Own B w0 w tb m t) {k : Nat} (hk : w.heap.size ≤ k) : ¬ Mine tb m k := fun e => by have := h.at_.mine_lt k e; omega
theorem Own.old (h : Own B w0 w tb m t) {k : Nat} (hk : k < B) : ¬ Mine tb m k := fun e => by have := h.mine k e; omega

theorem Own.open_ (h : Own B w0 w tb m t) (hB : B ≤ w0.heap.size) (block clock : Int) (hc1 : 0 ≤ clock) (hc2 : clock ≤ 1000000) :
    Calls Try.prog 20 #[.pointer (some ⟨tb, 0, none⟩), .int .i64 block, .int .i64 clock] w (OwnP B w0 w tb m (openS t block clock).1 (.tuple #[.int .i64 (openS t block clock).2.1, .int .i64 (openS t block clock).2.2])) :=
  h.post hB (h.inv.open_ block clock) (open_any tb m t block clock w h.at_ hc1 hc2 h.inv.term h.inv.opened)
theorem Own.find (h : Own B w0 w tb m t) (id clock : Int) :
    Calls Try.prog 14 #[.pointer (some ⟨tb, 0, none⟩), .int .i64 id, .int .i64 clock] w fun e w' => e = .returned (findR t id clock) ∧ Below w.heap.size w w' :=
  find_any tb m t id clock w h.at_ (by have := h.inv.ended; omega)
theorem Own.renew (h : Own B w0 w tb m t) (hB : B ≤ w0.heap.size) (id clock : Int) (hc1 : 0 ≤ clock) (hc2 : clock ≤ 1000000) :
    Calls Try.prog 15 #[.pointer (some ⟨tb, 0, none⟩), .int .i64 id, .int .i64 clock] w (OwnP B w0 w tb m (renewS t id clock).1 (.int .i64 (renewS t id clock).2)) :=
  h.post hB (h.inv.renew id clock) (renew_any tb m t id clock w h.at_ (by have := h.inv.ended; omega) hc1 hc2 h.inv.term)
theorem Own.repin (h : Own B w0 w tb m t) (hB : B ≤ w0.heap.size) (id block clock : Int) :
    Calls Try.prog 21 #[.pointer (some ⟨tb, 0, none⟩), .int .i64 id, .int .i64 block, .int .i64 clock] w (OwnP B w0 w tb m (repinS t id block clock).1 (.tuple #[.int .i64 (repinS t id block clock).2.1, .int .i64 (repinS t id block clock).2.2])) :=
  h.post hB (h.inv.repin id block clock) (repin_any tb m t id block clock w h.at_ (by have := h.inv.ended; omega))
theorem Own.release (h : Own B w0 w tb m t) (hB : B ≤ w0.heap.size) (id clock : Int) :
    Calls Try.prog 17 #[.pointer (some ⟨tb, 0, none⟩), .int .i64 id, .int .i64 clock] w (OwnP B w0 w tb m (releaseS t id clock).1 (.tuple #[.int .i64 (releaseS t id clock).2.1, .int .i64 (releaseS t id clock).2.2])) :=
  h.post hB (h.inv.release id clock) (release_any tb m t id clock w h.at_ h.inv.ids (by have := h.inv.ended; omega))
theorem Own.store (h : Own B w0 w tb m t) (hB : B ≤ w0.heap.size) (id seq : Int) (text : ByteArray) :
    Calls Try.prog 19 #[.pointer (some ⟨tb, 0, none⟩), .int .i64 id, .int .i64 seq, .string text] w (OwnP B w0 w tb m (storeS t id seq text).1 (.int .i64 (storeS t id seq text).2)) :=
  h.post hB (h.inv.store id seq text) (store_any tb m t id seq text w h.at_ h.inv.kept)
theorem Own.replay (h : Own B w0 w tb m t) (id seq : Int) :
    Calls Try.prog 18 #[.pointer (some ⟨tb, 0, none⟩), .int .i64 id, .int .i64 seq] w fun e w' => e = .returned (.tuple #[.string (replayS t id seq).1, .int .i64 (replayS t id seq).2]) ∧ Below w.heap.size w w' :=
  replay_any tb m t id seq w h.at_ h.inv.kept
theorem Own.kept (h : Own B w0 w tb m t) : Calls Try.prog 12 #[.pointer (some ⟨tb, 0, none⟩)] w fun e w' => e = .returned (.int .i64 (keptN t.l)) ∧ ∃ q, w' = w.drewN q := kept_any tb m t w h.at_ h.inv.kept
theorem Own.all (h : Own B w0 w tb m t) : Calls Try.prog 11 #[.pointer (some ⟨tb, 0, none⟩)] w (AllPost w t.l) := all_any tb m t w h.at_

/-- Expire, of an own table. -/
def OwnX (B : Nat) (w0 w : World) (tb : Nat) (m : Mem) (t' : Tb) (l : List Sess) (e : Ending) (w' : World) : Prop :=
  ∃ sv, e = .returned sv ∧ OffRow w' 29 4 sv l.length (flatS l) ∧ (∀ k, sv.ownBlock = some k → w.heap.size ≤ k) ∧ ∃ m', Own B w0 w' tb m' t' ∧ w.heap.size ≤ w'.heap.size ∧ (∀ k, k < w.heap.size → ¬ Mine tb m k → w'.heap[k]? = w.heap[k]? ∧ ¬ Mine tb m' k) ∧
    ∀ k, sv.ownBlock = some k → ¬ Mine tb m' k
theorem Own.expire (h : Own B w0 w tb m t) (hB : B ≤ w0.heap.size) (clock : Int) :
    Calls Try.prog 13 #[.pointer (some ⟨tb, 0, none⟩), .int .i64 clock] w (OwnX B w0 w tb m (expireS t clock).1 (expireS t clock).2) :=
  (expire_any tb m t clock w h.at_ (by have := h.inv.ended; omega)).mono fun e w' ⟨sv, h1, h2, h3, m', h4, h5, h6⟩ => by
    obtain ⟨g1, g2, g3⟩ := h.step hB h4 (h.inv.expire clock) h5
    exact ⟨sv, h1, h2, h3, m', g1, g2, g3, h6⟩
end

/-! ### acts -/
structure ActD where
  K : Int
  Id : Int
  Block : Int
  Clock : Int
  Seq : Int
  Text : ByteArray
def ActD.val (a : ActD) : Value := .agg #[.int .i64 a.K, .int .i64 a.Id, .int .i64 a.Block, .int .i64 a.Clock, .int .i64 a.Seq, .string a.Text]
def ActCells (w : World) (b o : Nat) (x : ActD) : Prop :=
  w.cell? ⟨b, o, none⟩ = some (.int .i64 x.K) ∧ w.cell? ⟨b, o + 1, none⟩ = some (.int .i64 x.Id) ∧ w.cell? ⟨b, o + 2, none⟩ = some (.int .i64 x.Block) ∧
  w.cell? ⟨b, o + 3, none⟩ = some (.int .i64 x.Clock) ∧ w.cell? ⟨b, o + 4, none⟩ = some (.int .i64 x.Seq) ∧ w.cell? ⟨b, o + 5, none⟩ = some (.string x.Text)
def ActsAt (w : World) (v : Value) (l : List ActD) : Prop :=
  ∃ a cap, v = .slice a l.length cap ∧ ∀ i x, l[i]? = some x → ∃ b o, a = some ⟨b, o, none⟩ ∧ ActCells w b (o + i * 6) x

/-- An act that is looked at. -/
def Fit (a : ActD) : Prop := a.Text.size ≤ 50 ∧ 0 ≤ a.Clock ∧ a.Clock ≤ 1000000 ∧ 0 ≤ a.Block ∧ a.Block ≤ 1000000
def FewPost (w : World) (l : List ActD) (e : Ending) (w' : World) : Prop := ∃ b, e = .returned (.bool b) ∧ (b = true → l.length ≤ 60 ∧ ∀ x ∈ l, Fit x) ∧ w = w'

set_option maxHeartbeats 2000000 in
set_option maxRecDepth 100000 in
theorem few_any (w : World) (v : Value) (l : List ActD) (h : ActsAt w v l) (hm : l.length ≤ maxLen) : Calls Try.prog 9 #[v] w (FewPost w l) := by
  obtain ⟨a, cap, rfl, hc⟩ := h
  unfold maxLen at hm
  obtain ⟨n, hn⟩ : ∃ n, n = l.length := ⟨_, rfl⟩
  rw [← hn]
  have hm' : n ≤ 9223372036854775807 := by omega
  have HC := Lib.hid hc
  have HN := Lib.hid hn
  clear hm hc hn
  go_enter Try.func9, Try.ntmps9
  go_wp2_with fail
  go_loop [3] (fun i => ∃ k : Nat, k ≤ n ∧ k ≤ 61 ∧ i = .int .i64 k ∧ ∀ t x, t < k → l[t]? = some x → Fit x) (fun i => 61 - (intOf i).toNat)
  case atStart => exact ⟨0, Nat.zero_le _, Nat.zero_le _, rfl, fun t x h => by omega⟩
  case round =>
    obtain ⟨k, hk, hk1, rfl, hall⟩ := hrel
    have HA := Lib.hid hall
    clear hall
    by_cases hlt : k < n
    · have b1 : (k : Int) < (n : Int) := by omega
      by_cases hle : k ≤ 60
      · have b2 : (k : Int) ≤ 60 := by omega
        obtain ⟨x, hx⟩ : ∃ x, l[k]? = some x := ⟨_, List.getElem?_eq_getElem (by rw [← HN.out]; exact hlt)⟩
        obtain ⟨b, o, rfl, q0, q1, q2, q3, q4, q5⟩ := HC.out k x hx
        have HX := Lib.hid hx
        clear hx q0 q1 q4
        by_cases h0 : 50 < x.Text.size
        · skip
          have c0 : (50 : Int) < (x.Text.size : Int) := by omega
          have d0 : decide (50 < x.Text.size) = true := decide_eq_true (by omega)
          have e0 : decide ((50 : Int) < (x.Text.size : Int)) = true := decide_eq_true (by omega)
          go_wp2_with fail
          go_ret
          exact ⟨false, rfl, fun h => (by cases h), rfl⟩
        by_cases h1 : x.Clock < 0
        · skip
          have c0 : ¬ (50 : Int) < (x.Text.size : Int) := by omega
          have d0 : decide (50 < x.Text.size) = false := decide_eq_false (by omega)
          have e0 : decide ((50 : Int) < (x.Text.size : Int)) = false := decide_eq_false (by omega)
          have d1 : decide (x.Clock < 0) = true := decide_eq_true h1
          go_wp2_with fail
          go_ret
          exact ⟨false, rfl, fun h => (by cases h), rfl⟩
        by_cases h2 : 1000000 < x.Clock
        · skip
          have c0 : ¬ (50 : Int) < (x.Text.size : Int) := by omega
          have d0 : decide (50 < x.Text.size) = false := decide_eq_false (by omega)
          have e0 : decide ((50 : Int) < (x.Text.size : Int)) = false := decide_eq_false (by omega)
          have d1 : decide (x.Clock < 0) = false := decide_eq_false h1
          have d2 : decide (1000000 < x.Clock) = true := decide_eq_true h2
          go_wp2_with fail
          go_ret
          exact ⟨false, rfl, fun h => (by cases h), rfl⟩
        by_cases h3 : x.Block < 0
        · skip
          have c0 : ¬ (50 : Int) < (x.Text.size : Int) := by omega
          have d0 : decide (50 < x.Text.size) = false := decide_eq_false (by omega)
          have e0 : decide ((50 : Int) < (x.Text.size : Int)) = false := decide_eq_false (by omega)
          have d1 : decide (x.Clock < 0) = false := decide_eq_false h1
          have d2 : decide (1000000 < x.Clock) = false := decide_eq_false h2
          have d3 : decide (x.Block < 0) = true := decide_eq_true h3
          go_wp2_with fail
          go_ret
          exact ⟨false, rfl, fun h => (by cases h), rfl⟩
        by_cases h4 : 1000000 < x.Block
        · skip
          have c0 : ¬ (50 : Int) < (x.Text.size : Int) := by omega
          have d0 : decide (50 < x.Text.size) = false := decide_eq_false (by omega)
          have e0 : decide ((50 : Int) < (x.Text.size : Int)) = false := decide_eq_false (by omega)
          have d1 : decide (x.Clock < 0) = false := decide_eq_false h1
          have d2 : decide (1000000 < x.Clock) = false := decide_eq_false h2
          have d3 : decide (x.Block < 0) = false := decide_eq_false h3
          have d4 : decide (1000000 < x.Block) = true := decide_eq_true h4
          go_wp2_with fail
          go_ret
          exact ⟨false, rfl, fun h => (by cases h), rfl⟩
        have c0 : ¬ (50 : Int) < (x.Text.size : Int) := by omega
        have d0 : decide (50 < x.Text.size) = false := decide_eq_false (by omega)
        have e0 : decide ((50 : Int) < (x.Text.size : Int)) = false := decide_eq_false (by omega)
        have d1 : decide (x.Clock < 0) = false := decide_eq_false h1
        have d2 : decide (1000000 < x.Clock) = false := decide_eq_false h2
        have d3 : decide (x.Block < 0) = false := decide_eq_false h3
        have d4 : decide (1000000 < x.Block) = false := decide_eq_false h4
        go_wp2_with fail
        refine ⟨⟨k + 1, by omega, by omega, by go_num, fun t y ht hy => ?_⟩, by simp [intOf]; omega⟩
        by_cases e : t = k
        · subst e
          rw [HX.out] at hy
          cases hy
          exact ⟨by omega, by omega, by omega, by omega, by omega⟩
        · exact HA.out t y (by omega) hy
      · have b2 : ¬ (k : Int) ≤ 60 := by omega
        have b3 : ¬ (n : Int) ≤ 60 := by omega
        go_wp2_with fail
        go_ret
        exact ⟨_, rfl, fun h => (by cases h), rfl⟩
    · have b1 : ¬ (k : Int) < (n : Int) := by omega
      go_wp2_with fail
      go_ret
      refine ⟨_, rfl, fun h => ?_, rfl⟩
      have h := of_decide_eq_true h
      refine ⟨by have := HN.out; omega, fun x hx => ?_⟩
      obtain ⟨t, ht⟩ := List.getElem?_of_mem hx
      exact HA.out t x (by have := (List.getElem?_eq_some_iff.1 ht).1; have := HN.out; omega) ht
end Go.Proofs.Ytdikajbbolecoaa

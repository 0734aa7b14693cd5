/-
  What the laws of this layer share: lists of strings, the fixed facts ('works'), acts that are few enough; a cache of the call's own.
-/
import Derived.Test.YtoeekjooigijbaaDo
namespace Go.Proofs.Ytoeekjooigijbaa
open Go.RowKit
set_option linter.unusedVariables false
set_option linter.unusedSimpArgs false

theorem StrsAt.some {w : World} {v : Value} {xs : List ByteArray} (h : StrsAt w v xs) (h0 : 0 < xs.length) :
    ∃ b o cap, v = .slice (some ⟨b, o, none⟩) xs.length cap ∧ ∀ i s, xs[i]? = some s → w.cell? ⟨b, o + i, none⟩ = some (.string s) := by
  obtain ⟨a, cap, rfl, hc⟩ := h
  obtain ⟨b, o, rfl, _⟩ := hc 0 xs[0] (by simp [h0])
  refine ⟨b, o, cap, rfl, fun i s hs => ?_⟩
  obtain ⟨b', o', e, h'⟩ := hc i s hs
  simp only [Option.some.injEq, Addr.mk.injEq, and_true] at e
  obtain ⟨rfl, rfl⟩ := e
  exact h'

def QuietBool (w : World) (b : Bool) (e : Ending) (w' : World) : Prop := e = .returned (.bool b) ∧ ∃ n, w' = w.drewN n

set_option maxHeartbeats 400000 in
theorem same_len (w : World) (va vb : Value) (xs ys : List ByteArray) (ha : StrsAt w va xs) (hb : StrsAt w vb ys) (hne : xs.length ≠ ys.length) :
    Calls Try.prog 19 #[va, vb] w (QuietBool w false) := by
  obtain ⟨a, c, rfl, _⟩ := ha
  obtain ⟨a', c', rfl, _⟩ := hb
  have h1 : (((xs.length : Nat) : Int) == (ys.length : Int)) = false := by rw [beq_eq_false_iff_ne]; omega
  clear hne
  go_enter Try.func19, Try.ntmps19
  go_wp2
  go_ret
  exact ⟨rfl, 0, rfl⟩

set_option maxHeartbeats 400000 in
theorem same_eq (w : World) (va vb : Value) (xs ys : List ByteArray) (ha : StrsAt w va xs) (hb : StrsAt w vb ys) (he : xs.length = ys.length) (hm : xs.length ≤ maxLen) :
    Calls Try.prog 19 #[va, vb] w (QuietBool w (decide (xs = ys))) := by
  obtain ⟨a, c, rfl, hc⟩ := ha
  obtain ⟨a', c', rfl, hc'⟩ := hb
  obtain ⟨n, hn⟩ : ∃ n, n = xs.length := ⟨_, rfl⟩
  have hn' : n = ys.length := by omega
  rw [← hn, ← hn']
  unfold maxLen at hm
  have hm' : n ≤ 9223372036854775807 := by omega
  have HC := Lib.hid hc
  have HC' := Lib.hid hc'
  have HN := Lib.hid hn
  have HN' := Lib.hid hn'
  clear he hm hc hc' hn hn'
  go_enter Try.func19, Try.ntmps19
  go_wp2
  go_loopw [5] (fun i wr => ∃ k : Nat, k ≤ n ∧ i = .int .i64 k ∧ (∀ j, j < k → xs[j]? = ys[j]?) ∧ ∃ m, wr = w.drewN m) (fun i _ => n - (intOf i).toNat)
  case atStart => exact ⟨0, Nat.zero_le _, rfl, fun j hj => by omega, 0, rfl⟩
  case round =>
    obtain ⟨k, hk, rfl, hall, m, rfl⟩ := hrel
    have HA := Lib.hid hall
    clear hall
    by_cases hlt : k < n
    · have e1 : xs[k]? = some xs[k]! := by rw [getElem!_pos xs k (by rw [← HN.out]; exact hlt)]; simp
      have e2 : ys[k]? = some ys[k]! := by rw [getElem!_pos ys k (by rw [← HN'.out]; exact hlt)]; simp
      obtain ⟨b, o, rfl, q1⟩ := HC.out k _ e1
      obtain ⟨b', o', rfl, q2⟩ := HC'.out k _ e2
      have HE1 := Lib.hid e1
      have HE2 := Lib.hid e2
      generalize xs[k]! = s at *
      generalize ys[k]! = t at *
      clear e1 e2
      have b1 : (k : Int) < (n : Int) := by omega
      go_wp2
      go_quiet (fail)
      go_wp2
      all_goals rename_i ht
      · have hne : xs ≠ ys := fun e => by
          have h2 := HE1.out
          rw [e, HE2.out] at h2
          simp only [Bool.not_eq_true'] at ht
          exact str_ne_of ht (Option.some.inj h2).symm
        go_ret
        rw [decide_eq_false hne]
        exact ⟨rfl, m + nq, by rw [World.drewN_drewN]⟩
      · have hst : s = t := str_eq_of (by simpa using ht)
        refine ⟨⟨k + 1, by omega, by go_num, fun j hj => ?_, m + nq, rfl⟩, by simp [intOf]; omega⟩
        by_cases e : j = k
        · rw [e, HE1.out, HE2.out, hst]
        · exact HA.out j (by omega)
    · have hxy : xs = ys := List.ext_getElem? fun j => by
        by_cases e : j < k
        · exact HA.out j e
        · rw [List.getElem?_eq_none (by rw [← HN.out]; omega), List.getElem?_eq_none (by rw [← HN'.out]; omega)]
      go_wp2
      go_ret
      rw [decide_eq_true hxy]
      exact ⟨rfl, m, rfl⟩
theorem belowN (B : Nat) (w : World) (n : Nat) : Below B w (w.drewN n) := ⟨rfl, rfl, rfl, Nat.le_refl _, fun _ _ => rfl⟩

theorem same_any (w : World) (va vb : Value) (xs ys : List ByteArray) (ha : StrsAt w va xs) (hb : StrsAt w vb ys) (hm : xs.length ≤ maxLen) :
    Calls Try.prog 19 #[va, vb] w (QuietBool w (decide (xs = ys))) := by
  by_cases he : xs.length = ys.length
  · exact same_eq w va vb xs ys ha hb he hm
  · rw [decide_eq_false (fun e => he (by rw [e]))]
    exact same_len w va vb xs ys ha hb he

theorem same_true (w : World) (va vb : Value) (xs : List ByteArray) (ha : StrsAt w va xs) (hb : StrsAt w vb xs) (hm : xs.length ≤ maxLen) :
    Calls Try.prog 19 #[va, vb] w (QuietBool w true) := by
  have h := same_any w va vb xs xs ha hb hm
  rwa [decide_eq_true rfl] at h

theorem StrsAt.below {B : Nat} {w w' : World} {v : Value} {xs : List ByteArray} (h : StrsAt w v xs) (hB : w.heap.size ≤ B) (hb : Below B w w') : StrsAt w' v xs := by
  obtain ⟨a, cap, rfl, hc⟩ := h
  refine ⟨a, cap, rfl, fun i s hs => ?_⟩
  obtain ⟨b, o, e, hq⟩ := hc i s hs
  have := World.block_lt_of_cell? w _ hq
  exact ⟨b, o, e, (hb.cell (p := ⟨b, o + i, none⟩) (Nat.lt_of_lt_of_le this hB)).trans hq⟩

/-- A list in a block that has not turned. -/
theorem strs_block {w w' : World} {v : Value} {xs : List ByteArray} (h : StrsAt w v xs) (hb : ∀ k, v.ownBlock = some k → k < w.heap.size → w'.heap[k]? = w.heap[k]?) : StrsAt w' v xs := by
  obtain ⟨a, cap, rfl, hc⟩ := h
  refine ⟨a, cap, rfl, fun i s hs => ?_⟩
  obtain ⟨b, o, rfl, hq⟩ := hc i s hs
  exact ⟨b, o, rfl, (World.cell?_of_block (hb b rfl (World.block_lt_of_cell? w _ hq))).trans hq⟩


/-- A cache of the call's own: all its blocks lie from B on; below B all is as it was in w0. -/
structure Own (B : Nat) (w0 w : World) (cb : Nat) (s : St) : Prop where
  at_ : ∃ v b, CacheAt w cb b v s ∧ (∀ k, v.ownBlock = some k → B ≤ k) ∧ B ≤ b
  inv : Inv s
  cb : B ≤ cb
  below : Below B w0 w

/-- What is told of the world behind a method: all blocks that are not the cache's own are as they were. -/
structure Kept (w w' : World) (cb : Nat) : Prop where
  cache : ∃ v b v' s s', CacheAt w cb b v s ∧ CacheAt w' cb b v' s' ∧ Turned w.heap.size w w' cb b v v'

/-- A cell that is not the cache's own. -/
def Apart (w : World) (cb : Nat) (k : Nat) : Prop := k < w.heap.size ∧ k ≠ cb ∧ ∀ v b s, CacheAt w cb b v s → k ≠ b ∧ v.ownBlock ≠ some k

theorem CacheAt.uniq {w : World} {cb b b' : Nat} {v v' : Value} {s s' : St} (h : CacheAt w cb b v s) (h' : CacheAt w cb b' v' s') : b = b' ∧ v = v' := by
  have e := h.box.symm.trans h'.box
  simp at e
  exact ⟨e.2.2.1, e.2.1⟩

section
variable {B : Nat} {w0 w w' : World} {cb : Nat} {s s' : St}

theorem Own.step {b : Nat} {v v' : Value} (h : Own B w0 w cb s) (hB : B ≤ w0.heap.size) (hc : CacheAt w cb b v s) (h' : CacheAt w' cb b v' s') (hi : Inv s') (ht : Turned w.heap.size w w' cb b v v') : Own B w0 w' cb s' := by
  obtain ⟨⟨v1, b1, hc1, hv1, hb1⟩, _, hcb, hbel⟩ := h
  obtain ⟨rfl, rfl⟩ := hc.uniq hc1
  exact ⟨⟨v', b, h', fun k hk => (ht.own k hk).elim (hv1 k) (fun e => by have := hbel.size; omega), hb1⟩, hi, hcb, hbel.trans (ht.below (Nat.le_trans hB hbel.size) hcb hb1 hv1)⟩

/-- What a method of an own cache does. -/
def OwnP (B : Nat) (w0 w : World) (cb : Nat) (s' : St) (r : Value) (e : Ending) (w' : World) : Prop :=
  e = .returned r ∧ Own B w0 w' cb s' ∧ ∀ k, Apart w cb k → w'.heap[k]? = w.heap[k]? ∧ Apart w' cb k

theorem Own.post {f : FuncId} {args : Array Value} {r : Value} (h : Own B w0 w cb s) (hB : B ≤ w0.heap.size) (hi : Inv s')
    (hc : ∀ v b, CacheAt w cb b v s → Calls Try.prog f args w (CachePost w cb b v s' r)) : Calls Try.prog f args w (OwnP B w0 w cb s' r) := by
  have h0 := h
  obtain ⟨⟨v, b, hm, hv, hb⟩, _, _, _⟩ := h
  refine (hc v b hm).mono fun e w' ⟨he, v', hm', ht⟩ => ⟨he, h0.step hB hm hm' hi ht, fun k hk => ?_⟩
  obtain ⟨h1, h2, h3⟩ := hk
  obtain ⟨h4, h5⟩ := h3 v b s hm
  refine ⟨ht.block k h1 h2 h4 h5, Nat.lt_of_lt_of_le h1 ht.size, h2, fun v1 b1 s1 hc1 => ?_⟩
  obtain ⟨rfl, rfl⟩ := hm'.uniq hc1
  exact ⟨h4, fun e => (ht.own k e).elim h5 (fun e' => by omega)⟩

theorem Own.get (h : Own B w0 w cb s) (hB : B ≤ w0.heap.size) {k : ByteArray} (hk : k.size ≤ maxLen) :
    Calls Try.prog 13 #[.pointer (some ⟨cb, 0, none⟩), .string k] w (OwnP B w0 w cb (getS s k).1 (.tuple #[.string (getS s k).2.1, .bool (getS s k).2.2])) :=
  h.post hB (h.inv.get hk) fun v b hc => get_any cb b v s k w hc h.inv hk
theorem Own.offer (h : Own B w0 w cb s) (hB : B ≤ w0.heap.size) {k : ByteArray} (x : ByteArray) (hk : k.size ≤ maxLen) :
    Calls Try.prog 15 #[.pointer (some ⟨cb, 0, none⟩), .string k, .string x] w (OwnP B w0 w cb (offerS s k x).1 (.bool (offerS s k x).2)) :=
  h.post hB (h.inv.offer x hk) fun v b hc => offer_any cb b v s k x w hc h.inv hk
theorem Own.forget (h : Own B w0 w cb s) (hB : B ≤ w0.heap.size) (k : ByteArray) :
    Calls Try.prog 17 #[.pointer (some ⟨cb, 0, none⟩), .string k] w (OwnP B w0 w cb (forgetS s k).1 (.bool (forgetS s k).2)) :=
  h.post hB (h.inv.forget k) fun v b hc => forget_any cb b v s k w hc
theorem Own.often (h : Own B w0 w cb s) {k : ByteArray} (hk : k.size ≤ maxLen) :
    Calls Try.prog 22 #[.pointer (some ⟨cb, 0, none⟩), .string k] w fun e w' => e = .returned (.int .i64 (often s.cs k)) ∧ w = w' := by
  obtain ⟨⟨v, b, hm, _⟩, _, _, _⟩ := h
  exact often_any cb b v s k w hm hk
theorem Own.counted (h : Own B w0 w cb s) : Calls Try.prog 24 #[.pointer (some ⟨cb, 0, none⟩)] w fun e w' => e = .returned (.int .i64 s.cs.length) ∧ w = w' := by
  obtain ⟨⟨v, b, hm, _⟩, _, _, _⟩ := h
  exact counted_any cb b v s w hm
theorem Own.keep (h : Own B w0 w cb s) (hB : B ≤ w0.heap.size) (hb : Below w.heap.size w w') : Own B w0 w' cb s := by
  have h0 := h
  obtain ⟨⟨v, b, hm, hv, hbb⟩, hi, hcb, hbel⟩ := h
  exact ⟨⟨v, b, hm.below hb, hv, hbb⟩, hi, hcb, hbel.trans (hb.mono (Nat.le_trans hB hbel.size))⟩
theorem Own.drewN (h : Own B w0 w cb s) (n : Nat) : Own B w0 (w.drewN n) cb s := by
  obtain ⟨⟨v, b, hm, hv, hbb⟩, hi, hcb, hbel⟩ := h
  exact ⟨⟨v, b, hm.drewN n, hv, hbb⟩, hi, hcb, hbel.trans ⟨rfl, rfl, rfl, Nat.le_refl _, fun _ _ => rfl⟩⟩
theorem Own.alloc (h : Own B w0 w cb s) (hB : B ≤ w0.heap.size) (o : Obj) : Own B w0 (w.alloc o) cb s := h.keep hB ((Below.refl _ w).alloc (Nat.le_refl _) o)

/-- A new block is not the cache's own. -/
theorem Own.fresh (h : Own B w0 w cb s) {k : Nat} (hk : w.heap.size ≤ k) (hb : Below w.heap.size w w') (hl : k < w'.heap.size) : Apart w' cb k := by
  obtain ⟨⟨v, b, hm, hv, hbb⟩, hi, hcb, hbel⟩ := h
  refine ⟨hl, by have := hm.lt; omega, fun v1 b1 s1 hc1 => ?_⟩
  obtain ⟨rfl, rfl⟩ := (hm.below hb).uniq hc1
  exact ⟨by have := hm.cnt.lt; omega, fun e => by have := hm.own_lt _ e; omega⟩
theorem Apart.below {k : Nat} (h : Own B w0 w cb s) (ha : Apart w cb k) (hb : Below w.heap.size w w') : w'.heap[k]? = w.heap[k]? ∧ Apart w' cb k := by
  obtain ⟨⟨v, b, hm, hv, hbb⟩, hi, hcb, hbel⟩ := h
  refine ⟨hb.block k ha.1, Nat.lt_of_lt_of_le ha.1 hb.size, ha.2.1, fun v1 b1 s1 hc1 => ?_⟩
  obtain ⟨rfl, rfl⟩ := (hm.below hb).uniq hc1
  exact ha.2.2 v b s hm
/-- What lies below B is not the cache's own. -/
theorem Own.old (h : Own B w0 w cb s) (hB : B ≤ w0.heap.size) {k : Nat} (hk : k < B) : Apart w cb k := by
  obtain ⟨⟨v, b, hm, hv, hbb⟩, hi, hcb, hbel⟩ := h
  refine ⟨by have := hbel.size; omega, by omega, fun v1 b1 s1 hc1 => ?_⟩
  obtain ⟨rfl, rfl⟩ := hm.uniq hc1
  exact ⟨by omega, fun e => by have := hv k e; omega⟩

/-- The keys, in a row of their own. -/
def OwnK (B : Nat) (w0 w : World) (cb : Nat) (s : St) (e : Ending) (w' : World) : Prop :=
  ∃ va, e = .returned va ∧ StrsAt w' va (keysOf s) ∧ (∃ a cap, va = .slice a (keysOf s).length cap) ∧ Own B w0 w' cb s ∧ (∀ k, va.ownBlock = some k → k < w'.heap.size → Apart w' cb k) ∧ Below w.heap.size w w'
theorem Own.keys (h : Own B w0 w cb s) (hB : B ≤ w0.heap.size) : Calls Try.prog 20 #[.pointer (some ⟨cb, 0, none⟩)] w (OwnK B w0 w cb s) := by
  have h0 := h
  obtain ⟨⟨v, b, hm, _⟩, _, _, _⟩ := h
  refine (keys_any cb b v s w hm).mono fun e w' ⟨va, he, h1, h2, h3, h4⟩ => ⟨va, he, h1, h3, h0.keep hB h4, fun k hk hl => h0.fresh (h2 k hk) h4 hl, h4⟩
end

/-- A list of strings in a row that is not the cache's own. -/
def Away (w : World) (cb : Nat) (v : Value) (xs : List ByteArray) : Prop := StrsAt w v xs ∧ ∀ k, v.ownBlock = some k → k < w.heap.size → Apart w cb k
theorem Away.step {w w' : World} {cb : Nat} {v : Value} {xs : List ByteArray} (h : Away w cb v xs) (hk : ∀ k, Apart w cb k → w'.heap[k]? = w.heap[k]? ∧ Apart w' cb k) (hs : ∀ k, v.ownBlock = some k → w.heap.size ≤ k → w'.heap.size ≤ k) : Away w' cb v xs := by
  refine ⟨strs_block h.1 fun k hk1 hl => (hk k (h.2 k hk1 hl)).1, fun k hk1 hl => ?_⟩
  by_cases e : k < w.heap.size
  · exact (hk k (h.2 k hk1 e)).2
  · exact absurd (hs k hk1 (by omega)) (by omega)

def BelowPost (w : World) (r : Value) (e : Ending) (w' : World) : Prop := e = .returned r ∧ Below w.heap.size w w'
theorem own_new {w w' : World} {n : Nat} (hn : n ≤ 64) {B : Nat} {w0 : World} (hB : B ≤ w.heap.size) (hb0 : Below B w0 w) (h : CacheAt w' (w.heap.size + 1) w.heap.size (.slice none 0 0) (emptyS n)) (hb : Below w.heap.size w w') : Own B w0 w' (w.heap.size + 1) (emptyS n) :=
  ⟨⟨_, _, h, fun k hk => by simp [Value.ownBlock] at hk, hB⟩, inv_empty n hn, by omega, hb0.trans (hb.mono hB)⟩
end Go.Proofs.Ytoeekjooigijbaa

/-
  A store at a key that is there, in a loop over that map; and a map of counts told by a list. No word of the program's code.
-/
import Derived.Test.YtoeekjooigijbaaSlices
import Derived.Maps.RangeWalk
import Derived.Maps.OwnOps
import Derived.Maps.OwnSet
import Derived.StringKeys
namespace Go.Proofs.Ytoeekjooigijbaa
open Go.ChangeMaps Go.MapKept Go.WideShapes
open Go.WideElems (Fit rd rg pl rd_key rd_val rg_of rd_mk other_key)
open Go.Maps (Keyed sorted_put fit_keys fit_apart filter_one)
set_option linter.unusedVariables false
set_option linter.unusedSimpArgs false

section
variable {H : Type} {P : Program} {k : TypeId} {R : Value → Option (DataW H × List MemPlace)} {w : World} {b r n : Nat} {D : DataW H} {left : Lit → Bool} {cnt : Nat}

/-- 'm[k] = v' where k is there: its entry alone has turned, and it has its stamp still. -/
theorem fit_store_at {t e : TypeId} {es : Array MapEntry} {clock : Nat} (K : Keyed P k) (ht : P.underlying t = some (.map k e)) (hb : w.heap[b]? = some (.map es clock)) (F : Fit P k R es clock)
    {key val : Value} {kl : Lit} {yv : DataW H × List MemPlace} (hkey : keyOf P k key = some kl) (hv : R val = some yv) {x0 : MapEntry} (hx0 : x0 ∈ es.toList) (hx0k : x0.key = key) :
    ∃ es' : Array MapEntry, (Instr.mapUpdate t (.map (some b)) key val).run P w = .ok () (setBlock w b (.map es' clock)) ∧ Fit P k R es' clock ∧ es'.toList.map (·.born) = es.toList.map (·.born) ∧ es'.toList.map (·.key) = es.toList.map (·.key) ∧
      (es'.toList.map (rg P k R)).foldr DataW.insert [] = putKey kl yv.1 ((es.toList.map (rg P k R)).foldr DataW.insert []) := by
  rcases K.find w hkey es.toList F.keys with ⟨h1, h2⟩ | ⟨j, e0, h1, h2, h3⟩
  · exact absurd hx0k (h2 x0 hx0)
  · have hj : es[j]? = some e0 := by simpa using h2
    have hjl : j < es.toList.length := (List.getElem?_eq_some_iff.1 h2).1
    have hkeyf : ∀ e', es[j]? = some e' → ({ e' with key := key, val := val } : MapEntry).key = e'.key := fun e' he' => by rw [hj] at he'; cases he'; exact h3.symm
    have hlist : (es.modify j (fun e' => { e' with key := key, val := val })).toList = es.toList.set j { e0 with key := key, val := val } := by rw [Array.toList_modify, modify_eq_set _ _ _ _ h2]
    have who : ∀ x ∈ es.toList.set j { e0 with key := key, val := val }, x = { e0 with key := key, val := val } ∨ x ∈ es.toList := by
      intro x hx
      exact (List.mem_or_eq_of_mem_set hx).symm
    have hsame : ∀ (f : MapEntry → Nat) , f { e0 with key := key, val := val } = f e0 → (es.toList.set j { e0 with key := key, val := val }).map f = es.toList.map f := by
      intro f hf
      rw [List.map_set, hf]
      refine List.ext_getElem? fun i => ?_
      rw [List.getElem?_set]
      split
      · rename_i e1
        subst e1
        rw [if_pos (by simpa using hjl), List.getElem?_map, h2]
        rfl
      · rfl
    have hsameK : (es.toList.set j { e0 with key := key, val := val }).map (·.key) = es.toList.map (·.key) := by
      rw [List.map_set]
      refine List.ext_getElem? fun i => ?_
      rw [List.getElem?_set]
      split
      · rename_i e1
        subst e1
        rw [if_pos (by simpa using hjl), List.getElem?_map, h2]
        exact congrArg some h3.symm
      · rfl
    refine ⟨es.modify j (fun e' => { e' with key := key, val := val }), ?_, ⟨by simpa using F.size, stamped_modify F.stamped _ _ (fun _ _ => rfl) (fun e' _ he' => hkeyf e' he'), ?_⟩, ?_, ?_, ?_⟩
    · simp [Instr.mapUpdate, run_underlying ht, MapKept.run_getObj_map hb, K.check w false hkey, h1, hj, h3, K.stays w hkey, MapKept.run_setObj_map _ hb, Result.andThen, setBlock]
    · intro x hx
      rw [hlist] at hx
      rcases who x hx with rfl | hx'
      · exact ⟨_, rd_mk hkey hv⟩
      · exact F.reads x hx'
    · rw [hlist]; exact hsame (·.born) rfl
    · rw [hlist]; exact hsameK
    · refine sorted_put K.one ⟨key, hkey⟩ (fit_keys F) (fit_apart K F) ?_
      rw [filter_one K F hkey h2 h3, hlist, List.map_set, rg_of (rd_mk hkey hv)]
      exact set_perm _ _ (by simpa using hjl) _

/-- The store in the round of a loop over that very map, at a key that is there: who is left stays. -/
theorem World.ranges.store_at {t e : TypeId} (h : w.ranges P k R b r n D left cnt) (K : Keyed P k) (ht : P.underlying t = some (.map k e)) {key val : Value} {kl : Lit} {d : DataW H} {ps : List MemPlace}
    (hkey : keyOf P k key = some kl) (hv : R val = some (d, ps)) (hhas : Maps.has D kl = true) :
    ∃ w', (Instr.mapUpdate t (.map (some b)) key val).run P w = .ok () w' ∧ w'.ranges P k R b r n (D.put kl d) left cnt ∧ w.mapTurned w' b := by
  have hne := h.ne
  obtain ⟨es, clock, since, seen, c0, hb, F, hs, rfl, hr, hold, hcnt, hl1, hl2, hsc, hsk⟩ := h
  obtain ⟨p, hp, hpk⟩ := List.any_eq_true.1 hhas
  obtain ⟨x0, hx0, rfl⟩ := List.mem_map.1 (mem_sorted.1 hp)
  have hx0k : x0.key = key := by
    obtain ⟨y, hy⟩ := F.reads x0 hx0
    have e1 := WideAt.sameKey_eq hpk
    rw [rg_of hy] at e1
    exact K.inj (e1 ▸ rd_key hy) hkey
  obtain ⟨es', hrun, F', hbn, hky, hput⟩ := fit_store_at (t := t) (e := e) K ht hb F hkey hv hx0 hx0k
  have hlen : es'.toList.length = es.toList.length := by simpa using congrArg List.length hbn
  -- an entry of the new ones: an old one has its key and its stamp
  have old : ∀ x ∈ es'.toList, ∃ z ∈ es.toList, z.key = x.key ∧ z.born = x.born := by
    intro x hx
    obtain ⟨i, hi, rfl⟩ := List.getElem_of_mem hx
    have hi' : i < es.toList.length := hlen ▸ hi
    refine ⟨es.toList[i], List.getElem_mem hi', ?_, ?_⟩
    · have e1 := congrArg (fun l => l[i]?) hky
      simp only [List.getElem?_map, List.getElem?_eq_getElem hi, List.getElem?_eq_getElem hi', Option.map_some, Option.some.injEq] at e1
      exact e1.symm
    · have e1 := congrArg (fun l => l[i]?) hbn
      simp only [List.getElem?_map, List.getElem?_eq_getElem hi, List.getElem?_eq_getElem hi', Option.map_some, Option.some.injEq] at e1
      exact e1.symm
  have new : ∀ z ∈ es.toList, ∃ x ∈ es'.toList, z.key = x.key ∧ z.born = x.born := by
    intro z hz
    obtain ⟨i, hi', rfl⟩ := List.getElem_of_mem hz
    have hi : i < es'.toList.length := hlen.symm ▸ hi'
    refine ⟨es'.toList[i], List.getElem_mem hi, ?_, ?_⟩
    · have e1 := congrArg (fun l => l[i]?) hky
      simp only [List.getElem?_map, List.getElem?_eq_getElem hi, List.getElem?_eq_getElem hi', Option.map_some, Option.some.injEq] at e1
      exact e1.symm
    · have e1 := congrArg (fun l => l[i]?) hbn
      simp only [List.getElem?_map, List.getElem?_eq_getElem hi, List.getElem?_eq_getElem hi', Option.map_some, Option.some.injEq] at e1
      exact e1.symm
  have keyEq : ∀ x ∈ es'.toList, ∀ z ∈ es.toList, z.key = x.key → (rg P k R x).1 = (rg P k R z).1 := by
    intro x hx z hz e1
    obtain ⟨y, hy⟩ := F'.reads x hx
    obtain ⟨y', hy'⟩ := F.reads z hz
    rw [rg_of hy, rg_of hy']
    have m1 := rd_key hy
    have m2 := rd_key hy'
    rw [e1, m1] at m2
    exact Option.some.inj m2
  refine ⟨_, hrun, ⟨es', clock, since, seen, c0, heap_setBlock_same hb _, F', ?_, by rw [DataW.put_eq, hput], (heap_setBlock_other hb _ hne).trans hr, ?_, ?_, ?_, ?_, hsc, hsk⟩, ⟨es, clock, es', clock, hb, rfl⟩⟩
  · have : es'.size = es.size := by simpa using hlen
    omega
  · intro x hx
    obtain ⟨z, hz, _, e2⟩ := old x hx
    rw [← e2]; exact hold z hz
  · rw [← hcnt]
    have e1 : ∀ a : Array MapEntry, (leftOf a seen).size = ((a.toList.map (·.born)).filter fun e => !seen.contains e).length := fun a => by
      unfold leftOf
      rw [← Array.length_toList, Array.toList_filter, List.filter_map, List.length_map]
      rfl
    rw [e1, e1, hbn]
  · intro x hx
    obtain ⟨z, hz, e1, e2⟩ := old x hx
    rw [keyEq x hx z hz e1, hl1 z hz, e2]
  · intro kl' hkl'
    obtain ⟨z, hz, rfl⟩ := hl2 kl' hkl'
    obtain ⟨x, hx, e1, _⟩ := new z hz
    exact ⟨x, hx, keyEq x hx z hz e1⟩
end

/-! ### counts, as a list -/
theorem law9 : Keyed Try.prog 9 := Go.Maps.string_keyed Try.underlying9
theorem zero3 (w : World) : (zeroValue 3).run Try.prog w = .ok (.int .i64 0) w := by kernel_rfl

noncomputable def Rm : Value → Option (DataW Unit × List MemPlace) := plainElem Try.prog 3
def kl (s : ByteArray) : Lit := .string s.data.toList
theorem key9 {s : ByteArray} (h : s.size ≤ maxLen) : keyOf Try.prog 9 (.string s) = some (kl s) := Go.WideMaps.keyOf_string_mk Try.underlying9 h
theorem kl_inj {s t : ByteArray} (h : kl s = kl t) : s = t := by
  unfold kl at h
  simp only [Lit.string.injEq] at h
  cases s; cases t
  simp only [ByteArray.mk.injEq]
  exact Array.toList_inj.1 h

abbrev Cs := List (ByteArray × Nat)
def often (cs : Cs) (s : ByteArray) : Nat := ((cs.find? fun p => decide (p.1 = s)).map (·.2)).getD 0
def there (cs : Cs) (s : ByteArray) : Bool := cs.any fun p => decide (p.1 = s)

structure Reads (D : DataW Unit) (cs : Cs) : Prop where
  has : ∀ s, s.size ≤ maxLen → Maps.has D (kl s) = there cs s
  at_ : ∀ s, s.size ≤ maxLen → D.atKey (kl s) (.lit (.int .i64 0)) = .lit (.int .i64 (often cs s))

structure Good (cs : Cs) : Prop where
  apart : cs.Pairwise (fun p q => p.1 ≠ q.1)
  ok : ∀ p ∈ cs, p.1.size ≤ maxLen ∧ 1 ≤ p.2 ∧ p.2 ≤ 15

theorem len_le {α : Type} : ∀ (l m : List α), l.Pairwise (· ≠ ·) → (∀ x ∈ l, x ∈ m) → l.length ≤ m.length
  | [], _, _, _ => Nat.zero_le _
  | x :: l, m, hp, hm => by
    obtain ⟨h1, h2⟩ := List.pairwise_cons.1 hp
    obtain ⟨s, t, rfl⟩ := List.append_of_mem (hm x (List.mem_cons_self ..))
    have := len_le l (s ++ t) h2 fun y hy => by
      have hy' := hm y (List.mem_cons_of_mem _ hy)
      simp only [List.mem_append, List.mem_cons] at hy' ⊢
      rcases hy' with h | h | h
      · exact .inl h
      · exact absurd h.symm (h1 y hy)
      · exact .inr h
    simp only [List.length_cons, List.length_append] at this ⊢
    omega

theorem string_entries {w : World} {b n : Nat} {D : DataW Unit} (h : w.ownsMap Try.prog 9 Rm b n D) :
    ∃ es, D = .map es ∧ es.Pairwise (fun p q => p.1 ≠ q.1) ∧ (∀ p ∈ es, ∃ s : ByteArray, s.size ≤ maxLen ∧ p.1 = kl s) ∧ es.length ≤ n := by
  obtain ⟨es, clock, _, F, hs, rfl⟩ := h
  refine ⟨_, rfl, ((sorted_perm _).pairwise_iff (fun {_ _} hne => Ne.symm hne)).2 (fit_apart law9 F), fun p hp => ?_, by rw [length_sorted]; simpa using hs⟩
  obtain ⟨x, hx, rfl⟩ := List.mem_map.1 (mem_sorted.1 hp)
  obtain ⟨y, hy⟩ := F.reads x hx
  rw [rg_of hy]
  have h1 := rd_key hy
  obtain ⟨l, ⟨hk, hl⟩⟩ : ∃ s : ByteArray, x.key = .string s ∧ s.size ≤ maxLen := by
    cases hk : x.key <;> rw [hk] at h1 <;> simp [keyOf, Try.underlying9, mapKey] at h1
    exact ⟨_, rfl, h1.1⟩
  rw [hk, key9 hl] at h1
  exact ⟨l, hl, (Option.some.inj h1).symm⟩

theorem size_reads {w : World} {b n : Nat} {D : DataW Unit} {cs : Cs} (h : w.ownsMap Try.prog 9 Rm b n D) (hr : Reads D cs) (hg : Good cs) : Maps.size D = cs.length := by
  obtain ⟨es, rfl, hp, hk, _⟩ := string_entries h
  rw [Maps.size_eq]
  refine Nat.le_antisymm ?_ ?_
  · have := len_le (es.map (·.1)) (cs.map fun p => kl p.1) (List.pairwise_map.2 hp) fun x hx => by
      obtain ⟨p, hp1, rfl⟩ := List.mem_map.1 hx
      obtain ⟨s, hs, e⟩ := hk p hp1
      have h1 := hr.has s hs
      have h2 : Maps.has (DataW.map es) (kl s) = true := List.any_eq_true.2 ⟨p, hp1, by rw [e]; exact WideAt.sameKey_self (law9.key (key9 hs))⟩
      rw [h2] at h1
      obtain ⟨q, hq, hqs⟩ := List.any_eq_true.1 h1.symm
      exact List.mem_map.2 ⟨q, hq, by rw [e, of_decide_eq_true hqs]⟩
    simpa using this
  · have := len_le (cs.map fun p => kl p.1) (es.map (·.1)) (List.pairwise_map.2 (hg.apart.imp fun h e => h (kl_inj e))) fun x hx => by
      obtain ⟨p, hp1, rfl⟩ := List.mem_map.1 hx
      have h1 := hr.has p.1 (hg.ok p hp1).1
      have h2 : there cs p.1 = true := List.any_eq_true.2 ⟨p, hp1, decide_eq_true rfl⟩
      rw [h2] at h1
      obtain ⟨q, hq, hqs⟩ := List.any_eq_true.1 h1
      exact List.mem_map.2 ⟨q, hq, WideAt.sameKey_eq hqs⟩
    simpa using this

/-- The map's block reads as these counts. -/
def CountsAt (w : World) (b : Nat) (cs : Cs) : Prop := Good cs ∧ ∃ D, w.ownsMap Try.prog 9 Rm b cs.length D ∧ Reads D cs

theorem CountsAt.intro {w : World} {b n : Nat} {D : DataW Unit} {cs : Cs} (hg : Good cs) (h : w.ownsMap Try.prog 9 Rm b n D) (hr : Reads D cs) : CountsAt w b cs := by
  have hsz := size_reads h hr hg
  refine ⟨hg, D, ?_, hr⟩
  obtain ⟨es, clock, hb, F, hs, rfl⟩ := h
  rw [Maps.size_eq, length_sorted] at hsz
  exact ⟨es, clock, hb, F, by rw [← hsz]; simp, rfl⟩

theorem often_le {cs : Cs} (hg : Good cs) (s : ByteArray) : often cs s ≤ 15 := by
  unfold often
  cases h : cs.find? fun p => decide (p.1 = s) with
  | none => simp
  | some p => simpa using (hg.ok p (List.mem_of_find?_eq_some h)).2.2
theorem often_pos {cs : Cs} (hg : Good cs) (s : ByteArray) : there cs s = decide (0 < often cs s) := by
  unfold often there
  cases h : cs.find? fun p => decide (p.1 = s) with
  | none =>
    have : cs.any (fun p => decide (p.1 = s)) = false := by
      rw [List.any_eq_false]
      exact fun p hp => by simpa using List.find?_eq_none.1 h p hp
    rw [this]; simp
  | some p =>
    have h1 := (hg.ok p (List.mem_of_find?_eq_some h)).2.1
    have : cs.any (fun p => decide (p.1 = s)) = true := List.any_eq_true.2 ⟨p, List.mem_of_find?_eq_some h, by simpa using List.find?_some h⟩
    rw [this]; simp; omega

/-- A key is counted. -/
def counted (cs : Cs) (s : ByteArray) : Cs := if there cs s then cs.map fun p => if p.1 = s then (p.1, min (p.2 + 1) 15) else p else cs ++ [(s, 1)]
/-- All counts are halved. -/
def halved (cs : Cs) : Cs := cs.filterMap fun p => if 1 < p.2 then some (p.1, p.2 / 2) else none

theorem find_update (f : ByteArray × Nat → Nat) (s : ByteArray) : ∀ (cs : Cs) (t : ByteArray),
    ((cs.map fun p => if p.1 = s then (p.1, f p) else p).find? fun p => decide (p.1 = t)) = (cs.find? fun p => decide (p.1 = t)).map fun p => if p.1 = s then (p.1, f p) else p
  | [], t => rfl
  | q :: cs, t => by
    have ih := find_update f s cs t
    rw [List.map_cons, List.find?_cons, List.find?_cons, ih]
    by_cases h : q.1 = s
    · simp only [h, if_true]
      by_cases h2 : s = t
      · simp [h2, h]
      · simp [h2]
    · simp only [h, if_false]
      by_cases h2 : q.1 = t
      · simp [h2]; intro e; exact absurd (h2.trans e) h
      · simp [h2]

theorem often_counted {cs : Cs} (hg : Good cs) (s t : ByteArray) : often (counted cs s) t = if t = s then min (often cs s + 1) 15 else often cs t := by
  unfold counted
  cases hth : there cs s with
  | true =>
    rw [if_pos rfl]
    unfold often
    rw [find_update (fun p => min (p.2 + 1) 15)]
    by_cases e : t = s
    · subst e
      rw [if_pos rfl]
      cases h : cs.find? fun p => decide (p.1 = t) with
      | none =>
        have := often_pos hg t
        rw [hth] at this
        unfold often at this
        rw [h] at this
        simp at this
      | some p =>
        have : p.1 = t := by simpa using List.find?_some h
        simp [this]
    · rw [if_neg e]
      cases h : cs.find? fun p => decide (p.1 = t) with
      | none => simp
      | some p =>
        have : p.1 = t := by simpa using List.find?_some h
        have : p.1 ≠ s := by rw [this]; exact e
        simp [this]
  | false =>
    rw [if_neg (by simp)]
    unfold often
    rw [List.find?_append]
    by_cases e : t = s
    · subst e
      rw [if_pos rfl]
      have h : cs.find? (fun p => decide (p.1 = t)) = none := by
        rw [List.find?_eq_none]
        intro p hp
        have := List.any_eq_false.1 hth p hp
        simpa using this
      simp [h]
    · rw [if_neg e]
      have h : [(s, 1)].find? (fun p : ByteArray × Nat => decide (p.1 = t)) = none := by simp; exact fun e' => e e'.symm
      rw [h]; simp

theorem good_counted {cs : Cs} (hg : Good cs) {s : ByteArray} (hs : s.size ≤ maxLen) : Good (counted cs s) := by
  unfold counted
  cases hth : there cs s with
  | true =>
    rw [if_pos rfl]
    refine ⟨List.pairwise_map.2 (hg.apart.imp fun {p q} h => ?_), fun p hp => ?_⟩
    · have : ∀ p : ByteArray × Nat, (if p.1 = s then (p.1, min (p.2 + 1) 15) else p).1 = p.1 := fun p => by split <;> rfl
      rw [this, this]; exact h
    · obtain ⟨q, hq, rfl⟩ := List.mem_map.1 hp
      have := hg.ok q hq
      split
      · exact ⟨this.1, by simp; omega, by simp; omega⟩
      · exact this
  | false =>
    rw [if_neg (by simp)]
    refine ⟨List.pairwise_append.2 ⟨hg.apart, by simp, fun p hp q hq => ?_⟩, fun p hp => ?_⟩
    · simp only [List.mem_singleton] at hq
      subst hq
      have := List.any_eq_false.1 hth p hp
      simpa using this
    · rcases List.mem_append.1 hp with h | h
      · exact hg.ok p h
      · simp only [List.mem_singleton] at h
        subst h
        exact ⟨hs, by simp, by simp⟩

theorem often_halved {cs : Cs} (hg : Good cs) (t : ByteArray) : often (halved cs) t = often cs t / 2 := by
  have ha := hg.apart
  clear hg
  unfold often halved
  induction cs with
  | nil => simp
  | cons q cs ih =>
    obtain ⟨h1, h2⟩ := List.pairwise_cons.1 ha
    have ih := ih h2
    by_cases e : q.1 = t
    · have hn : cs.find? (fun p => decide (p.1 = t)) = none := by
        rw [List.find?_eq_none]
        intro p hp
        have := h1 p hp
        simp only [decide_eq_true_eq]
        exact fun e' => this (e.trans e'.symm)
      rw [hn] at ih
      rw [List.find?_cons_of_pos (by simpa using e)]
      by_cases h : 1 < q.2
      · rw [List.filterMap_cons, if_pos h]
        simp [e]
      · rw [List.filterMap_cons, if_neg h]
        simp only [Option.map_none, Option.getD_none] at ih
        have hq : q.2 / 2 = 0 := by omega
        simp only [Option.map_some, Option.getD_some, hq]
        simpa using ih
    · rw [List.find?_cons_of_neg (by simpa using e), List.filterMap_cons]
      by_cases h : 1 < q.2
      · rw [if_pos h]
        simp only
        rw [List.find?_cons_of_neg (by simpa using e)]
        exact ih
      · rw [if_neg h]
        simpa using ih

theorem good_halved {cs : Cs} (hg : Good cs) : Good (halved cs) := by
  refine ⟨List.pairwise_filterMap.2 (hg.apart.imp fun {p q} h x hx y hy => ?_), fun p hp => ?_⟩
  · split at hx
    · split at hy
      · cases hx; cases hy; exact h
      · cases hy
    · cases hx
  · obtain ⟨q, hq, hqp⟩ := List.mem_filterMap.1 hp
    have := hg.ok q hq
    split at hqp
    · cases hqp
      exact ⟨this.1, by simp; omega, by simp; omega⟩
    · cases hqp
end Go.Proofs.Ytoeekjooigijbaa

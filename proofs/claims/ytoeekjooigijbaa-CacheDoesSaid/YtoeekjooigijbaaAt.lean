/-
  Where a key is in a cache; a thing comes first; what is asked for, offered, forgotten, told. Each method is walked once.
-/
import Derived.Test.YtoeekjooigijbaaCache
namespace Go.Proofs.Ytoeekjooigijbaa
open Go.RowKit
set_option linter.unusedVariables false
set_option linter.unusedSimpArgs false

def place (l : List Th) (k : ByteArray) : Option Nat := l.findIdx? fun p => decide (p.1 = k)
def placeI (l : List Th) (k : ByteArray) : Int := match place l k with | some i => i | none => -1

theorem place_some {l : List Th} {k : ByteArray} {j : Nat} {p : Th} (hp : l[j]? = some p) (e : p.1 = k) (hall : ∀ (t : Nat) (q : Th), t < j → l[t]? = some q → q.1 ≠ k) : place l k = some j := by
  unfold place
  rw [List.findIdx?_eq_some_iff_getElem]
  obtain ⟨hj, hpj⟩ := List.getElem?_eq_some_iff.1 hp
  refine ⟨hj, by rw [hpj]; exact decide_eq_true e, fun t ht => ?_⟩
  have := hall t l[t] ht (List.getElem?_eq_getElem _)
  simpa using this
theorem place_none {l : List Th} {k : ByteArray} (hall : ∀ (t : Nat) (q : Th), l[t]? = some q → q.1 ≠ k) : place l k = none := by
  unfold place
  rw [List.findIdx?_eq_none_iff]
  intro q hq
  obtain ⟨t, ht⟩ := List.getElem?_of_mem hq
  exact decide_eq_false (hall t q ht)
theorem place_lt {l : List Th} {k : ByteArray} {j : Nat} (h : place l k = some j) : ∃ p, l[j]? = some p ∧ p.1 = k ∧ ∀ (t : Nat) (q : Th), t < j → l[t]? = some q → q.1 ≠ k := by
  unfold place at h
  rw [List.findIdx?_eq_some_iff_getElem] at h
  obtain ⟨hj, h1, h2⟩ := h
  refine ⟨l[j], List.getElem?_eq_getElem hj, of_decide_eq_true h1, fun t q ht hq => ?_⟩
  obtain ⟨_, rfl⟩ := List.getElem?_eq_some_iff.1 hq
  have := h2 t ht
  simpa using this

theorem is_any (p : Th) (kb : Nat) (k : ByteArray) (w : World) (hk : w.cell? ⟨kb, 0, none⟩ = some (.string k)) :
    Calls Try.prog 35 #[.agg #[.string p.1, .string p.2], .pointer (some ⟨kb, 0, none⟩)] w fun e w' => e = .returned (.bool (decide (p.1 = k))) ∧ w' = w.alloc (.cells #[.string p.1, .string p.2] 60) := by
  have hlt := World.block_lt_of_cell? w _ hk
  obtain ⟨p1, p2⟩ := p
  have hk' : (w.alloc (.cells #[.string p1, .string p2] 60)).cell? ⟨kb, 0, none⟩ = some (.string k) := by rw [World.cell?_alloc_lt _ _ _ hlt]; exact hk
  clear hk hlt
  go_enter Try.func35, Try.ntmps35
  go_wp2_with fail
  go_ret
  rw [← str_beq]
  exact ⟨rfl, rfl⟩

theorem index_any (v : Value) (l : List Th) (kb : Nat) (k : ByteArray) (w : World) (hm : l.length ≤ 64) (hv : ∃ a cap, v = .slice a l.length cap)
    (hc : ∀ i p, l[i]? = some p → ∃ g cap, v = .slice (some ⟨g, 0, none⟩) l.length cap ∧ w.cell? ⟨g, i * 2, none⟩ = some (.string p.1) ∧ w.cell? ⟨g, i * 2 + 1, none⟩ = some (.string p.2)) (hk : w.cell? ⟨kb, 0, none⟩ = some (.string k)) :
    Calls Try.prog 34 #[v, .func (.func 35) #[] #[.pointer (some ⟨kb, 0, none⟩)]] w fun e w' => e = .returned (.int .i64 (placeI l k)) ∧ Below w.heap.size w w' := by
  obtain ⟨a, cap, rfl⟩ := hv
  obtain ⟨n, hn⟩ : ∃ n, n = l.length := ⟨_, rfl⟩
  rw [← hn] at hc hm ⊢
  have HC := Lib.hid hc
  have HN := Lib.hid hn
  have HK := Lib.hid hk
  clear hc hn hk
  go_enter Try.func34, Try.ntmps34
  go_wp2_with fail
  go_loopw [8] (fun i wr => ∃ j : Nat, j ≤ n ∧ i = .int .i64 j ∧ (∀ (t : Nat) (p : Th), t < j → l[t]? = some p → p.1 ≠ k) ∧ Below w.heap.size w wr) (fun i _ => n - (intOf i).toNat)
  case atStart => exact ⟨0, Nat.zero_le _, rfl, fun t p h => by omega, Below.refl _ w⟩
  case round =>
    obtain ⟨j, hj, rfl, hall, hb⟩ := hrel
    have HA := Lib.hid hall
    have HB := Lib.hid hb
    by_cases hjn : j < n
    · obtain ⟨p, hp⟩ : ∃ p, l[j]? = some p := ⟨_, List.getElem?_eq_getElem (by rw [← HN.out]; exact hjn)⟩
      obtain ⟨g, cap', hv, q1, q2⟩ := HC.out j p hp
      simp only [Value.slice.injEq, true_and] at hv
      obtain ⟨rfl, rfl⟩ := hv
      have hl := World.block_lt_of_cell? w _ q1
      have q1' : wr.cell? ⟨g, j * 2, none⟩ = some (.string p.1) := (hb.cell (p := ⟨g, j * 2, none⟩) hl).trans q1
      have q2' : wr.cell? ⟨g, j * 2 + 1, none⟩ = some (.string p.2) := (hb.cell (p := ⟨g, j * 2 + 1, none⟩) hl).trans q2
      have D := Lib.hid (is_any p kb k wr ((hb.cell (p := ⟨kb, 0, none⟩) (World.block_lt_of_cell? w _ HK.out)).trans HK.out))
      have HP := Lib.hid hp
      have b1 : (j : Int) < (n : Int) := by omega
      clear hp q1 q2 hall hb hl
      by_cases hpk : p.1 = k
      · rw [decide_eq_true hpk] at D
        have HE := Lib.hid hpk
        clear hpk
        go_wp2_with fail
        refine D.out.mono ?_
        rintro e w2 ⟨rfl, rfl⟩
        go_wp2_with fail
        go_ret
        have hpl : placeI l k = j := by unfold placeI; rw [place_some HP.out HE.out HA.out]
        rw [hpl]
        exact ⟨rfl, HB.out.trans ((Below.refl _ wr).alloc HB.out.size _)⟩
      · rw [decide_eq_false hpk] at D
        have HE := Lib.hid hpk
        clear hpk
        go_wp2_with fail
        refine D.out.mono ?_
        rintro e w2 ⟨rfl, rfl⟩
        go_wp2_with fail
        refine ⟨⟨j + 1, by omega, by go_num, fun t p' ht hp' => ?_, HB.out.trans ((Below.refl _ wr).alloc HB.out.size _)⟩, by simp [intOf]; omega⟩
        by_cases e : t = j
        · subst e
          rw [HP.out] at hp'
          cases hp'
          exact HE.out
        · exact HA.out t p' (by omega) hp'
    · have b1 : ¬ (j : Int) < (n : Int) := by omega
      have hnone : place l k = none := place_none fun t p hp => HA.out t p (by have := (List.getElem?_eq_some_iff.1 hp).1; rw [← HN.out] at this; omega) hp
      have HNN := Lib.hid hnone
      clear hnone hall hb
      go_wp2_with fail
      go_ret
      have hpl : placeI l k = -1 := by unfold placeI; rw [HNN.out]
      rw [hpl]
      exact ⟨rfl, HB.out⟩

/-- A key's place. -/
theorem at_any (cb b : Nat) (v : Value) (s : St) (k : ByteArray) (w : World) (h : CacheAt w cb b v s) :
    Calls Try.prog 27 #[.pointer (some ⟨cb, 0, none⟩), .string k] w fun e w' => e = .returned (.int .i64 (placeI s.all k)) ∧ Below w.heap.size w w' := by
  have hA := h.alloc (.cells #[.string k] 9)
  have c1 := hA.c1
  have D := Lib.hid (index_any v s.all w.heap.size k (w.alloc (.cells #[.string k] 9)) (Nat.le_trans h.fits h.hi) h.slice (fun i p hp => hA.thing hp) (by have e := heap_alloc_new w (.cells #[.string k] 9); unfold World.cell?; simp only [e]; rfl))
  clear h hA
  go_enter Try.func27, Try.ntmps27
  go_wp2_with fail
  refine D.out.mono ?_
  rintro e w2 ⟨rfl, hb⟩
  have HB := Lib.hid hb
  clear hb
  go_wp2_with fail
  go_ret
  exact ⟨rfl, ((Below.refl _ w).alloc (Nat.le_refl _) _).trans (HB.out.mono (by simp))⟩
end Go.Proofs.Ytoeekjooigijbaa

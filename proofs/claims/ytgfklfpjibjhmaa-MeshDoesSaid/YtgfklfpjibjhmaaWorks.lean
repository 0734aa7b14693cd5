/-
  The laws' fixed facts ('works'), and whether the acts are few enough to be looked at.
-/
import Derived.Test.YtgfklfpjibjhmaaDo
namespace Go.Proofs.Ytgfklfpjibjhmaa
open Go.RowKit
set_option linter.unusedVariables false
set_option linter.unusedSimpArgs false

/-- A mesh of the call's own: all its blocks lie from B on; below B all is as it was in w0. -/
structure Own (B : Nat) (w0 w : World) (mb : Nat) (room : Nat) (xs : List ByteArray) : Prop where
  at_ : ∃ v, MeshAt w mb v room xs ∧ ∀ k, v.ownBlock = some k → B ≤ k
  mb : B ≤ mb
  below : Below B w0 w

theorem Own.step {B : Nat} {w0 w w' : World} {mb room : Nat} {xs xs' : List ByteArray} {v v' : Value} (hB : B ≤ w.heap.size) (hm : B ≤ mb) (hv : ∀ k, v.ownBlock = some k → B ≤ k) (hb : Below B w0 w)
    (h' : MeshAt w' mb v' room xs') (ht : Turned w.heap.size w w' mb v v') : Own B w0 w' mb room xs' :=
  ⟨⟨v', h', fun k hk => (ht.own k hk).elim (hv k) (fun e => by omega)⟩, hm, hb.trans (ht.below hB hm hv)⟩

theorem Own.post {B : Nat} {w0 w : World} {mb room : Nat} {xs xs' : List ByteArray} {f : FuncId} {args : Array Value} {r : Value} (h : Own B w0 w mb room xs) (hB : B ≤ w0.heap.size)
    (hc : ∀ v, MeshAt w mb v room xs → Calls Try.prog f args w (MeshPost w mb v room xs' r)) :
    Calls Try.prog f args w fun e w' => e = .returned r ∧ Own B w0 w' mb room xs' := by
  obtain ⟨⟨v, hm, hv⟩, hmb, hb⟩ := h
  exact (hc v hm).mono fun e w' ⟨he, v', hm', ht⟩ => ⟨he, .step (xs := xs) (Nat.le_trans hB hb.size) hmb hv hb hm' ht⟩

theorem Own.keep {B : Nat} {w0 w w' : World} {mb room : Nat} {xs : List ByteArray} (h : Own B w0 w mb room xs) (hB : B ≤ w.heap.size) (hb : Below w.heap.size w w') : Own B w0 w' mb room xs := by
  obtain ⟨⟨v, hm, hv⟩, hmb, hb0⟩ := h
  exact ⟨⟨v, hm.below hb, hv⟩, hmb, hb0.trans (hb.mono hB)⟩

def BelowPost (w : World) (r : Value) (e : Ending) (w' : World) : Prop := e = .returned r ∧ Below w.heap.size w w'

set_option maxHeartbeats 1000000 in
theorem works_any (w : World) : Calls Try.prog 8 #[] w (BelowPost w (.bool true)) := by
  have hB := Nat.le_refl w.heap.size
  have D0 := Lib.hid (new_any 2 w (by omega) (by omega))
  go_enter Try.func8, Try.ntmps8
  go_wp2_with fail
  refine D0.out.mono ?_
  rintro e w1 ⟨rfl, hm1, hb1⟩
  have h1 : Own w.heap.size w w1 w.heap.size 2 [] := ⟨⟨_, hm1, fun k hk => by simp [Value.ownBlock] at hk⟩, Nat.le_refl _, hb1⟩
  have D1 := Lib.hid (h1.post (xs' := [⟨#[97]⟩]) (r := .bool true) hB (fun v hm => send_all _ v 2 [] w1 hm ⟨#[97]⟩))
  clear h1 hm1 hb1
  go_wp2_with fail
  refine D1.out.mono ?_
  rintro e w2 ⟨rfl, h2⟩
  have D2 := Lib.hid (h2.post (xs' := [⟨#[97]⟩, ⟨#[98]⟩]) (r := .bool true) hB (fun v hm => send_all _ v 2 [⟨#[97]⟩] w2 hm ⟨#[98]⟩))
  clear h2
  go_wp2_with fail
  refine D2.out.mono ?_
  rintro e w3 ⟨rfl, h3⟩
  have D3 := Lib.hid (h3.post (xs' := [⟨#[97]⟩, ⟨#[98]⟩]) (r := .bool false) hB (fun v hm => send_all _ v 2 [⟨#[97]⟩, ⟨#[98]⟩] w3 hm ⟨#[99]⟩))
  clear h3
  go_wp2_with fail
  refine D3.out.mono ?_
  rintro e w4 ⟨rfl, h4⟩
  have D4 := Lib.hid (h4.post (xs' := [⟨#[97]⟩]) (r := .tuple #[.string ⟨#[98]⟩, .bool true]) hB (fun v hm => take_all _ v 2 [⟨#[97]⟩, ⟨#[98]⟩] w4 hm 1))
  clear h4
  go_wp2_with fail
  refine D4.out.mono ?_
  rintro e w5 ⟨rfl, h5⟩
  have D5 := Lib.hid (h5.post (xs' := [⟨#[97]⟩, ⟨#[97]⟩]) (r := .bool true) hB (fun v hm => double_all _ v 2 [⟨#[97]⟩] w5 hm 0))
  clear h5
  go_wp2_with fail
  refine D5.out.mono ?_
  rintro e w6 ⟨rfl, h6⟩
  have D6 := Lib.hid (h6.post (xs' := [⟨#[97]⟩]) (r := .bool true) hB (fun v hm => drop_all _ v 2 [⟨#[97]⟩, ⟨#[97]⟩] w6 hm 0))
  clear h6
  go_wp2_with fail
  refine D6.out.mono ?_
  rintro e w7 ⟨rfl, h7⟩
  have D7 := Lib.hid (h7.post (xs' := [⟨#[97]⟩]) (r := .bool true) hB (fun v hm => move_all _ v 2 [⟨#[97]⟩] w7 hm 0 0))
  clear h7
  go_wp2_with fail
  refine D7.out.mono ?_
  rintro e w8 ⟨rfl, h8⟩
  have D8 := Lib.hid (h8.post (xs' := [⟨#[97]⟩]) (r := .tuple #[.string ⟨#[]⟩, .bool false]) hB (fun v hm => take_all _ v 2 [⟨#[97]⟩] w8 hm 5))
  clear h8
  go_wp2_with fail
  refine D8.out.mono ?_
  rintro e w9 ⟨rfl, h9⟩
  have H9 := Lib.hid h9
  obtain ⟨⟨v, hm9, _⟩, _, _⟩ := h9
  have C := Lib.hid (count_any _ v 2 _ ⟨#[97]⟩ w9 hm9)
  have A := Lib.hid (all_any _ v 2 _ w9 hm9)
  clear hm9
  go_wp2_with fail
  refine C.out.mono ?_
  rintro e w' ⟨rfl, rfl⟩
  have hc : (((countOf ⟨#[97]⟩ [⟨#[97]⟩] : Nat) : Int) == 1) = true := by rfl
  go_wp2_with fail
  refine A.out.mono ?_
  rintro e w' ⟨va, rfl, ⟨a, cap, rfl, _⟩, _, hb⟩
  have HB := Lib.hid hb
  clear hb
  go_wp2_with fail
  go_ret
  exact ⟨rfl, H9.out.below.trans (HB.out.mono H9.out.below.size)⟩

/-- The value is a slice of these acts in this world. -/
def ActsAt (w : World) (v : Value) (l : List ActD) : Prop :=
  ∃ a cap, v = .slice a l.length cap ∧ ∀ i x, l[i]? = some x → ∃ b o, a = some ⟨b, o, none⟩ ∧ w.cell? ⟨b, o + i * 4, none⟩ = some (.int .i64 x.K) ∧ w.cell? ⟨b, o + i * 4 + 1, none⟩ = some (.string x.S) ∧
    w.cell? ⟨b, o + i * 4 + 2, none⟩ = some (.int .i64 x.N) ∧ w.cell? ⟨b, o + i * 4 + 3, none⟩ = some (.int .i64 x.To)

def FewPost (w : World) (l : List ActD) (e : Ending) (w' : World) : Prop := ∃ b, e = .returned (.bool b) ∧ (b = true → l.length ≤ 100) ∧ w = w'

set_option maxHeartbeats 400000 in
theorem few_any (w : World) (v : Value) (l : List ActD) (h : ActsAt w v l) (hm : l.length ≤ maxLen) : Calls Try.prog 10 #[v] w (FewPost w l) := by
  obtain ⟨a, cap, rfl, hc⟩ := h
  unfold maxLen at hm
  obtain ⟨n, hn⟩ : ∃ n, n = l.length := ⟨_, rfl⟩
  rw [← hn]
  have hm' : n ≤ 9223372036854775807 := by omega
  have HC := Lib.hid hc
  have HN := Lib.hid hn
  clear hm hc hn
  go_enter Try.func10, Try.ntmps10
  go_wp2
  go_loop [3] (fun i => ∃ k : Nat, k ≤ n ∧ k ≤ 101 ∧ i = .int .i64 k) (fun i => 101 - (intOf i).toNat)
  case atStart => exact ⟨0, Nat.zero_le _, Nat.zero_le _, rfl⟩
  case round =>
    obtain ⟨k, hk, hk1, rfl⟩ := hrel
    by_cases hlt : k < n
    · have b1 : (k : Int) < (n : Int) := by omega
      by_cases hle : k ≤ 100
      · have b2 : (k : Int) ≤ 100 := by omega
        obtain ⟨x, hx⟩ : ∃ x, l[k]? = some x := ⟨_, List.getElem?_eq_getElem (by rw [← HN.out]; exact hlt)⟩
        obtain ⟨b, o, rfl, q0, q1, q2, q3⟩ := HC.out k x hx
        clear hx q0 q2 q3
        go_wp2
        · go_ret
          exact ⟨false, rfl, fun h => (by cases h), rfl⟩
        · exact ⟨⟨k + 1, by omega, by omega, by go_num⟩, by simp [intOf]; omega⟩
      · have b2 : ¬ (k : Int) ≤ 100 := by omega
        have b3 : ¬ (n : Int) ≤ 100 := by omega
        go_wp2
        go_ret
        exact ⟨_, rfl, fun h => (by cases h), rfl⟩
    · have b1 : ¬ (k : Int) < (n : Int) := by omega
      go_wp2
      go_ret
      refine ⟨_, rfl, fun h => ?_, rfl⟩
      have h := of_decide_eq_true h
      have := HN.out
      omega
end Go.Proofs.Ytgfklfpjibjhmaa

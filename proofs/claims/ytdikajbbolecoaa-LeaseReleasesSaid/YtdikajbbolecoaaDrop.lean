/-
  drop: sessions are let go.
-/
import Derived.Test.YtdikajbbolecoaaRepin
import Derived.WalkMore
import Derived.ScopeJumps
import Derived.Deep.CutBlock
import Derived.Deep.DeepCutAuto
namespace Go.Proofs.Ytdikajbbolecoaa
open Go.RowKit
set_option linter.unusedVariables false
set_option linter.unusedSimpArgs false

/-- The blocks of those that stay. -/
def stay (P : Sess → Bool) (bs : List Nat) (l : List Sess) (i : Nat) : List Nat := (((bs.zip l).take i).filter fun p => !P p.2).map (·.1)
theorem stay_le (P : Sess → Bool) (bs : List Nat) (l : List Sess) (i : Nat) : (stay P bs l i).length ≤ i := by
  unfold stay
  rw [List.length_map]
  exact Nat.le_trans (List.length_filter_le _ _) (by rw [List.length_take]; omega)
theorem stay_succ (P : Sess → Bool) (bs : List Nat) (l : List Sess) (i : Nat) {b : Nat} {x : Sess} (hb : bs[i]? = some b) (hx : l[i]? = some x) : stay P bs l (i + 1) = stay P bs l i ++ if P x then [] else [b] := by
  unfold stay
  have hz : (bs.zip l)[i]? = some (b, x) := by rw [List.getElem?_zip_eq_some]; exact ⟨hb, hx⟩
  rw [List.take_add_one, hz, List.filter_append, List.map_append]
  cases hp : P x <;> simp [hp]

theorem idx4_0 (p0 p1 p2 p3 : Value) (w : World) : (Instr.index 54 (.agg #[p0, p1, p2, p3]) (.int .i64 0)).run Try.prog w = .ok p0 w := by kernel_rfl
theorem idx4_1 (p0 p1 p2 p3 : Value) (w : World) : (Instr.index 54 (.agg #[p0, p1, p2, p3]) (.int .i64 1)).run Try.prog w = .ok p1 w := by kernel_rfl
theorem idx4_2 (p0 p1 p2 p3 : Value) (w : World) : (Instr.index 54 (.agg #[p0, p1, p2, p3]) (.int .i64 2)).run Try.prog w = .ok p2 w := by kernel_rfl
theorem idx4_3 (p0 p1 p2 p3 : Value) (w : World) : (Instr.index 54 (.agg #[p0, p1, p2, p3]) (.int .i64 3)).run Try.prog w = .ok p3 w := by kernel_rfl
theorem idx4 (bs : List Nat) {i b : Nat} (hi : i < 4) (hb : bs[i]? = some b) (w : World) :
    (Instr.index 54 (.agg #[ptrV bs[0]?, ptrV bs[1]?, ptrV bs[2]?, ptrV bs[3]?]) (.int .i64 (i : Int))).run Try.prog w = .ok (.pointer (some ⟨b, 0, none⟩)) w := by
  have e : (.pointer (some ⟨b, 0, none⟩) : Value) = ptrV bs[i]? := by rw [hb]; rfl
  rw [e]
  match i, hi with
  | 0, _ => exact idx4_0 _ _ _ _ w
  | 1, _ => exact idx4_1 _ _ _ _ w
  | 2, _ => exact idx4_2 _ _ _ _ w
  | 3, _ => exact idx4_3 _ _ _ _ w

theorem idx4v (bs : List Nat) {i : Nat} (hi : i < 4) (w : World) :
    (Instr.index 54 (.agg #[ptrV bs[0]?, ptrV bs[1]?, ptrV bs[2]?, ptrV bs[3]?]) (.int .i64 (i : Int))).run Try.prog w = .ok (ptrV bs[i]?) w := by
  match i, hi with
  | 0, _ => exact idx4_0 _ _ _ _ w
  | 1, _ => exact idx4_1 _ _ _ _ w
  | 2, _ => exact idx4_2 _ _ _ _ w
  | 3, _ => exact idx4_3 _ _ _ _ w

/-- What drop leaves: the pointers of those that stay. -/
def DropPost (tb n : Nat) (bs : List Nat) (l : List Sess) (P : Sess → Bool) (J : Nat → World → Prop) (e : Ending) (w' : World) : Prop :=
  e = .returned (.tuple #[]) ∧ ∃ w2, J n w2 ∧ (∀ k, k < 4 → w2.cell? ⟨tb, k, none⟩ = some (ptrV (stay P bs l n)[k]?)) ∧ w' = w2.setCell ⟨tb, 4, none⟩ (.int .i64 (stay P bs l n).length)

set_option maxHeartbeats 2000000 in
set_option maxRecDepth 100000 in
theorem drop_any (gf : Nat) (cap : Array Value) (args : Nat → Array Value) (tb n : Nat) (bs : List Nat) (l : List Sess) (P : Sess → Bool) (J : Nat → World → Prop) (w : World)
    (hargs : ∀ b, #[.pointer (some ⟨b, 0, none⟩)] ++ cap = args b) (hcall : ∀ b w, (callFunc gf (args b)).run Try.prog w = .ok (.enter gf (args b)) w)
    (hbl : bs.length = n) (hll : l.length = n) (hn4 : n ≤ 4) (h0 : J 0 w)
    (hset : ∀ i w k u, k < 4 → J i w → J i (w.setCell ⟨tb, k, none⟩ u))
    (hbox : ∀ i w, J i w → ∃ p0 p1 p2 p3 x5 x6 x7 x8, w.heap[tb]? = some (.cells #[p0, p1, p2, p3, .int .i64 n, x5, x6, x7, x8] 57 (0, 0)))
    (hptr : ∀ k, k < 4 → w.cell? ⟨tb, k, none⟩ = some (ptrV bs[k]?))
    (hcl : ∀ i b x w, bs[i]? = some b → l[i]? = some x → J i w → Calls Try.prog gf (args b) w fun e w' => e = .returned (.bool (P x)) ∧ J (i + 1) w' ∧ ∀ k, k < 4 → w'.cell? ⟨tb, k, none⟩ = w.cell? ⟨tb, k, none⟩) :
    Calls Try.prog 22 #[.pointer (some ⟨tb, 0, none⟩), .func (.func gf) #[] cap] w (DropPost tb n bs l P J) := by
  have p0 := hptr 0 (by omega)
  have p1 := hptr 1 (by omega)
  have p2 := hptr 2 (by omega)
  have p3 := hptr 3 (by omega)
  go_enter Try.func22, Try.ntmps22
  go_step3
  go_wp2_with fail
  go_step3
  go_upto_block 0 with fail
  go_cut [4, 12] (fun s4 s12 wx => s4 = .int .i64 (stay P bs l n).length ∧ J n wx ∧ ∀ k, k < 4 → wx.cell? ⟨tb, k, none⟩ = some (if k < (stay P bs l n).length then ptrV (stay P bs l n)[k]? else ptrV bs[k]?))
  case first =>
    go_wp2_with fail
    go_loopw [4, 12] (fun s4 s12 wr => ∃ i : Nat, i ≤ n ∧ s12 = .int .i64 i ∧ s4 = .int .i64 (stay P bs l i).length ∧ J i wr ∧ ∀ k, k < 4 → wr.cell? ⟨tb, k, none⟩ = some (if k < (stay P bs l i).length then ptrV (stay P bs l i)[k]? else ptrV bs[k]?)) (fun _ s12 _ => n - (intOf s12).toNat)
    case atStart => exact ⟨0, Nat.zero_le _, rfl, rfl, h0, fun k hk => by simpa [stay] using hptr k hk⟩
    case round =>
      obtain ⟨i, hi, rfl, rfl, hJ, hcells⟩ := hrel
      have HJ := Lib.hid hJ
      have HCE := Lib.hid hcells
      have hsl := stay_le P bs l i
      obtain ⟨p0', p1', p2', p3', x5, x6, x7, x8, hbx⟩ := hbox i wr hJ
      have cn : wr.cell? ⟨tb, 4, none⟩ = some (.int .i64 n) := by simp [World.cell?, hbx]
      by_cases hin : i < n
      · obtain ⟨b, hb⟩ : ∃ b, bs[i]? = some b := ⟨_, List.getElem?_eq_getElem (by omega)⟩
        obtain ⟨x, hx⟩ : ∃ x, l[i]? = some x := ⟨_, List.getElem?_eq_getElem (by omega)⟩
        have y1 : (i : Int) < 4 := by omega
        have y2 : ¬ (n : Int) ≤ (i : Int) := by omega
        have y3 : ((stay P bs l i).length : Int) ≤ 4 := by omega
        have q1 := idx4 bs (by omega) hb
        have HBB := Lib.hid hb
        have HXX := Lib.hid hx
        have HBX := Lib.hid hbox
        have HST := Lib.hid hset
        have D := Lib.hid (hcl i b x wr hb hx hJ)
        have HSU := Lib.hid (stay_succ P bs l i hb hx)
        clear hJ hcells hb hx hbox hset hcl hbx hptr
        go_wp2_with (simp only [hargs, hcall])
        refine D.out.mono ?_
        rintro e w1 ⟨rfl, hJ1, hc1⟩
        have HJ1 := Lib.hid hJ1
        have HC1 := Lib.hid hc1
        obtain ⟨s0, s1, s2, s3, z5, z6, z7, z8, hbx1⟩ := HBX.out _ _ hJ1
        have f1 : ∀ k, w1.frozen? ⟨tb, k, none⟩ = false := fun k => by simp [World.frozen?, hbx1]
        have c1 : ∃ u, w1.cell? ⟨tb, (stay P bs l i).length, none⟩ = some u := by
          have : (stay P bs l i).length < 4 := by omega
          revert this
          generalize (stay P bs l i).length = L
          intro hL
          match L, hL with
          | 0, _ => exact ⟨s0, by simp [World.cell?, hbx1]⟩
          | 1, _ => exact ⟨s1, by simp [World.cell?, hbx1]⟩
          | 2, _ => exact ⟨s2, by simp [World.cell?, hbx1]⟩
          | 3, _ => exact ⟨s3, by simp [World.cell?, hbx1]⟩
        obtain ⟨u1, c1⟩ := c1
        have y4 : ((stay P bs l i).length : Int) < 4 := by omega
        clear hJ1 hc1 hbx1
        cases hP : P x with
        | true =>
          have HSU := Lib.hid ((HSU.out).trans (by rw [hP, if_pos rfl, List.append_nil]))
          go_wp2_with fail
          refine ⟨⟨i + 1, by omega, by go_num, by rw [HSU.out], HJ1.out, fun k hk => ?_⟩, by simp [intOf]; omega⟩
          rw [HSU.out, HC1.out k hk]
          exact HCE.out k hk
        | false =>
          have HSU := Lib.hid ((HSU.out).trans (b := stay P bs l i ++ if P x = true then [] else [b]) (c := stay P bs l i ++ [b]) (by rw [hP]; rfl))
          go_wp2_with fail
          refine ⟨⟨i + 1, by omega, by go_num, by rw [HSU.out, List.length_append]; go_num, HST.out _ _ _ _ (by omega) HJ1.out, fun k hk => ?_⟩, by simp [intOf]; omega⟩
          have hce := HCE.out k hk
          rw [HSU.out, List.length_append]
          by_cases e : k = (stay P bs l i).length
          · subst e
            rw [World.cell?_setCell_same _ _ _ c1, if_pos (by simp), List.getElem?_append_right (by omega), Nat.sub_self]
            rfl
          · rw [World.cell?_setCell_other _ _ _ _ (by simp <;> exact Ne.symm e), HC1.out k hk, hce]
            by_cases e2 : k < (stay P bs l i).length
            · rw [if_pos e2, if_pos (by simp; omega), List.getElem?_append_left (by omega)]
            · rw [if_neg e2, if_neg (by simp; omega)]
      · have y2 : (n : Int) ≤ (i : Int) := by omega
        have hie : i = n := by omega
        subst hie
        by_cases hi4 : (i : Int) < 4
        · have q1 := idx4v bs (i := i) (by omega)
          clear hJ hcells hbox hset hcl hbx hptr hargs hcall
          go_wp2_with fail
          go_meet
          exact ⟨rfl, HJ.out, HCE.out⟩
        · clear hJ hcells hbox hset hcl hbx hptr hargs hcall
          go_wp2_with fail
          go_meet
          exact ⟨rfl, HJ.out, HCE.out⟩
  case rest =>
    obtain ⟨rfl, hJ, hcells⟩ := hcut
    have hsl := stay_le P bs l n
    have hsl3 : ((stay P bs l n).length : Int) ≤ n := by omega
    obtain ⟨S, hS⟩ : ∃ S, S = stay P bs l n := ⟨_, rfl⟩
    rw [← hS] at hcells hsl hsl3
    have HS := Lib.hid hS
    have HJ := Lib.hid hJ
    have HCE := Lib.hid hcells
    have HBX := Lib.hid hbox
    have HST := Lib.hid hset
    obtain ⟨L, hL⟩ : ∃ L, L = S.length := ⟨_, rfl⟩
    have e4 : (Value.int .i64 ((stay P bs l n).length : Int)) = .int .i64 (L : Int) := by rw [hL, hS]
    rw [← hL] at hsl hsl3
    have HL := Lib.hid hL
    have HB := Lib.hid hbl
    rw [e4]
    clear hJ hcells hbox hset hcl hptr hargs hcall h0 hS hL e4 p0 p1 p2 p3 hbl hll
    go_wp2_with fail
    go_loopw [7] (fun s7 wr => ∃ j : Nat, L ≤ j ∧ j ≤ n ∧ s7 = .int .i64 j ∧ J n wr ∧ ∀ k, k < 4 → wr.cell? ⟨tb, k, none⟩ = some (if k < j then ptrV S[k]? else ptrV bs[k]?)) (fun s7 _ => n - (intOf s7).toNat)
    case atStart => exact ⟨L, Nat.le_refl _, hsl, rfl, HJ.out, fun k hk => by rw [HL.out]; exact HCE.out k hk⟩
    case round =>
      obtain ⟨j, hj0, hj, rfl, hJ, hcells⟩ := hrel
      have HJ2 := Lib.hid hJ
      have HCE2 := Lib.hid hcells
      obtain ⟨p0', p1', p2', p3', x5, x6, x7, x8, hbx⟩ := HBX.out n wr hJ
      have cn : wr.cell? ⟨tb, 4, none⟩ = some (.int .i64 n) := by simp [World.cell?, hbx]
      have fr : ∀ k, wr.frozen? ⟨tb, k, none⟩ = false := fun k => by simp [World.frozen?, hbx]
      clear hJ hcells hbx
      by_cases hjn : j < n
      · have y1 : (j : Int) < (n : Int) := by omega
        have y2 : (j : Int) < 4 := by omega
        have c1 := HCE2.out j (by omega)
        go_wp2_with fail
        refine ⟨⟨j + 1, by omega, by omega, by go_num, HST.out _ _ _ _ (by omega) HJ2.out, fun k hk => ?_⟩, by simp [intOf]; omega⟩
        have hce := HCE2.out k hk
        by_cases e : k = j
        · subst e
          rw [World.cell?_setCell_same _ _ _ c1, if_pos (by omega), List.getElem?_eq_none (by rw [← HL.out]; omega)]
          rfl
        · rw [World.cell?_setCell_other _ _ _ _ (by simp <;> exact Ne.symm e), hce]
          by_cases e2 : k < j
          · rw [if_pos e2, if_pos (by omega)]
          · rw [if_neg e2, if_neg (by omega)]
      · have y1 : ¬ (j : Int) < (n : Int) := by omega
        go_wp2_with fail
        go_end0
        refine ⟨rfl, wr, HJ2.out, fun k hk => ?_, by rw [← HS.out, ← HL.out]⟩
        rw [HCE2.out k hk, ← HS.out]
        by_cases e2 : k < j
        · rw [if_pos e2]
        · rw [if_neg e2, List.getElem?_eq_none (by rw [HB.out]; omega), List.getElem?_eq_none (by rw [← HL.out]; omega)]
end Go.Proofs.Ytdikajbbolecoaa

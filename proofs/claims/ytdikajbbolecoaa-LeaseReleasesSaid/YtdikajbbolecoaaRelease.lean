/-
  Release.
-/
import Derived.Test.YtdikajbbolecoaaGone
namespace Go.Proofs.Ytdikajbbolecoaa
open Go.RowKit
set_option linter.unusedVariables false
set_option linter.unusedSimpArgs false

/-- No Id is there twice. -/
def Ids (t : Tb) : Prop := t.l.Pairwise fun x y => x.id < y.id
theorem Ids.inj {t : Tb} (h : Ids t) {i j : Nat} {x y : Sess} (hx : t.l[i]? = some x) (hy : t.l[j]? = some y) (e : x.id = y.id) : i = j := by
  obtain ⟨hi, rfl⟩ := List.getElem?_eq_some_iff.1 hx
  obtain ⟨hj, rfl⟩ := List.getElem?_eq_some_iff.1 hy
  have hp := List.pairwise_iff_getElem.1 h
  rcases Nat.lt_trichotomy i j with h1 | h1 | h1
  · have := hp i j hi hj h1; omega
  · exact h1
  · have := hp j i hj hi h1; omega

def releaseS (t : Tb) (id clock : Int) : Tb × Int × Int :=
  match liveS t id clock with
  | .inl i => match t.l[i]? with
    | some x => ({ t with l := t.l.filter fun x => !decide (x.id = id) }, x.block, 0)
    | none => (t, 0, 0)
  | .inr c => (t, 0, c)

theorem size61 : (Try.prog.info? 61).map (fun i => i.size) = some 5 := by kernel_rfl
theorem eql_slots (b b0 : Nat) (w : World) (d : Bool) (hd : d = decide (b = b0)) {ca cb : Array Value} (h1 : w.heap[b]? = some (.cells ca 61 (0, 0))) (h2 : w.heap[b0]? = some (.cells cb 61 (0, 0))) :
    (binOp .eql 53 (.pointer (some ⟨b, 0, none⟩)) (.pointer (some ⟨b0, 0, none⟩))).run Try.prog w = .ok (.bool d) w := by
  obtain ⟨j, hj, hs⟩ : ∃ j, Try.prog.info? 61 = some j ∧ j.size = 5 := by
    have := size61
    cases h : Try.prog.info? 61 with
    | none => rw [h] at this; cases this
    | some j => rw [h] at this; exact ⟨j, rfl, by simpa using this⟩
  by_cases e : b = b0
  · subst e
    rw [decide_eq_true rfl] at hd
    subst hd
    exact run_eql_ptr_same w _ Try.underlying53 hj
  · rw [decide_eq_false e] at hd
    subst hd
    exact run_eql_ptr_other w Try.underlying53 hj (by omega) (by simp [e]) h1 h2

theorem is_slot (b b0 c : Nat) (w : World) (h : w.heap[c]? = some (.cells #[.pointer (some ⟨b0, 0, none⟩)] 53 (0, 0))) (d : Bool) (hd : d = decide (b = b0)) {ca cb : Array Value} (h1 : w.heap[b]? = some (.cells ca 61 (0, 0))) (h2 : w.heap[b0]? = some (.cells cb 61 (0, 0))) :
    Calls Try.prog 26 #[.pointer (some ⟨b, 0, none⟩), .pointer (some ⟨c, 0, none⟩)] w fun e w' => e = .returned (.bool d) ∧ w' = w := by
  have c0 := cell_of_one h
  have he := eql_slots b b0 w d hd h1 h2
  clear h hd h1 h2
  go_enter Try.func26, Try.ntmps26
  go_wp2_with fail
  go_ret
  exact ⟨rfl, rfl⟩

theorem below_drewN (w : World) (q : Nat) : Below w.heap.size w (w.drewN q) := ⟨rfl, rfl, rfl, Nat.le_refl _, fun _ _ => rfl⟩

set_option maxHeartbeats 2000000 in
theorem release_any (tb : Nat) (m : Mem) (t : Tb) (id clock : Int) (w : World) (h : TableAt w tb m t) (hu : Ids t) (he8 : t.ended.length ≤ 1000) :
    Calls Try.prog 17 #[.pointer (some ⟨tb, 0, none⟩), .int .i64 id, .int .i64 clock] w (TablePost w tb m (releaseS t id clock).1 (.tuple #[.int .i64 (releaseS t id clock).2.1, .int .i64 (releaseS t id clock).2.2])) := by
  have D := Lib.hid (live_any tb m t id clock w h he8)
  have HH := Lib.hid h
  cases hl : liveS t id clock with
  | inl i =>
    obtain ⟨x, hx, hxi, hxd, _⟩ := live_in hl
    obtain ⟨b, kv, hb, hkv, hs⟩ := h.at_ hx
    have hv : liveV m id (liveS t id clock) = .tuple #[.pointer (some ⟨b, 0, none⟩), .nilIface] := by rw [hl]; unfold liveV; simp only [hb]; rfl
    rw [hv] at D
    have hr : releaseS t id clock = ({ t with l := t.l.filter fun x => !decide (x.id = id) }, x.block, 0) := by unfold releaseS; rw [hl]; simp only [hx]
    have D2 : ∀ w1 : World, Below w.heap.size w w1 → w1.heap[w.heap.size]? = some (.cells #[.pointer (some ⟨b, 0, none⟩)] 53 (0, 0)) →
        Calls Try.prog 22 #[.pointer (some ⟨tb, 0, none⟩), .func (.func 26) #[] #[.pointer (some ⟨w.heap.size, 0, none⟩)]] w1 (DropPost tb t.l.length m.bs t.l (fun y => decide (y.id = id)) fun _ w2 => Dropping w1 tb m t (fun _ => False) m.ev t.ended w2 ∧ w2.heap[w.heap.size]? = w1.heap[w.heap.size]?) := by
      intro w1 hb1 hc1
      have h1 := h.below hb1
      have hne : w.heap.size ≠ tb := by have := h.lt; omega
      refine drop_any 26 #[.pointer (some ⟨w.heap.size, 0, none⟩)] (fun b => #[.pointer (some ⟨b, 0, none⟩), .pointer (some ⟨w.heap.size, 0, none⟩)]) tb t.l.length m.bs t.l _ _ w1 (fun _ => rfl) (fun b w => by kernel_rfl) h.lb rfl (Nat.le_trans h.fits h.hi) ⟨Dropping.start h1, rfl⟩
        (fun i w k u hk ⟨h2, h3⟩ => ⟨h2.set hk u, (Below.heap_setCell _ _ _ _ hne).trans h3⟩) (fun i w ⟨h2, _⟩ => ?_) (fun k hk => h1.cptr hk) (fun i2 b2 x2 w2 hb2 hx2 ⟨hd, hd2⟩ => ?_)
      · obtain ⟨p0, p1, p2, p3, hbx⟩ := h2.box
        exact ⟨_, _, _, _, _, _, _, _, hbx⟩
      · have box2 : ∀ {i b : Nat}, m.bs[i]? = some b → ∃ ca, w2.heap[b]? = some (.cells ca 61 (0, 0)) := fun {i b} hb => by
          obtain ⟨n1, n2, n3⟩ := h1.slot_ne hb
          have hil := (List.getElem?_eq_some_iff.1 hb).1
          obtain ⟨x, hx⟩ : ∃ x, t.l[i]? = some x := ⟨_, List.getElem?_eq_getElem (by rw [← h.lb]; exact hil)⟩
          obtain ⟨b', kv, hb', hkv, hs⟩ := h1.at_ hx
          rw [hb] at hb'
          cases hb'
          exact ⟨_, (hd.block b hs.lt n1 n3 (fun e => e)).trans hs.box⟩
        obtain ⟨ca, hca⟩ := box2 hb2
        obtain ⟨cb, hcb⟩ := box2 hb
        refine (is_slot b2 b w.heap.size w2 (hd2.trans hc1) (decide (x2.id = id)) ?_ hca hcb).mono ?_
        · rw [decide_eq_decide]
          constructor
          · intro e
            have : i2 = i := hu.inj hx2 hx (e.trans hxi.symm)
            subst this
            rw [hb] at hb2
            exact (Option.some.inj hb2).symm
          · rintro rfl
            have : i2 = i := by
              obtain ⟨hj, hj2⟩ := List.getElem?_eq_some_iff.1 hb2
              obtain ⟨hi, hi2⟩ := List.getElem?_eq_some_iff.1 hb
              have hp := List.pairwise_iff_getElem.1 h.nd
              rcases Nat.lt_trichotomy i2 i with hlt | he | hlt
              · exact absurd (hj2.trans hi2.symm) (hp i2 i hj hi hlt)
              · exact he
              · exact absurd (hi2.trans hj2.symm) (hp i i2 hi hj hlt)
            subst this
            rw [hx] at hx2
            cases hx2
            exact hxi
        · rintro e w' ⟨rfl, rfl⟩
          exact ⟨rfl, ⟨hd, hd2⟩, fun _ _ => rfl⟩
    have D2 := Lib.hid D2
    have q1 : w.heap[b]? = some (.cells #[.int .i64 x.id, .int .i64 x.block, .int .i64 x.dead, .int .i64 x.last, kv] 61 (0, 0)) := hs.box
    have Q1 := Lib.hid q1
    have HB := Lib.hid hb
    have HR := Lib.hid hr
    clear h hl hx hxi hxd hb hkv hs hv hr q1
    go_enter Try.func17, Try.ntmps17
    go_wp2_with fail
    refine D.out.mono ?_
    rintro e w1 ⟨rfl, q, rfl⟩
    have c0 : ((w.drewN q).alloc (Obj.cells #[.pointer none] 53)).cell? ⟨w.heap.size, 0, none⟩ = some (.pointer none) := cell_of_one (heap_alloc_new (w.drewN q) _)
    have f0 : ((w.drewN q).alloc (Obj.cells #[.pointer none] 53)).frozen? ⟨w.heap.size, 0, none⟩ = false := free_of_one (heap_alloc_new (w.drewN q) _)
    go_wp2_with fail
    have hb1 : Below w.heap.size w (((w.drewN q).alloc (Obj.cells #[.pointer none] 53)).setCell ⟨w.heap.size, 0, none⟩ (.pointer (some ⟨b, 0, none⟩))) :=
      ((below_drewN w q).alloc (w := w.drewN q) (Nat.le_refl _) _).setCell (Nat.le_refl _) _
    have hc1 : (((w.drewN q).alloc (Obj.cells #[.pointer none] 53)).setCell ⟨w.heap.size, 0, none⟩ (.pointer (some ⟨b, 0, none⟩))).heap[w.heap.size]? = some (.cells #[.pointer (some ⟨b, 0, none⟩)] 53 (0, 0)) := by
      have := heap_alloc_new (w.drewN q) (.cells #[.pointer none] 53)
      simp only [World.setCell, Array.getElem?_modify, if_pos rfl]
      erw [this]
      rfl
    have HB1 := Lib.hid hb1
    have HC1 := Lib.hid hc1
    clear hb1 hc1
    refine (D2.out _ HB1.out HC1.out).mono ?_
    rintro e w' ⟨rfl, w2, ⟨hd, hd2⟩, hc, rfl⟩
    have h1 := HH.out.below HB1.out
    have hne : w.heap.size ≠ tb := by have := HH.out.lt; omega
    obtain ⟨n1, n2, n3⟩ := HH.out.slot_ne HB.out
    have hbl : b < w.heap.size := lt_of_block Q1.out
    have z1 : (w2.setCell ⟨tb, 4, none⟩ (.int .i64 (stay (fun y => decide (y.id = id)) m.bs t.l t.l.length).length)).cell? ⟨w.heap.size, 0, none⟩ = some (.pointer (some ⟨b, 0, none⟩)) :=
      cell_of_one ((Below.heap_setCell _ _ _ _ hne).trans (hd2.trans HC1.out))
    have z2 : (w2.setCell ⟨tb, 4, none⟩ (.int .i64 (stay (fun y => decide (y.id = id)) m.bs t.l t.l.length).length)).cell? ⟨b, 1, none⟩ = some (.int .i64 x.block) := by
      have := (Below.heap_setCell w2 ⟨tb, 4, none⟩ (.int .i64 (stay (fun y => decide (y.id = id)) m.bs t.l t.l.length).length) b n1).trans ((hd.block b (Nat.lt_of_lt_of_le hbl HB1.out.size) n1 n3 (fun e => e)).trans ((HB1.out.block b hbl).trans Q1.out))
      simp [World.cell?, this]
    have HD := Lib.hid hd
    have HCE := Lib.hid hc
    have HT := Lib.hid h1
    clear hd hd2 hc h1 n1 n2 n3 c0 f0
    rw [stay_pick HH.out.lb rfl] at z1 z2 HCE
    rw [stay_pick HH.out.lb rfl]
    go_wp2_with fail
    go_ret2
    rw [HR.out]
    exact ⟨rfl, _, HD.out.done _ HT.out (fun _ _ e => e) HCE.out, (Turned.of_below HB1.out tb m).trans (HD.out.turned _ HT.out _ HB1.out.size (fun _ e => e.elim))⟩
  | inr c =>
    have hc := live_code hl
    have hv : liveV m id (liveS t id clock) = .tuple #[.pointer none, failV id c] := by rw [hl]; rfl
    rw [hv] at D
    have hr : releaseS t id clock = (t, 0, c) := by unfold releaseS; rw [hl]
    have D2 := Lib.hid (fun w => number_any id c w hc)
    have HR := Lib.hid hr
    clear h hl hc hv hr
    unfold failV at D D2
    go_enter Try.func17, Try.ntmps17
    go_wp2_with fail
    refine D.out.mono ?_
    rintro e w1 ⟨rfl, q, rfl⟩
    have c0 : ((w.drewN q).alloc (Obj.cells #[.pointer none] 53)).cell? ⟨w.heap.size, 0, none⟩ = some (.pointer none) := cell_of_one (heap_alloc_new (w.drewN q) _)
    have f0 : ((w.drewN q).alloc (Obj.cells #[.pointer none] 53)).frozen? ⟨w.heap.size, 0, none⟩ = false := free_of_one (heap_alloc_new (w.drewN q) _)
    go_wp2_with fail
    have HB1 := Lib.hid ((below_drewN w q).alloc (w := w.drewN q) (Nat.le_refl _) (.cells #[.pointer none] 53))
    have HB2 := Lib.hid (HB1.out.setCell (p := ⟨w.heap.size, 0, none⟩) (Nat.le_refl _) (.pointer none))
    clear c0 f0
    refine (D2.out _).mono ?_
    rintro e w2 ⟨rfl, hb⟩
    have HB := Lib.hid hb
    clear hb
    go_wp2_with fail
    go_ret2
    rw [HR.out]
    have hbb := HB2.out.trans (HB.out.mono HB2.out.size)
    exact ⟨rfl, m, HH.out.below hbb, Turned.of_below hbb tb m⟩
end Go.Proofs.Ytdikajbbolecoaa

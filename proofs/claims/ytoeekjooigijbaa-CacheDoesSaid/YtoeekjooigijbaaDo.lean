/-
  What a cache is asked for, offered, forgotten, told: the walks.
-/
import Derived.Test.YtoeekjooigijbaaData
namespace Go.Proofs.Ytoeekjooigijbaa
open Go.RowKit
set_option linter.unusedVariables false
set_option linter.unusedSimpArgs false

set_option maxHeartbeats 2000000 in
theorem get_any (cb b : Nat) (v : Value) (s : St) (k : ByteArray) (w : World) (h : CacheAt w cb b v s) (hi : Inv s) (hk : k.size ≤ maxLen) :
    Calls Try.prog 13 #[.pointer (some ⟨cb, 0, none⟩), .string k] w (CachePost w cb b v (getS s k).1 (.tuple #[.string (getS s k).2.1, .bool (getS s k).2.2])) := by
  have c0 := h.c0
  by_cases hz : s.size = 0
  · have e : getS s k = (s, ⟨#[]⟩, false) := by unfold getS; rw [if_pos hz]
    have hb : ((s.size : Int) == 0) = true := by rw [beq_iff_eq]; omega
    rw [e]
    have HH := Lib.hid h
    clear h hz e
    go_enter Try.func13, Try.ntmps13
    go_wp2_with fail
    go_ret2
    exact ⟨rfl, v, HH.out, Turned.refl _ _ _ _ _⟩
  · have hb : ((s.size : Int) == 0) = false := by rw [beq_eq_false_iff_ne]; omega
    have ha : s.asked < 10 * s.size := hi.ask.resolve_right fun e => hz e.1
    have hs64 := hi.hi
    have hti := hi.tick hk hz
    have hlc : (counted s.cs k).length ≤ 1280 := by
      have h1 := total_counted hi.good k
      have h2 := length_le_total (counted s.cs k) fun p hp => ((good_counted hi.good hk).ok p hp).2.1
      have h3 := hi.tot
      omega
    have hg : getS s k = match place s.all k with | none => (tick s k, ⟨#[]⟩, false) | some i => match s.all[i]? with | none => (tick s k, ⟨#[]⟩, false) | some p => ({ tick s k with all := p :: s.all.eraseIdx i }, p.2, true) := by unfold getS; rw [if_neg hz]; rfl
    have HG := Lib.hid hg
    have D1 := Lib.hid (count_any cb b v s k w h hk (by omega) hlc)
    have HTI := Lib.hid hti
    obtain ⟨n, hn⟩ : ∃ n, n = s.size := ⟨_, rfl⟩
    obtain ⟨q, hq⟩ : ∃ q, q = s.asked := ⟨_, rfl⟩
    rw [← hn] at c0 hb ha hs64
    rw [← hq] at ha
    have HN := Lib.hid hn
    have HQ := Lib.hid hq
    clear h hi hz hti hlc hg hn hq
    have hw1 : IntKind.i64.wrap (10 * (n : Int)) = 10 * (n : Int) := by rw [IntKind.wrap_i64]; omega
    go_enter Try.func13, Try.ntmps13
    go_wp2_with fail
    refine D1.out.mono ?_
    rintro e w1 ⟨rfl, v1, h1, t1⟩
    have c0' : w1.cell? ⟨cb, 0, none⟩ = some (.int .i64 (n : Int)) := by rw [HN.out]; exact h1.c0
    have c3' : w1.cell? ⟨cb, 3, none⟩ = some (.int .i64 ((q : Int) + 1)) := by rw [HQ.out]; simpa using h1.c3
    have H1 := Lib.hid h1
    have T1 := Lib.hid t1
    clear h1 t1 c0
    by_cases he : q + 1 = 10 * n
    · have hbe : (((q : Int) + 1) == 10 * (n : Int)) = true := by rw [beq_iff_eq]; omega
      have htk : tick s k = { s with cs := halved (counted s.cs k), asked := 0 } := by unfold tick; rw [if_pos (by rw [← HQ.out, ← HN.out]; exact he)]
      have HTK := Lib.hid htk
      clear he htk
      go_wp2_with fail
      go_quiet (fail)
      have D2 := Lib.hid (halve_any cb b v1 _ (w1.drewN nq) (H1.out.drewN nq))
      go_wp2_with fail
      refine D2.out.mono ?_
      rintro e w3 ⟨rfl, v2, h3, t3⟩
      have HA : Hid (CacheAt w3 cb b v2 (tick s k)) := Lib.hid (by rw [HTK.out]; exact h3)
      have TA : Hid (Turned w.heap.size w w3 cb b v v2) := Lib.hid (T1.out.trans ((Turned.drewN _ _ _ _ _ _).trans (t3.mono (by have := T1.out.size; simpa using this))))
      have D3 := Lib.hid (at_any cb b v2 (tick s k) k w3 HA.out)
      clear h3 t3
      go_wp2_with fail
      refine D3.out.mono ?_
      rintro e w4 ⟨rfl, hb4⟩
      have h4 := HA.out.below hb4
      have t4 := TA.out.trans (Turned.of_below (hb4.mono TA.out.size) cb b v2)
      clear hb4
      cases hp : place s.all k with
      | none =>
        have hpl : placeI (tick s k).all k = -1 := by rw [tick_all]; unfold placeI; rw [hp]
        have hr : getS s k = (tick s k, ⟨#[]⟩, false) := by rw [HG.out, hp]
        rw [hpl]
        have HR := Lib.hid hr
        have H4 := Lib.hid h4
        have T4 := Lib.hid t4
        clear hp hpl hr h4 t4
        go_wp2_with fail
        go_ret2
        rw [HR.out]
        exact ⟨rfl, v2, H4.out, T4.out⟩
      | some i =>
        obtain ⟨p, hpi, hpk, _⟩ := place_lt hp
        have hpl : placeI (tick s k).all k = (i : Int) := by rw [tick_all]; unfold placeI; rw [hp]
        have hr : getS s k = ({ tick s k with all := p :: s.all.eraseIdx i }, p.2, true) := by rw [HG.out, hp]; simp only [hpi]
        rw [hpl]
        have HR := Lib.hid hr
        have hpi' : (tick s k).all[i]? = some p := by rw [tick_all]; exact hpi
        have hil : i < (tick s k).all.length := (List.getElem?_eq_some_iff.1 hpi').1
        obtain ⟨g, cap, rfl, q1, q2⟩ := h4.thing hpi'
        obtain ⟨p1, p2⟩ := p
        have D4 := Lib.hid (first_old cb b i _ (tick s k) (p1, p2) _ (h4.alloc (.cells #[.string p1, .string p2] 60)) hil)
        have c1'' := h4.c1
        have hx := heap_alloc_new w4 (.cells #[.string p1, .string p2] 60)
        have hxn : w4.heap.size ≠ cb ∧ w4.heap.size ≠ b ∧ (Value.slice (some ⟨g, 0, none⟩) (tick s k).all.length cap).ownBlock ≠ some w4.heap.size := ⟨by have := h4.lt; omega, by have := h4.cnt.lt; omega, fun e => by have := h4.own_lt _ e; omega⟩
        have ht := tick_all s k
        have i1 : (i : Int) < ((tick s k).all.length : Int) := by omega
        have T4 := Lib.hid t4
        have HX := Lib.hid hx
        have HXN := Lib.hid hxn
        have HT := Lib.hid ht
        clear hp hpl hr h4 t4 hpi hpi' hil hpk hx hxn ht
        go_wp2_with fail
        refine D4.out.mono ?_
        rintro e w5 ⟨rfl, v5, h5, t5⟩
        have e5 : w5.heap[w4.heap.size]? = some (.cells #[.string p1, .string p2] 60 (0, 0)) := (t5.block _ (by simp) HXN.out.1 HXN.out.2.1 HXN.out.2.2).trans HX.out
        have q5 : w5.cell? ⟨w4.heap.size, 1, none⟩ = some (.string p2) := by simp [World.cell?, e5]
        have H5 := Lib.hid h5
        have T5 := Lib.hid t5
        clear e5 h5 t5 q1 q2
        go_wp2_with fail
        go_ret2
        rw [HR.out]
        refine ⟨rfl, v5, ?_, T4.out.trans ((Turned.alloc _ _ _ T4.out.size cb b _).trans (T5.out.mono (by have := T4.out.size; simp; omega)))⟩
        have := H5.out
        rw [HT.out] at this
        exact this
    · have hbe : (((q : Int) + 1) == 10 * (n : Int)) = false := by rw [beq_eq_false_iff_ne]; omega
      have htk : tick s k = { s with cs := counted s.cs k, asked := s.asked + 1 } := by unfold tick; rw [if_neg (by rw [← HQ.out, ← HN.out]; exact he)]
      have HTK := Lib.hid htk
      clear he htk
      go_wp2_with fail
      go_quiet (fail)
      obtain ⟨v2, hv2⟩ : ∃ v2, v2 = v1 := ⟨_, rfl⟩
      subst hv2
      have HA : Hid (CacheAt (w1.drewN nq) cb b v2 (tick s k)) := Lib.hid (by rw [HTK.out]; exact H1.out.drewN nq)
      have TA : Hid (Turned w.heap.size w (w1.drewN nq) cb b v v2) := Lib.hid (T1.out.trans (Turned.drewN _ _ _ _ _ _))
      have D3 := Lib.hid (at_any cb b v2 (tick s k) k (w1.drewN nq) HA.out)
      go_wp2_with fail
      refine D3.out.mono ?_
      rintro e w4 ⟨rfl, hb4⟩
      have h4 := HA.out.below hb4
      have t4 := TA.out.trans (Turned.of_below (hb4.mono TA.out.size) cb b v2)
      clear hb4
      cases hp : place s.all k with
      | none =>
        have hpl : placeI (tick s k).all k = -1 := by rw [tick_all]; unfold placeI; rw [hp]
        have hr : getS s k = (tick s k, ⟨#[]⟩, false) := by rw [HG.out, hp]
        rw [hpl]
        have HR := Lib.hid hr
        have H4 := Lib.hid h4
        have T4 := Lib.hid t4
        clear hp hpl hr h4 t4
        go_wp2_with fail
        go_ret2
        rw [HR.out]
        exact ⟨rfl, v2, H4.out, T4.out⟩
      | some i =>
        obtain ⟨p, hpi, hpk, _⟩ := place_lt hp
        have hpl : placeI (tick s k).all k = (i : Int) := by rw [tick_all]; unfold placeI; rw [hp]
        have hr : getS s k = ({ tick s k with all := p :: s.all.eraseIdx i }, p.2, true) := by rw [HG.out, hp]; simp only [hpi]
        rw [hpl]
        have HR := Lib.hid hr
        have hpi' : (tick s k).all[i]? = some p := by rw [tick_all]; exact hpi
        have hil : i < (tick s k).all.length := (List.getElem?_eq_some_iff.1 hpi').1
        obtain ⟨g, cap, rfl, q1, q2⟩ := h4.thing hpi'
        obtain ⟨p1, p2⟩ := p
        have D4 := Lib.hid (first_old cb b i _ (tick s k) (p1, p2) _ (h4.alloc (.cells #[.string p1, .string p2] 60)) hil)
        have c1'' := h4.c1
        have hx := heap_alloc_new w4 (.cells #[.string p1, .string p2] 60)
        have hxn : w4.heap.size ≠ cb ∧ w4.heap.size ≠ b ∧ (Value.slice (some ⟨g, 0, none⟩) (tick s k).all.length cap).ownBlock ≠ some w4.heap.size := ⟨by have := h4.lt; omega, by have := h4.cnt.lt; omega, fun e => by have := h4.own_lt _ e; omega⟩
        have ht := tick_all s k
        have i1 : (i : Int) < ((tick s k).all.length : Int) := by omega
        have T4 := Lib.hid t4
        have HX := Lib.hid hx
        have HXN := Lib.hid hxn
        have HT := Lib.hid ht
        clear hp hpl hr h4 t4 hpi hpi' hil hpk hx hxn ht
        go_wp2_with fail
        refine D4.out.mono ?_
        rintro e w5 ⟨rfl, v5, h5, t5⟩
        have e5 : w5.heap[w4.heap.size]? = some (.cells #[.string p1, .string p2] 60 (0, 0)) := (t5.block _ (by simp) HXN.out.1 HXN.out.2.1 HXN.out.2.2).trans HX.out
        have q5 : w5.cell? ⟨w4.heap.size, 1, none⟩ = some (.string p2) := by simp [World.cell?, e5]
        have H5 := Lib.hid h5
        have T5 := Lib.hid t5
        clear e5 h5 t5 q1 q2
        go_wp2_with fail
        go_ret2
        rw [HR.out]
        refine ⟨rfl, v5, ?_, T4.out.trans ((Turned.alloc _ _ _ T4.out.size cb b _).trans (T5.out.mono (by have := T4.out.size; simp; omega)))⟩
        have := H5.out
        rw [HT.out] at this
        exact this

set_option maxHeartbeats 1000000 in
theorem forget_any (cb b : Nat) (v : Value) (s : St) (k : ByteArray) (w : World) (h : CacheAt w cb b v s) :
    Calls Try.prog 17 #[.pointer (some ⟨cb, 0, none⟩), .string k] w (CachePost w cb b v (forgetS s k).1 (.bool (forgetS s k).2)) := by
  have D1 := Lib.hid (at_any cb b v s k w h)
  have HH := Lib.hid h
  cases hp : place s.all k with
  | none =>
    have hpl : placeI s.all k = -1 := by unfold placeI; rw [hp]
    have hr : forgetS s k = (s, false) := by unfold forgetS; rw [hp]
    rw [hpl] at D1
    have HR := Lib.hid hr
    clear h hp hpl hr
    go_enter Try.func17, Try.ntmps17
    go_wp2_with fail
    refine D1.out.mono ?_
    rintro e w1 ⟨rfl, hb1⟩
    have HB := Lib.hid hb1
    clear hb1
    go_wp2_with fail
    go_ret
    rw [HR.out]
    exact ⟨rfl, v, HH.out.below HB.out, Turned.of_below HB.out cb b v⟩
  | some i =>
    obtain ⟨p, hpi, hpk, _⟩ := place_lt hp
    have hil : i < s.all.length := (List.getElem?_eq_some_iff.1 hpi).1
    have hpl : placeI s.all k = (i : Int) := by unfold placeI; rw [hp]
    have hr : forgetS s k = ({ s with all := s.all.eraseIdx i }, true) := by unfold forgetS; rw [hp]
    have hl64 : s.all.length ≤ 64 := Nat.le_trans h.fits h.hi
    rw [hpl] at D1
    have HR := Lib.hid hr
    have HI := Lib.hid hil
    have hw1 : IntKind.i64.wrap ((i : Int) + 1) = (i : Int) + 1 := by rw [IntKind.wrap_i64]; omega
    clear h hp hpl hr hpi hpk hil
    go_enter Try.func17, Try.ntmps17
    go_wp2_with fail
    refine D1.out.mono ?_
    rintro e w1 ⟨rfl, hb1⟩
    have h1 := HH.out.below hb1
    have D2 := Lib.hid (delete_own 0 v s.all.length i (flat s.all) w1 h1.own (flat_one _) HI.out)
    have c1 := h1.c1
    have H1 := Lib.hid h1
    have HB := Lib.hid hb1
    clear hb1 h1
    go_wp2_with fail
    refine D2.out.mono ?_
    rintro e w2 ⟨v2, rfl, ho, hg, hb⟩
    obtain ⟨a2, cap2, rfl⟩ := slice_of ho
    have e2 : w2.heap[cb]? = w1.heap[cb]? := hg.block cb H1.out.lt (fun e => H1.out.ne_own e.symm)
    have c1' := (World.cell?_of_block (a := ⟨cb, 1, none⟩) e2).trans H1.out.c1
    have f1' := (World.frozen?_of_block (a := ⟨cb, 1, none⟩) e2).trans (H1.out.f 1)
    have HDF := Lib.hid (del_fin H1.out HI.out ho hg hb)
    clear ho hg hb e2 c1
    go_wp2_with fail
    go_ret
    rw [HR.out]
    exact ⟨rfl, _, HDF.out.1, (Turned.of_below HB.out cb b v).trans (HDF.out.2.mono HB.out.size)⟩

/-! ### Keys -/
theorem info9 : (Try.prog.info? 9).map (fun i => (i.zero, i.size, i.bytes)) = some (some (.string ⟨#[]⟩), 1, 16) := by kernel_rfl

/-- The value is a slice of these strings in this world. -/
def StrsAt (w : World) (v : Value) (xs : List ByteArray) : Prop :=
  ∃ a cap, v = .slice a xs.length cap ∧ ∀ i s, xs[i]? = some s → ∃ b o, a = some ⟨b, o, none⟩ ∧ w.cell? ⟨b, o + i, none⟩ = some (.string s)

theorem strs_row {w : World} {base : Nat} {v : Value} {xs : List ByteArray} (h : w.ownsRow base 9 1 v xs.length (xs.map Value.string)) : StrsAt w v xs := by
  rcases h.2 with ⟨rfl, h0⟩ | ⟨g, cap, cur, rfl, _, hg, hn, hm, hs, ht⟩
  · exact ⟨none, 0, by rw [h0], fun i s hs => by rw [List.length_eq_zero_iff.1 h0] at hs; simp at hs⟩
  · refine ⟨_, cap, rfl, fun i s hi => ⟨g, 0, rfl, ?_⟩⟩
    have hil := (List.getElem?_eq_some_iff.1 hi).1
    have e := congrArg (fun l => l[i]?) ht
    simp only [List.getElem?_take, Nat.mul_one, hil, if_true, List.getElem?_map, hi, Option.map_some] at e
    simpa [World.cell?, hg] using e

def keysOf (s : St) : List ByteArray := s.all.map (·.1)

/-- The strings lie in a row that the call has made. -/
def KeysPost (w : World) (xs : List ByteArray) (e : Ending) (w' : World) : Prop := ∃ va, e = .returned va ∧ StrsAt w' va xs ∧ (∀ k, va.ownBlock = some k → w.heap.size ≤ k) ∧ (∃ a cap, va = .slice a xs.length cap) ∧ Below w.heap.size w w'

set_option maxHeartbeats 1000000 in
theorem keys_any (cb b : Nat) (v : Value) (s : St) (w : World) (h : CacheAt w cb b v s) :
    Calls Try.prog 20 #[.pointer (some ⟨cb, 0, none⟩)] w (KeysPost w (keysOf s)) := by
  obtain ⟨i0, hi, hz0, hz1, hz2⟩ := info_parts info9
  have hl64 : s.all.length ≤ 64 := Nat.le_trans h.fits h.hi
  have c1 := h.c1
  have hth := fun (i : Nat) (p : Th) (hp : s.all[i]? = some p) => h.thing hp
  obtain ⟨a, cap, hv⟩ := h.slice
  obtain ⟨n, hn⟩ : ∃ n, n = s.all.length := ⟨_, rfl⟩
  subst hv
  rw [← hn] at c1 hth hl64
  have HTH := Lib.hid hth
  have HN := Lib.hid hn
  clear h hth hn
  go_enter Try.func20, Try.ntmps20
  go_wp2_with fail
  go_loopw [3, 11] (fun u i wr => ∃ j : Nat, j ≤ n ∧ i = .int .i64 j ∧ wr.ownsRow w.heap.size 9 1 u j ((s.all.take j).map fun p => Value.string p.1) ∧ Below w.heap.size w wr) (fun _ i _ => n - (intOf i).toNat)
  case atStart => exact ⟨0, Nat.zero_le _, rfl, World.ownsRow_nil _ _ _ _, Below.refl _ w⟩
  case round =>
    obtain ⟨j, hj, rfl, hown, hb⟩ := hrel
    by_cases hjn : j < n
    · obtain ⟨p, hp⟩ : ∃ p, s.all[j]? = some p := ⟨_, List.getElem?_eq_getElem (by rw [← HN.out]; exact hjn)⟩
      obtain ⟨g, cap', hv, q1, q2⟩ := HTH.out j p hp
      simp only [Value.slice.injEq, true_and] at hv
      obtain ⟨rfl, rfl⟩ := hv
      have hl := World.block_lt_of_cell? w _ q1
      have q1' : wr.cell? ⟨g, j * 2, none⟩ = some (.string p.1) := (hb.cell (p := ⟨g, j * 2, none⟩) hl).trans q1
      have q2' : wr.cell? ⟨g, j * 2 + 1, none⟩ = some (.string p.2) := (hb.cell (p := ⟨g, j * 2 + 1, none⟩) hl).trans q2
      have hts : (s.all.take (j + 1)).map (fun p => Value.string p.1) = (s.all.take j).map (fun p => Value.string p.1) ++ [Value.string p.1] := by
        rw [List.take_add_one, hp, List.map_append]; rfl
      have b1 : (j : Int) < (n : Int) := by omega
      have HO := Lib.hid hown
      have HB := Lib.hid hb
      have HTS := Lib.hid hts
      obtain ⟨p1, p2⟩ := p
      clear hp q1 q2 hown hb hl hts
      go_wp2_with (at_builtin; refine wpList_append_owns _ rfl _ _ 44 44 rfl w.heap.size 9 i0 (.string ⟨#[]⟩) 1 16 Try.underlying44 hi hz0 hz1 hz2 rfl _ j _ rfl ((HO.out.alloc _).alloc _) _ 1 [.string p1] rfl (Src.ofSlice _ Try.underlying44 _ _ _ _ rfl ?_ (by simp [Value.oneCell'])) (by unfold maxLen; omega) (by omega) (by have := HB.out.size; simp; omega) ?_)
      intro v' w' ho' hg' hb'
      have hbel : Below w.heap.size w w' := by
        refine HB.out.trans ⟨hg'.os, hg'.tape, hg'.output, ?_, fun k hk => ?_⟩
        · have := hg'.size; simp at this; omega
        · have hs := HB.out.size
          have e := hg'.block k (by simp; omega) (fun e => by have := (HO.out.lt k e.symm).1; omega)
          rw [e, Below.heap_alloc _ _ k (by simp; omega), Below.heap_alloc _ _ k (by omega)]
      have ho2 : w'.ownsRow w.heap.size 9 1 v' (j + 1) ((s.all.take (j + 1)).map fun p => Value.string p.1) := by
        rw [HTS.out, List.map_take]; exact ho'
      have HB2 := Lib.hid hbel
      have HO2 := Lib.hid ho2
      clear ho' hg' hb' hbel ho2
      go_wp2_with fail
      exact ⟨⟨j + 1, by omega, by go_num, HO2.out, HB2.out⟩, by simp [intOf]; omega⟩
    · have b1 : ¬ (j : Int) < (n : Int) := by omega
      have hjn' : j = n := by omega
      have HO := Lib.hid hown
      have HB := Lib.hid hb
      clear hown hb
      go_wp2_with fail
      go_ret
      have e1 : (s.all.take j).map (fun p => Value.string p.1) = (keysOf s).map Value.string := by
        unfold keysOf
        rw [hjn', HN.out, List.take_length, List.map_map]; rfl
      have e2 : j = (keysOf s).length := by unfold keysOf; rw [List.length_map, hjn', HN.out]
      have ho := HO.out
      rw [e1, e2] at ho
      have hsh : ∃ a cap, u3 = .slice a (keysOf s).length cap := by
        rcases ho.2 with ⟨rfl, h0⟩ | ⟨g, cap, cur, rfl, _⟩
        · exact ⟨none, 0, by rw [h0]⟩
        · exact ⟨_, _, rfl⟩
      exact ⟨_, rfl, strs_row ho, fun k hk => (ho.lt k hk).1, hsh, HB.out⟩

set_option maxHeartbeats 2000000 in
theorem offer_any (cb b : Nat) (v : Value) (s : St) (k x : ByteArray) (w : World) (h : CacheAt w cb b v s) (hi : Inv s) (hk : k.size ≤ maxLen) :
    Calls Try.prog 15 #[.pointer (some ⟨cb, 0, none⟩), .string k, .string x] w (CachePost w cb b v (offerS s k x).1 (.bool (offerS s k x).2)) := by
  have D1 := Lib.hid (at_any cb b v s k w.drew (h.drewN 1))
  obtain ⟨a, cap, hv⟩ := h.slice
  subst hv
  have c1 := h.c1
  have HH := Lib.hid h
  obtain ⟨n, hn⟩ : ∃ n, n = s.all.length := ⟨_, rfl⟩
  have hn64 : n ≤ 64 := by rw [hn]; exact Nat.le_trans h.fits h.hi
  rw [← hn] at c1
  have HN := Lib.hid hn
  have HI := Lib.hid hi
  have K1 := Lib.hid (fun (w2 : World) (hb : Below w.heap.size w.drew w2) => (show w2.cell? ⟨cb, 1, none⟩ = some (.slice a n cap) from (hb.cell (p := ⟨cb, 1, none⟩) h.lt).trans c1))
  obtain ⟨pl, hpl⟩ : ∃ pl, pl = placeI s.all k := ⟨_, rfl⟩
  rw [← hpl] at D1
  have HPL := Lib.hid hpl
  clear h hi hn hpl
  go_enter Try.func15, Try.ntmps15
  go_upto_region 1 with fail
  go_cut [7, 8] (fun s7 s8 wx => s7 = .int .i64 pl ∧ s8 = .int .i64 (IntKind.i64.wrap ((n : Int) - 1)) ∧ Below w.heap.size w wx)
  case first =>
    go_region_with (refine D1.out.mono ?_; rintro e w2 ⟨rfl, hb⟩; have c1' := K1.out w2 hb; have HB := Lib.hid (show Below w.heap.size w w2 from ⟨hb.os, hb.tape, hb.output, hb.size, hb.block⟩); clear hb)
    all_goals ((go_wp2_with (fail)) <;> (go_meet; exact ⟨rfl, rfl, HB.out⟩))
  case rest =>
    obtain ⟨rfl, rfl, hb2⟩ := hcut
    have h2 := HH.out.below hb2
    have c0 := h2.c0
    have c1' := h2.c1
    have c2' := h2.c2
    rw [← HN.out] at c1'
    obtain ⟨sz, hsz⟩ : ∃ sz, sz = s.size := ⟨_, rfl⟩
    rw [← hsz] at c0
    have HSZ := Lib.hid hsz
    have HC := Lib.hid h2
    have HB := Lib.hid hb2
    clear hsz h2 hb2 c1
    cases hp : place s.all k with
    | some i =>
      obtain ⟨p, hpi, hpk, _⟩ := place_lt hp
      have hil : i < s.all.length := (List.getElem?_eq_some_iff.1 hpi).1
      have e1 : pl = (i : Int) := by rw [HPL.out]; unfold placeI; rw [hp]
      have hr : offerS s k x = ({ s with all := (k, x) :: s.all.eraseIdx i }, true) := by unfold offerS; rw [hp]
      have HR := Lib.hid hr
      have HIL := Lib.hid hil
      subst e1
      clear hp hpi hpk hil hr
      have i0 : (0 : Int) ≤ (i : Int) := by omega
      go_wp2_with fail
      go_quiet (fail)
      have D2 := Lib.hid (first_old cb b i _ s (k, x) _ (HC.out.drewN nq) HIL.out)
      go_wp2_with fail
      refine D2.out.mono ?_
      rintro e w3 ⟨rfl, v3, h3, t3⟩
      have H3 := Lib.hid h3
      have T3 := Lib.hid t3
      clear h3 t3
      go_wp2_with fail
      go_ret
      rw [HR.out]
      exact ⟨rfl, v3, H3.out, (Turned.of_below HB.out cb b _).trans ((Turned.drewN _ _ _ _ _ _).trans (T3.out.mono HB.out.size))⟩
    | none =>
      have e1 : pl = -1 := by rw [HPL.out]; unfold placeI; rw [hp]
      subst e1
      by_cases hlt : n < sz
      · have hr : offerS s k x = ({ s with all := (k, x) :: s.all }, true) := by unfold offerS; rw [hp]; simp only; rw [if_pos (by rw [← HN.out, ← HSZ.out]; exact hlt)]
        have HR := Lib.hid hr
        have hroom : s.all.length < s.size := by rw [← HN.out, ← HSZ.out]; exact hlt
        have HRO := Lib.hid hroom
        have i1 : (n : Int) < (sz : Int) := by omega
        clear hp hr hroom hlt
        go_wp2_with fail
        go_quiet (fail)
        have D2 := Lib.hid (first_new cb b _ s (k, x) (-1) _ (HC.out.drewN nq) HRO.out (by omega))
        go_wp2_with fail
        refine D2.out.mono ?_
        rintro e w3 ⟨rfl, v3, h3, t3⟩
        have H3 := Lib.hid h3
        have T3 := Lib.hid t3
        clear h3 t3
        go_wp2_with fail
        go_ret
        rw [HR.out]
        exact ⟨rfl, v3, H3.out, (Turned.of_below HB.out cb b _).trans ((Turned.drewN _ _ _ _ _ _).trans (T3.out.mono HB.out.size))⟩
      · have hns : n = sz := by have := HC.out.fits; rw [← HN.out, ← HSZ.out] at this; omega
        by_cases hz : sz = 0
        · have hr : offerS s k x = (s, false) := by
            unfold offerS; rw [hp]; simp only
            rw [if_neg (by rw [← HN.out, ← HSZ.out]; exact hlt)]
            have : s.all = [] := List.length_eq_zero_iff.1 (by rw [← HN.out]; omega)
            rw [this]; rfl
          have HR := Lib.hid hr
          have i1 : decide (n < sz) = false := decide_eq_false (by omega)
          have i2 : ((sz : Int) == 0) = true := by rw [beq_iff_eq]; omega
          clear hp hr hlt hz hns
          go_wp2_with fail
          go_quiet (fail)
          go_wp2_with fail
          go_quiet (fail)
          go_wp2_with fail
          go_ret
          rw [HR.out]
          exact ⟨rfl, _, (HC.out.drewN _).drewN _, ((Turned.of_below HB.out cb b _).trans (Turned.drewN _ _ _ _ _ _)).trans (Turned.drewN _ _ _ _ _ _)⟩
        · have hn0 : 0 < n := by omega
          obtain ⟨q, hq⟩ : ∃ q, s.all[n - 1]? = some q := ⟨_, List.getElem?_eq_getElem (by rw [← HN.out]; omega)⟩
          have hlast : s.all.getLast? = some q := by rw [List.getLast?_eq_getElem?, ← HN.out]; exact hq
          obtain ⟨g, cap', hv, q1, q2⟩ := HC.out.thing hq
          rw [← HN.out] at hv
          simp only [Value.slice.injEq, true_and] at hv
          obtain ⟨rfl, rfl⟩ := hv
          obtain ⟨j, hj⟩ : ∃ j, j = n - 1 := ⟨_, rfl⟩
          rw [← hj] at q1 q2
          have hw1 : IntKind.i64.wrap ((n : Int) - 1) = (j : Int) := by rw [IntKind.wrap_i64]; omega
          have hqs := HI.out.ks q (List.mem_of_getElem? hq)
          have i1 : decide (n < sz) = false := decide_eq_false (by omega)
          have i2 : ((sz : Int) == 0) = false := by rw [beq_eq_false_iff_ne]; omega
          have i3 : (j : Int) < (n : Int) := by omega
          have hl1 := fun (m : Nat) => CountsAt.look (w := wc.drewN m) (b := b) (cs := s.cs) (HC.out.cnt.block rfl) hk
          have hl2 := fun (m : Nat) => CountsAt.look (w := wc.drewN m) (b := b) (cs := s.cs) (HC.out.cnt.block rfl) hqs
          have hjl : j < s.all.length := by rw [← HN.out]; omega
          have HJ := Lib.hid hjl
          have HJN := Lib.hid hj
          have hp' : ¬ s.all.length < s.size := by rw [← HN.out, ← HSZ.out]; exact hlt
          obtain ⟨c1, hc1⟩ : ∃ c, c = often s.cs k := ⟨_, rfl⟩
          obtain ⟨c2, hc2⟩ : ∃ c, c = often s.cs q.1 := ⟨_, rfl⟩
          rw [← hc1] at hl1
          rw [← hc2] at hl2
          by_cases hle : c1 ≤ c2
          · have hr : offerS s k x = (s, false) := by
              unfold offerS; rw [hp]; simp only
              rw [if_neg hp', hlast]; simp only
              rw [if_pos (by rw [← hc1, ← hc2]; exact hle)]
            have HR := Lib.hid hr
            have i4 : (c1 : Int) ≤ (c2 : Int) := by omega
            clear hp hr hlt hz hns hlast hq hqs hjl hp' hc1 hc2 hle hj hn0
            go_wp2_with fail
            go_quiet (fail)
            go_wp2_with fail
            go_quiet (fail)
            go_wp2_with fail
            go_ret
            rw [HR.out]
            exact ⟨rfl, _, (HC.out.drewN _).drewN _, ((Turned.of_below HB.out cb b _).trans (Turned.drewN _ _ _ _ _ _)).trans (Turned.drewN _ _ _ _ _ _)⟩
          · have hr : offerS s k x = ({ s with all := (k, x) :: s.all.eraseIdx (s.all.length - 1) }, true) := by
              unfold offerS; rw [hp]; simp only
              rw [if_neg hp', hlast]; simp only
              rw [if_neg (by rw [← hc1, ← hc2]; exact hle)]
            have HR := Lib.hid hr
            have i4 : decide (c1 ≤ c2) = false := decide_eq_false hle
            have D2 := Lib.hid (fun (m : Nat) => first_old cb b j _ s (k, x) (wc.drewN m) (HC.out.drewN m) HJ.out)
            clear hp hr hlt hz hns hlast hq hqs hjl hp' hc1 hc2 hj hn0
            go_wp2_with fail
            go_quiet (fail)
            go_wp2_with fail
            go_quiet (fail)
            go_wp2_with fail
            refine (D2.out _).mono ?_
            rintro e w3 ⟨rfl, v3, h3, t3⟩
            have H3 := Lib.hid h3
            have T3 := Lib.hid t3
            clear h3 t3
            go_wp2_with fail
            go_ret
            rw [HR.out]
            have e1 : j = s.all.length - 1 := by rw [← HN.out]; exact HJN.out
            rw [e1] at H3
            exact ⟨rfl, v3, H3.out, ((Turned.of_below HB.out cb b _).trans (Turned.drewN _ _ _ _ _ _)).trans (T3.out.mono HB.out.size)⟩
end Go.Proofs.Ytoeekjooigijbaa

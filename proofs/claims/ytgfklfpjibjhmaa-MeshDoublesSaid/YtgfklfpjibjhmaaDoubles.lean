/-
  MeshDoubles, proved for every input: a frame that is doubled is the last one, too; all others stay where they are; where there is no room nothing happens. No condition.
-/
import Derived.Test.YtgfklfpjibjhmaaOpen
namespace Go.Proofs.Ytgfklfpjibjhmaa
open Go.ChangeShapes Go.WideShapes Go.ChangeAt Go.RowKit
set_option linter.unusedVariables false
set_option linter.unusedSimpArgs false

set_option maxHeartbeats 2000000 in
set_option maxRecDepth 100000 in
theorem doubles_any (room : Int) (l : List ActD) (v : Value) (n : Int) (w : World) (h1 : -9223372036854775808 ≤ room) (h2 : room ≤ 9223372036854775807) (h : ActsAt w v l) (hm : l.length ≤ maxLen) (h3 : -9223372036854775808 ≤ n) (h4 : n ≤ 9223372036854775807) :
    Calls Try.prog 7 #[.int .i64 room, v, .int .i64 n] w (BelowPost w (.bool true)) := by
  have hB := Nat.le_refl w.heap.size
  have DF := fun (w' : World) (hb : Below w.heap.size w w') (ha : ActsAt w' v l) => few_any w' v l ha hm
  unfold maxLen at hm
  obtain ⟨a, cap, rfl, hc⟩ := h
  have HA : Hid (∀ w', Below w.heap.size w w' → ActsAt w' (.slice a l.length cap) l) := Lib.hid fun w' hb => by
    refine ⟨a, cap, rfl, fun i x hx => ?_⟩
    obtain ⟨b, o, e, hq⟩ := hc i x hx
    exact ⟨b, o, e, act_cells hb hq⟩
  obtain ⟨m, hmm⟩ : ∃ m, m = l.length := ⟨_, rfl⟩
  rw [← hmm] at HA DF ⊢
  have HC := Lib.hid hc
  have HN := Lib.hid hmm
  have HF := Lib.hid DF
  have hm' : m ≤ 9223372036854775807 := by omega
  clear hm hc hmm DF
  have D0 := Lib.hid (works_any w)
  go_enter Try.func7, Try.ntmps7
  go_wp2_with fail
  refine D0.out.mono ?_
  rintro e w1 ⟨rfl, hb1⟩
  have D1 := Lib.hid (new_any room w1 h1 h2)
  have HB1 := Lib.hid hb1
  have hs1 := hb1.size
  clear hb1
  go_wp2_with fail
  refine D1.out.mono ?_
  rintro e w2 ⟨rfl, hm2, hb2⟩
  have H2 : Hid (Own w.heap.size w w2 w1.heap.size (roomOf room) []) := Lib.hid ⟨⟨_, hm2, fun k hk => by simp [Value.ownBlock] at hk⟩, hs1, HB1.out.trans (hb2.mono hs1)⟩
  clear hm2 hb2
  obtain ⟨mb, hmb⟩ : ∃ mb, mb = w1.heap.size := ⟨_, rfl⟩
  rw [← hmb] at H2 ⊢
  clear hmb
  obtain ⟨r, hr⟩ : ∃ r, r = roomOf room := ⟨_, rfl⟩
  have h3r := roomOf_three room
  rw [← hr] at H2 h3r
  have H3 := Lib.hid h3r
  clear h3r hr
  have DFe := HF.out w2 H2.out.below (HA.out w2 H2.out.below)
  go_wp2_with fail
  refine DFe.mono ?_
  rintro e w' ⟨bf, rfl, hlen, rfl⟩
  clear DFe
  cases bf with
  | false =>
    clear hlen
    go_wp2_with fail
    go_ret
    exact ⟨rfl, H2.out.below⟩
  | true =>
    have hle : m ≤ 100 := by rw [HN.out]; exact hlen rfl
    clear hlen
    go_wp2_with fail
    go_loopw [10] (fun i wr => ∃ k : Nat, k ≤ m ∧ i = .int .i64 k ∧ ∃ xs, Own w.heap.size w wr mb r xs) (fun i _ => m - (intOf i).toNat)
    case atStart => exact ⟨0, Nat.zero_le _, rfl, [], H2.out⟩
    case round =>
      obtain ⟨k, hk, rfl, xs, hown⟩ := hrel
      by_cases hkn : k < m
      · obtain ⟨x, hx⟩ : ∃ x, l[k]? = some x := ⟨_, List.getElem?_eq_getElem (by rw [← HN.out]; exact hkn)⟩
        obtain ⟨b, o, rfl, q⟩ := HC.out k x hx
        obtain ⟨q0, q1, q2, q3⟩ := act_cells hown.below q
        have D := Lib.hid (hown.post hB (fun v hm => do_all mb v r xs wr hm x))
        have b1 : (k : Int) < (m : Int) := by omega
        clear q hown hx
        go_wp2_with fail
        refine D.out.mono ?_
        rintro e w3 ⟨rfl, h5⟩
        have H5 := Lib.hid h5
        clear h5
        go_wp2_with fail
        exact ⟨⟨k + 1, by omega, by go_num, _, H5.out⟩, by simp [intOf]; omega⟩
      · have b1 : ¬ (k : Int) < (m : Int) := by omega
        have hkn' : k = m := by omega
        subst hkn'
        obtain ⟨w3, hw3⟩ : ∃ w3, w3 = wr := ⟨_, rfl⟩
        subst hw3
        have HO := Lib.hid hown
        obtain ⟨⟨v, hmv, hvB⟩, hmbB, _⟩ := hown
        have hxl : xs.length ≤ 64 := Nat.le_trans hmv.fits hmv.hi
        have hxr := hmv.fits
        have A := Lib.hid (all_any mb v r xs _ hmv)
        have HM := Lib.hid hmv
        have HVB := Lib.hid hvB
        clear hmv hvB
        go_wp2_with fail
        refine A.out.mono ?_
        rintro e w4 ⟨va, rfl, hva, hvE, hb4⟩
        have hva0 := hvE.out
        subst hva0
        have hm4 := HM.out.below hb4
        have D4 := Lib.hid (double_all mb v r xs w4 hm4 n)
        have HVA := Lib.hid hva
        have HB4 := Lib.hid hb4
        have HM4 := Lib.hid hm4
        clear hva hb4 hm4 hvE
        go_wp2_with fail
        refine D4.out.mono ?_
        rintro e w5 ⟨rfl, v', hm5, ht5⟩
        have hwas5 : StrsAt w5 (.slice (some ⟨w3.heap.size, 0, none⟩) xs.length xs.length) xs := strs_block HVA.out fun k hk hl => by
          simp only [Value.ownBlock, Option.some.injEq] at hk
          subst hk
          have l1 := HM.out.lt
          exact ht5.block _ hl (by omega) (fun e => by have := HM.out.own_lt _ e; omega)
        have HO5 := Lib.hid (Own.step (xs := xs) (Nat.le_trans HO.out.below.size HB4.out.size) hmbB HVB.out (HO.out.below.trans (HB4.out.mono HO.out.below.size)) hm5 ht5)
        have A5 := Lib.hid (all_any mb v' r _ _ hm5)
        have HW5 := Lib.hid hwas5
        clear ht5 hwas5 hm5
        obtain ⟨ys, hys⟩ : ∃ ys, ys = (doubleM r xs n).1 := ⟨_, rfl⟩
        obtain ⟨ok, hok⟩ : ∃ ok, ok = (doubleM r xs n).2 := ⟨_, rfl⟩
        rw [← hys] at A5 HO5
        rw [← hok]
        have HYS := Lib.hid hys
        have HOK := Lib.hid hok
        clear hys hok
        go_wp2_with fail
        refine A5.out.mono ?_
        rintro e w6 ⟨va, rfl, hva, hvE, hb6⟩
        have hva0 := hvE.out
        subst hva0
        have HNOW := Lib.hid hva
        have HW6 : Hid (StrsAt w6 (.slice (some ⟨w3.heap.size, 0, none⟩) xs.length xs.length) xs) := Lib.hid (HW5.out.below (Nat.le_refl _) hb6)
        have HO6 := Lib.hid (HO5.out.keep HO5.out.below.size hb6)
        clear hva hvE hb6
        cases hin : inside xs n with
        | false =>
          have hd : ys = xs ∧ ok = false := by rw [HYS.out, HOK.out]; unfold doubleM; rw [hin]; exact ⟨rfl, rfl⟩
          obtain ⟨rfl, rfl⟩ := hd
          rcases inside_false hin with c1 | c1
          · clear hin
            have S := Lib.hid (same_true w6 _ _ ys HW6.out HNOW.out (by unfold maxLen; omega))
            go_wp2_with fail
            refine S.out.mono ?_
            rintro e w7 ⟨rfl, q7, rfl⟩
            go_wp2_with fail
            go_ret
            exact ⟨rfl, HO6.out.below.trans (belowN _ _ _)⟩
          · clear hin
            have S := Lib.hid (same_true w6 _ _ ys HW6.out HNOW.out (by unfold maxLen; omega))
            go_wp2_with fail
            refine S.out.mono ?_
            rintro e w7 ⟨rfl, q7, rfl⟩
            go_wp2_with fail
            go_ret
            exact ⟨rfl, HO6.out.below.trans (belowN _ _ _)⟩
        | true =>
          obtain ⟨i, rfl, hi, hni⟩ := inside_true hin
          obtain ⟨s, hsx⟩ : ∃ s, xs[i] = s := ⟨_, rfl⟩
          have hxi : xs[i]? = some s := by rw [List.getElem?_eq_getElem hi, hsx]
          have hd : doubleM r xs (i : Int) = sendM r xs s := by unfold doubleM; rw [hin, hni, getD_at hi, hsx]; rfl
          have i1 : (i : Int) < (xs.length : Int) := by omega
          by_cases hr : xs.length < r
          · have he : ys = xs ++ [s] ∧ ok = true := by rw [HYS.out, HOK.out, hd]; unfold sendM; rw [if_pos hr]; exact ⟨rfl, rfl⟩
            obtain ⟨hye, rfl⟩ := he
            obtain ⟨p, hp⟩ : ∃ p, p = xs.length := ⟨_, rfl⟩
            have hyl : ys.length = p + 1 := by rw [hye, hp]; simp
            have q1 : w6.cell? ⟨w3.heap.size, i, none⟩ = some (.string s) := by
              obtain ⟨a, c, e, hq⟩ := HW6.out
              obtain ⟨b, o, e', hq'⟩ := hq i s hxi
              simp only [Value.slice.injEq] at e
              rw [← e.1] at e'
              simp only [Option.some.injEq, Addr.mk.injEq, and_true] at e'
              obtain ⟨rfl, rfl⟩ := e'
              simpa using hq'
            have q2 : w6.cell? ⟨w5.heap.size, p, none⟩ = some (.string s) := by
              obtain ⟨a, c, e, hq⟩ := HNOW.out
              obtain ⟨b, o, e', hq'⟩ := hq p s (by rw [hye, hp]; simp)
              simp only [Value.slice.injEq] at e
              rw [← e.1] at e'
              simp only [Option.some.injEq, Addr.mk.injEq, and_true] at e'
              obtain ⟨rfl, rfl⟩ := e'
              simpa using hq'
            have hpre : StrsAt w6 (.slice (some ⟨w5.heap.size, 0, none⟩) p (p + 1)) xs := by
              refine ⟨_, _, by rw [hp], fun j t ht => ?_⟩
              obtain ⟨a, c, e, hq⟩ := HNOW.out
              have hjt : ys[j]? = some t := by rw [hye, List.getElem?_append_left (List.getElem?_eq_some_iff.1 ht).1]; exact ht
              obtain ⟨b, o, e', hq'⟩ := hq j t hjt
              simp only [Value.slice.injEq] at e
              exact ⟨b, o, e.1.trans e', hq'⟩
            have SQ : ∀ q, Calls Try.prog 14 #[.slice (some ⟨w5.heap.size, 0, none⟩) p (p + 1), .slice (some ⟨w3.heap.size, 0, none⟩) p p] (w6.drewN q) fun e w' => e = .returned (.bool true) ∧ ∃ m, w' = (w6.drewN q).drewN m := fun q =>
              same_true (w6.drewN q) _ _ xs hpre (by rw [hp]; exact HW6.out) (by rw [← hp]; unfold maxLen; omega)
            rw [hyl, ← hp]
            rw [← hp] at i1 hxl hxr
            have hpr : p < r := by omega
            have HSQ := Lib.hid SQ
            clear hin hni hi hsx hxi hd hr hye hyl hp hpre SQ HW6 HNOW A5 HW5 HYS HOK HVA HM4 A D4
            have hw1 : IntKind.i64.wrap ((p : Int) + 1) = (p : Int) + 1 := by rw [IntKind.wrap_i64]; omega
            have hw2 : (p : Int) ≤ (p : Int) + 1 := by omega
            have hw3 : (p : Int) < (p : Int) + 1 := by omega
            have hw4 : p ≤ p + 1 := by omega
            rcases H3.out with ⟨c, rfl⟩ | ⟨c, rfl⟩ | ⟨c, c', e'⟩
            · have hcmp : decide ((p : Int) < 1) = true := decide_eq_true (by omega)
              omega
            · have hcmp : decide ((p : Int) < 64) = true := decide_eq_true (by omega)
              go_wp2_with fail
              go_quiet ((go_at_call 14; exact Calls.quiet_of (HSQ.out _)))
              go_wp2_with fail
              go_ret
              exact ⟨rfl, HO6.out.below.trans (belowN _ _ _)⟩
            · have hcmp : decide ((p : Int) < room) = true := decide_eq_true (by omega)
              go_wp2_with fail
              go_quiet ((go_at_call 14; exact Calls.quiet_of (HSQ.out _)))
              go_wp2_with fail
              go_ret
              exact ⟨rfl, HO6.out.below.trans (belowN _ _ _)⟩
          · have he : ys = xs ∧ ok = false := by rw [HYS.out, HOK.out, hd]; unfold sendM; rw [if_neg hr]; exact ⟨rfl, rfl⟩
            obtain ⟨rfl, rfl⟩ := he
            have S := Lib.hid (same_true w6 _ _ ys HW6.out HNOW.out (by unfold maxLen; omega))
            clear hin hni hi hsx hxi hd
            rcases H3.out with ⟨c, rfl⟩ | ⟨c, rfl⟩ | ⟨c, c', e'⟩
            · have hcmp : decide ((ys.length : Int) < 1) = false := decide_eq_false (by omega)
              go_wp2_with fail
              refine S.out.mono ?_
              rintro e w7 ⟨rfl, q7, rfl⟩
              go_wp2_with fail
              go_ret
              exact ⟨rfl, HO6.out.below.trans (belowN _ _ _)⟩
            · have hcmp : decide ((ys.length : Int) < 64) = false := decide_eq_false (by omega)
              go_wp2_with fail
              refine S.out.mono ?_
              rintro e w7 ⟨rfl, q7, rfl⟩
              go_wp2_with fail
              go_ret
              exact ⟨rfl, HO6.out.below.trans (belowN _ _ _)⟩
            · have hcmp : decide ((ys.length : Int) < room) = false := decide_eq_false (by omega)
              go_wp2_with fail
              refine S.out.mono ?_
              rintro e w7 ⟨rfl, q7, rfl⟩
              go_wp2_with fail
              go_ret
              exact ⟨rfl, HO6.out.below.trans (belowN _ _ _)⟩

set_option maxRecDepth 100000 in
theorem meshDoubles_lifted (os : Os) (started : os.Started) (H : Type) (enc : TypeId × Value → H) :
    ReturnsInHanded {} Try.checked os 7 .any (Rows.meshDoublesSpec.pre6 enc Try.prog Try.f7 Rows.meshDoublesRow.domain false) (Rows.meshDoublesSpec.post enc Try.prog Try.f7 false true false false) := by
  refine returnsInHanded_of_change (C := Try.checked) own started (by kernel_rfl) Try.func7
    (ChangeSpec.witness6 (enc := enc) (C := Try.checked) false ⟨#[], #[.int .i64 0, .slice none 0 0, .int .i64 0], []⟩ 8 (by kernel_rfl) (by kernel_rfl) (by kernel_rfl) (by kernel_rfl)) ?_
  intro W base args ds gs before hval0 hW hcnd _
  have hval : ∀ (j : Nat) t v, Try.f7.params[j]? = some t → args[j]? = some v → Value.okWide Try.prog W .any base t v := hval0
  have hW' := hW
  obtain ⟨p, q, hA0, hV, rfl, hfz, hnd⟩ := hW
  have hA : DataW.TrodAll enc Try.prog W 0 (fun _ => true) true Try.f7.params.toList args.toList ds p := hA0
  rw [Try.params7] at hA hval
  obtain ⟨v0, vs0, d0, ds0, p0, q0, hargs, rfl, rfl, h0, r0⟩ := trodAll_cons hA
  obtain ⟨v1, vs1, d1, ds1, p1, q1, rfl, rfl, rfl, h1, r1⟩ := trodAll_cons r0
  obtain ⟨v2, vs2, d2, ds2, p2, q2, rfl, rfl, rfl, h2, r2⟩ := trodAll_cons r1
  obtain ⟨rfl, rfl, rfl⟩ := trodAll_nil r2
  obtain rfl : args = #[v0, v1, v2] := by cases args; simp_all
  obtain ⟨rfl, rfl⟩ := trodVars_none hV
  obtain ⟨room, rfl, rfl, rfl, w0⟩ := open_int Try.underlying3 (hval 0 3 v0 rfl rfl) h0
  have b0 := Go.bounds_i64 w0
  obtain ⟨a1, len1, cap1, rfl⟩ := okWide_slice Try.underlying22 (hval 1 22 v1 rfl rfl)
  have k1 := h1
  have lt1 : ∀ x ∈ p1, x.block < W.heap.size := by obtain ⟨m, hm⟩ := k1; exact DataW.trod_lt m _ _ _ hm
  obtain ⟨l, hs1, hlen1⟩ : ∃ l, ActsAt W (.slice a1 len1 cap1) l ∧ l.length ≤ maxLen := by
    obtain ⟨fuel, hf⟩ := h1
    obtain ⟨v, xs, hv, h2, h3⟩ := acts_of hf
    simp [Value.cells] at hv
    subst hv
    exact ⟨xs, h2, h3⟩
  obtain ⟨n, rfl, rfl, rfl, w2⟩ := open_int Try.underlying3 (hval 2 3 v2 rfl rfl) h2
  have b2 := Go.bounds_i64 w2
  clear hA0 hval0
  refine (doubles_any room l _ n W b0.1 b0.2 hs1 hlen1 b2.1 b2.2).mono fun e W' ⟨he, bel⟩ => ?_
  subst he
  exact ⟨_, rfl, _, _, _, [], _, [], hW', trodAll_mk1 (shut_bool Try.underlying4 _), (trodAll_cons_mk (shut_int Try.underlying3 w0) (trodAll_cons_mk (Below.trod laidOut (by kernel_rfl) (of_decide_eq_true (by kernel_rfl)) k1 bel lt1) (trodAll_cons_mk (shut_int Try.underlying3 w2) trodAll_mk0))), rfl, bel.frame _, fun h => by cases h⟩

theorem meshDoubles_holds : Rows.MeshDoublesSaid :=
  OpenClaim.holds_of_wide 7 Try.f7 rfl rfl rfl rfl rfl rfl rfl ⟨rfl, rfl, rfl, rfl, rfl⟩ rfl rfl rfl rfl rfl (by kernel_rfl) Try.func7 (by kernel_rfl)
    (of_decide_eq_true (by kernel_rfl)) (by unfold Func.isWrapper; first | (rw [if_pos (by decide +kernel)]; kernel_rfl) | (rw [if_neg (by decide +kernel)]; exact ⟨rfl, rfl⟩))
    (fun os started H enc _ => meshDoubles_lifted os started H enc)
#print axioms meshDoubles_holds
end Go.Proofs.Ytgfklfpjibjhmaa

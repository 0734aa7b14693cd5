/-
  MeshMoves, proved for every input: what is moved is where it was moved to; moved back, all is as it was; nothing else is lost. No condition.
-/
import Derived.Test.YtgfklfpjibjhmaaOpen
namespace Go.Proofs.Ytgfklfpjibjhmaa
open Go.ChangeShapes Go.WideShapes Go.ChangeAt Go.RowKit
set_option linter.unusedVariables false
set_option linter.unusedSimpArgs false

theorem moved_len {xs : List ByteArray} {n to : Nat} {s : ByteArray} (hn : n < xs.length) (hto : to < xs.length) : (moved xs n to s).length = xs.length := by
  have := List.length_eraseIdx_of_lt hn
  simp [moved]; omega
theorem moved_at {xs : List ByteArray} {n to : Nat} {s : ByteArray} (hn : n < xs.length) (hto : to < xs.length) : (moved xs n to s)[to]? = some s := by
  have hl := List.length_eraseIdx_of_lt hn
  have h1 : ((xs.eraseIdx n).take to).length = to := by rw [List.length_take]; omega
  unfold moved
  rw [List.append_assoc, List.getElem?_append_right (by omega), h1, Nat.sub_self]
  rfl
theorem moved_back {xs : List ByteArray} {n to : Nat} (hn : n < xs.length) (hto : to < xs.length) : moved (moved xs n to xs[n]) to n xs[n] = xs := by
  have hl := List.length_eraseIdx_of_lt hn
  have h1 : ((xs.eraseIdx n).take to).length = to := by rw [List.length_take]; omega
  have h2 : (moved xs n to xs[n]).eraseIdx to = xs.eraseIdx n := by
    unfold moved
    rw [List.append_assoc, List.eraseIdx_append_of_length_le (by omega), h1, Nat.sub_self]
    simp
  have hun : ∀ ys s, moved ys to n s = (ys.eraseIdx to).take n ++ [s] ++ (ys.eraseIdx to).drop n := fun _ _ => rfl
  rw [hun, h2, List.eraseIdx_eq_take_drop_succ]
  have h3 : (xs.take n).length = n := by rw [List.length_take]; omega
  rw [List.take_append_of_le_length (by omega), List.drop_append_of_le_length (by omega), List.take_of_length_le (by omega), List.drop_of_length_le (by omega), List.nil_append]
  rw [List.append_assoc]
  conv => rhs; rw [← List.take_append_drop n xs, List.drop_eq_getElem_cons hn]
  rfl

theorem roomOf_64 : roomOf 64 = 64 := by unfold roomOf; omega

set_option maxHeartbeats 2000000 in
set_option maxRecDepth 100000 in
theorem moves_any (xs : List ByteArray) (v : Value) (n to : Int) (w : World) (h : StrsAt w v xs) (hm : xs.length ≤ maxLen) (h1 : -9223372036854775808 ≤ n) (h2 : n ≤ 9223372036854775807) (h3 : -9223372036854775808 ≤ to) (h4 : to ≤ 9223372036854775807) :
    Calls Try.prog 5 #[v, .int .i64 n, .int .i64 to] w (BelowPost w (.bool true)) := by
  unfold maxLen at hm
  have hB := Nat.le_refl w.heap.size
  have HS := Lib.hid h
  obtain ⟨a, cap, rfl, hc⟩ := h
  obtain ⟨m, hmm⟩ : ∃ m, m = xs.length := ⟨_, rfl⟩
  rw [← hmm] at HS ⊢
  have HC := Lib.hid hc
  have HN := Lib.hid hmm
  have hm' : m ≤ 9223372036854775807 := by omega
  clear hm hc hmm
  have D0 := Lib.hid (works_any w)
  go_enter Try.func5, Try.ntmps5
  go_wp2_with fail
  refine D0.out.mono ?_
  rintro e w1 ⟨rfl, hb1⟩
  have D1 := Lib.hid (new_any 64 w1 (by omega) (by omega))
  have HB1 := Lib.hid hb1
  have hs1 := hb1.size
  clear hb1
  go_wp2_with fail
  refine D1.out.mono ?_
  rintro e w2 ⟨rfl, hm2, hb2⟩
  have H2 : Hid (Own w.heap.size w w2 w1.heap.size 64 []) := Lib.hid ⟨⟨_, roomOf_64 ▸ hm2, fun k hk => by simp [Value.ownBlock] at hk⟩, hs1, HB1.out.trans (hb2.mono hs1)⟩
  clear hm2 hb2
  obtain ⟨mb, hmb⟩ : ∃ mb, mb = w1.heap.size := ⟨_, rfl⟩
  rw [← hmb] at H2 ⊢
  clear hmb
  by_cases hle : m ≤ 64
  · have hle' : ¬ (64 : Int) < (m : Int) := by omega
    go_wp2_with fail
    go_loopw [9] (fun i wr => ∃ k : Nat, k ≤ m ∧ i = .int .i64 k ∧ Own w.heap.size w wr mb 64 (xs.take k)) (fun i _ => m - (intOf i).toNat)
    case atStart => exact ⟨0, Nat.zero_le _, rfl, by simpa using H2.out⟩
    case round =>
      obtain ⟨k, hk, rfl, hown⟩ := hrel
      by_cases hkn : k < m
      · obtain ⟨x, hx⟩ : ∃ x, xs[k]? = some x := ⟨_, List.getElem?_eq_getElem (by rw [← HN.out]; exact hkn)⟩
        obtain ⟨b, o, rfl, q⟩ := HC.out k x hx
        have hbl := World.block_lt_of_cell? w _ q
        have q1 : wr.cell? ⟨b, o + k, none⟩ = some (.string x) := (hown.below.cell (p := ⟨b, o + k, none⟩) hbl).trans q
        have hs : sendM 64 (xs.take k) x = (xs.take (k + 1), true) := by
          unfold sendM
          have : (xs.take k).length = k := by rw [List.length_take, ← HN.out]; omega
          rw [if_pos (by omega), List.take_add_one, hx]
          rfl
        have DS := hown.post hB (fun v hm => send_all mb v 64 _ wr hm x)
        rw [hs] at DS
        have D := Lib.hid DS
        have HO := Lib.hid hown
        have b1 : (k : Int) < (m : Int) := by omega
        clear q hown hx DS hs
        go_wp2_with fail
        · go_ret
          exact ⟨rfl, HO.out.below⟩
        · refine D.out.mono ?_
          rintro e w3 ⟨rfl, h4⟩
          have H4 := Lib.hid h4
          clear h4
          go_wp2_with fail
          exact ⟨⟨k + 1, by omega, by go_num, H4.out⟩, by simp [intOf]; omega⟩
      · have b1 : ¬ (k : Int) < (m : Int) := by omega
        have hkn' : k = m := by omega
        subst hkn'
        rw [List.take_of_length_le (by rw [← HN.out]; omega)] at hown
        obtain ⟨w3, hw3⟩ : ∃ w3, w3 = wr := ⟨_, rfl⟩
        subst hw3
        have DM := hown.post hB (fun v hm => move_all mb v 64 xs _ hm n to)
        clear hown
        cases hin : (inside xs n && inside xs to) with
        | false =>
          have hmv : moveM xs n to = (xs, false) := by unfold moveM; rw [hin]; rfl
          rw [hmv] at DM
          have D := Lib.hid DM
          have hcase : (n < 0) ∨ (¬ n < 0 ∧ (k : Int) ≤ n) ∨ (¬ n < 0 ∧ ¬ (k : Int) ≤ n ∧ to < 0) ∨ (¬ n < 0 ∧ ¬ (k : Int) ≤ n ∧ ¬ to < 0 ∧ (k : Int) ≤ to) := by
            have := HN.out
            simp only [inside, Bool.and_eq_false_iff, decide_eq_false_iff_not] at hin
            omega
          clear hmv DM hin
          go_wp2_with fail
          refine D.out.mono ?_
          rintro e w4 ⟨rfl, h4⟩
          have H4 := Lib.hid h4
          clear h4
          rcases hcase with c1 | ⟨c1, c2⟩ | ⟨c1, c2, c3⟩ | ⟨c1, c2, c3, c4⟩
          · go_wp2_with fail
            have hown := H4.out
            obtain ⟨⟨v, hmv, _⟩, _, _⟩ := hown
            have A := Lib.hid (all_any mb v 64 xs _ hmv)
            clear hmv
            refine A.out.mono ?_
            rintro e w5 ⟨va, rfl, hva, _, hb5⟩
            have S5 := Lib.hid (same_true w5 va (.slice a k cap) xs hva (HS.out.below (Nat.le_refl _) (H4.out.below.trans (hb5.mono H4.out.below.size))) (by rw [← HN.out]; unfold maxLen; omega))
            have HB5 := Lib.hid hb5
            clear hva hb5
            go_wp2_with fail
            refine S5.out.mono ?_
            rintro e w6 ⟨rfl, q6, rfl⟩
            go_wp2_with fail
            go_ret
            exact ⟨rfl, H4.out.below.trans ((HB5.out.mono H4.out.below.size).trans (belowN _ _ _))⟩
          · go_wp2_with fail
            have hown := H4.out
            obtain ⟨⟨v, hmv, _⟩, _, _⟩ := hown
            have A := Lib.hid (all_any mb v 64 xs _ hmv)
            clear hmv
            refine A.out.mono ?_
            rintro e w5 ⟨va, rfl, hva, _, hb5⟩
            have S5 := Lib.hid (same_true w5 va (.slice a k cap) xs hva (HS.out.below (Nat.le_refl _) (H4.out.below.trans (hb5.mono H4.out.below.size))) (by rw [← HN.out]; unfold maxLen; omega))
            have HB5 := Lib.hid hb5
            clear hva hb5
            go_wp2_with fail
            refine S5.out.mono ?_
            rintro e w6 ⟨rfl, q6, rfl⟩
            go_wp2_with fail
            go_ret
            exact ⟨rfl, H4.out.below.trans ((HB5.out.mono H4.out.below.size).trans (belowN _ _ _))⟩
          · go_wp2_with fail
            have hown := H4.out
            obtain ⟨⟨v, hmv, _⟩, _, _⟩ := hown
            have A := Lib.hid (all_any mb v 64 xs _ hmv)
            clear hmv
            refine A.out.mono ?_
            rintro e w5 ⟨va, rfl, hva, _, hb5⟩
            have S5 := Lib.hid (same_true w5 va (.slice a k cap) xs hva (HS.out.below (Nat.le_refl _) (H4.out.below.trans (hb5.mono H4.out.below.size))) (by rw [← HN.out]; unfold maxLen; omega))
            have HB5 := Lib.hid hb5
            clear hva hb5
            go_wp2_with fail
            refine S5.out.mono ?_
            rintro e w6 ⟨rfl, q6, rfl⟩
            go_wp2_with fail
            go_ret
            exact ⟨rfl, H4.out.below.trans ((HB5.out.mono H4.out.below.size).trans (belowN _ _ _))⟩
          · go_wp2_with fail
            have hown := H4.out
            obtain ⟨⟨v, hmv, _⟩, _, _⟩ := hown
            have A := Lib.hid (all_any mb v 64 xs _ hmv)
            clear hmv
            refine A.out.mono ?_
            rintro e w5 ⟨va, rfl, hva, _, hb5⟩
            have S5 := Lib.hid (same_true w5 va (.slice a k cap) xs hva (HS.out.below (Nat.le_refl _) (H4.out.below.trans (hb5.mono H4.out.below.size))) (by rw [← HN.out]; unfold maxLen; omega))
            have HB5 := Lib.hid hb5
            clear hva hb5
            go_wp2_with fail
            refine S5.out.mono ?_
            rintro e w6 ⟨rfl, q6, rfl⟩
            go_wp2_with fail
            go_ret
            exact ⟨rfl, H4.out.below.trans ((HB5.out.mono H4.out.below.size).trans (belowN _ _ _))⟩
        | true =>
          have hmv : moveM xs n to = (moved xs n.toNat to.toNat (nth xs n), true) := by unfold moveM; rw [hin]; rfl
          rw [hmv] at DM
          rw [Bool.and_eq_true] at hin
          obtain ⟨i, rfl, hi, hni⟩ := inside_true hin.1
          obtain ⟨j, rfl, hj, _⟩ := inside_true hin.2
          rw [hni, getD_at hi, Int.toNat_natCast, Int.toNat_natCast] at DM
          have hl := HN.out
          have c1 : ¬ (i : Int) < 0 := by omega
          have c2 : ¬ (k : Int) ≤ (i : Int) := by omega
          have c3 : ¬ (j : Int) < 0 := by omega
          have c4 : ¬ (k : Int) ≤ (j : Int) := by omega
          have HL := Lib.hid hl
          have hik : i < k := by omega
          have hjk : j < k := by omega
          have hi' : i < xs.length := hi
          have hj' : j < xs.length := hj
          obtain ⟨s, hsx⟩ : ∃ s, xs[i] = s := ⟨_, rfl⟩
          rw [hsx] at DM
          have hbk := moved_back hi' hj'
          rw [hsx] at hbk
          have hat := moved_at (s := s) hi' hj'
          have hml := moved_len (s := s) hi' hj'
          have hxi : xs[i]? = some s := by rw [List.getElem?_eq_getElem hi', hsx]
          have hD := Lib.hid DM
          generalize hys : moved xs i j s = ys at *
          have D := hD
          have HBK := Lib.hid hbk
          have HAT := Lib.hid hat
          have HML := Lib.hid hml
          have HXI := Lib.hid hxi
          clear hD hmv DM hin hni hl hi hj hi' hj' hsx hbk hat hml hxi hys
          go_wp2_with fail
          refine D.out.mono ?_
          rintro e w4 ⟨rfl, h4⟩
          have H4 := Lib.hid h4
          clear h4
          have hown := H4.out
          obtain ⟨⟨v, hmv, _⟩, _, _⟩ := hown
          have A := Lib.hid (all_any mb v 64 ys _ hmv)
          clear hmv
          go_wp2_with fail
          refine A.out.mono ?_
          rintro e w5 ⟨va, rfl, hva, _, hb5⟩
          have H5 := Lib.hid (H4.out.keep H4.out.below.size hb5)
          obtain ⟨a', cap', rfl, hca⟩ := hva
          obtain ⟨b', o', rfl, q1⟩ := hca j s HAT.out
          obtain ⟨b, o, rfl, q2⟩ := HC.out i s HXI.out
          have q2' : w5.cell? ⟨b, o + i, none⟩ = some (.string s) := (H5.out.below.cell (p := ⟨b, o + i, none⟩) (World.block_lt_of_cell? w _ q2)).trans q2
          rw [HML.out, ← HN.out]
          have d1 : decide ((i : Int) < 0) = false := decide_eq_false (by omega)
          have d2 : decide ((j : Int) < 0) = false := decide_eq_false (by omega)
          have d3 : decide (k ≤ i) = false := decide_eq_false (by omega)
          have d4 : decide (k ≤ j) = false := decide_eq_false (by omega)
          have i1 : (0 : Int) ≤ (i : Int) := by omega
          have i2 : (i : Int) < (k : Int) := by omega
          have i3 : (j : Int) < (k : Int) := by omega
          clear hca hb5 q2
          go_wp2_with fail
          go_quiet (fail)
          go_wp2_with fail
          have hown := H5.out.keep H5.out.below.size (belowN _ w5 nq)
          have DM := hown.post hB (fun v hm => move_all mb v 64 ys _ hm (j : Int) (i : Int))
          have hmv : moveM ys (j : Int) (i : Int) = (xs, true) := by
            have l1 := HML.out
            have l2 := HN.out
            unfold moveM inside
            rw [decide_eq_true (show (0 : Int) ≤ (j : Int) ∧ (j : Int) < (ys.length : Int) by omega), decide_eq_true (show (0 : Int) ≤ (i : Int) ∧ (i : Int) < (ys.length : Int) by omega)]
            have hn : nth ys (j : Int) = s := by unfold nth; simp [List.getD, HAT.out]
            rw [hn, Int.toNat_natCast, Int.toNat_natCast, HBK.out]
            rfl
          rw [hmv] at DM
          refine DM.mono ?_
          rintro e w7 ⟨rfl, h7⟩
          have H7 := Lib.hid h7
          clear DM hmv hown h7
          go_wp2_with fail
          have hown := H7.out
          obtain ⟨⟨v, hmv, _⟩, _, _⟩ := hown
          have A7 := Lib.hid (all_any mb v 64 xs _ hmv)
          clear hmv
          refine A7.out.mono ?_
          rintro e w8 ⟨va, rfl, hva, _, hb8⟩
          have S8 := Lib.hid (same_true w8 va (.slice (some ⟨b, o, none⟩) k cap) xs hva (HS.out.below (Nat.le_refl _) (H7.out.below.trans (hb8.mono H7.out.below.size))) (by rw [← HN.out]; unfold maxLen; omega))
          have HB8 := Lib.hid hb8
          clear hva hb8
          go_wp2_with fail
          refine S8.out.mono ?_
          rintro e w9 ⟨rfl, q9, rfl⟩
          go_wp2_with fail
          go_ret
          exact ⟨rfl, H7.out.below.trans ((HB8.out.mono H7.out.below.size).trans (belowN _ _ _))⟩
  · have hle' : (64 : Int) < (m : Int) := by omega
    go_wp2_with fail
    go_ret
    exact ⟨rfl, H2.out.below⟩

set_option maxRecDepth 100000 in
theorem meshMoves_lifted (os : Os) (started : os.Started) (H : Type) (enc : TypeId × Value → H) :
    ReturnsInHanded {} Try.checked os 5 .any (Rows.meshMovesSpec.pre6 enc Try.prog Try.f5 Rows.meshMovesRow.domain false) (Rows.meshMovesSpec.post enc Try.prog Try.f5 false true false false) := by
  refine returnsInHanded_of_change (C := Try.checked) own started (by kernel_rfl) Try.func5
    (ChangeSpec.witness6 (enc := enc) (C := Try.checked) false ⟨#[], #[.slice none 0 0, .int .i64 0, .int .i64 0], []⟩ 8 (by kernel_rfl) (by kernel_rfl) (by kernel_rfl) (by kernel_rfl)) ?_
  intro W base args ds gs before hval0 hW hcnd _
  have hval : ∀ (j : Nat) t v, Try.f5.params[j]? = some t → args[j]? = some v → Value.okWide Try.prog W .any base t v := hval0
  have hW' := hW
  obtain ⟨p, q, hA0, hV, rfl, hfz, hnd⟩ := hW
  have hA : DataW.TrodAll enc Try.prog W 0 (fun _ => true) true Try.f5.params.toList args.toList ds p := hA0
  rw [Try.params5] at hA hval
  obtain ⟨v0, vs0, d0, ds0, p0, q0, hargs, rfl, rfl, h0, r0⟩ := trodAll_cons hA
  obtain ⟨v1, vs1, d1, ds1, p1, q1, rfl, rfl, rfl, h1, r1⟩ := trodAll_cons r0
  obtain ⟨v2, vs2, d2, ds2, p2, q2, rfl, rfl, rfl, h2, r2⟩ := trodAll_cons r1
  obtain ⟨rfl, rfl, rfl⟩ := trodAll_nil r2
  obtain rfl : args = #[v0, v1, v2] := by cases args; simp_all
  obtain ⟨rfl, rfl⟩ := trodVars_none hV
  obtain ⟨a0, len0, cap0, rfl⟩ := okWide_slice Try.underlying27 (hval 0 27 v0 rfl rfl)
  have k0 := h0
  have lt0 : ∀ x ∈ p0, x.block < W.heap.size := by obtain ⟨m, hm⟩ := k0; exact DataW.trod_lt m _ _ _ hm
  obtain ⟨xs, hs0, hlen0⟩ : ∃ xs, StrsAt W (.slice a0 len0 cap0) xs ∧ xs.length ≤ maxLen := by
    obtain ⟨fuel, hf⟩ := h0
    obtain ⟨v, xs, hv, h2, h3⟩ := strs_of hf
    simp [Value.cells] at hv
    subst hv
    exact ⟨xs, h2, h3⟩
  obtain ⟨n, rfl, rfl, rfl, w1⟩ := open_int Try.underlying3 (hval 1 3 v1 rfl rfl) h1
  have b1 := Go.bounds_i64 w1
  obtain ⟨to, rfl, rfl, rfl, w2⟩ := open_int Try.underlying3 (hval 2 3 v2 rfl rfl) h2
  have b2 := Go.bounds_i64 w2
  clear hA0 hval0
  refine (moves_any xs _ n to W hs0 hlen0 b1.1 b1.2 b2.1 b2.2).mono fun e W' ⟨he, bel⟩ => ?_
  subst he
  exact ⟨_, rfl, _, _, _, [], _, [], hW', trodAll_mk1 (shut_bool Try.underlying4 _), (trodAll_cons_mk (Below.trod laidOut (by kernel_rfl) (of_decide_eq_true (by kernel_rfl)) k0 bel lt0) (trodAll_cons_mk (shut_int Try.underlying3 w1) (trodAll_cons_mk (shut_int Try.underlying3 w2) trodAll_mk0))), rfl, bel.frame _, fun h => by cases h⟩

theorem meshMoves_holds : Rows.MeshMovesSaid :=
  OpenClaim.holds_of_wide 5 Try.f5 rfl rfl rfl rfl rfl rfl rfl ⟨rfl, rfl, rfl, rfl, rfl⟩ rfl rfl rfl rfl rfl (by kernel_rfl) Try.func5 (by kernel_rfl)
    (of_decide_eq_true (by kernel_rfl)) (by unfold Func.isWrapper; first | (rw [if_pos (by decide +kernel)]; kernel_rfl) | (rw [if_neg (by decide +kernel)]; exact ⟨rfl, rfl⟩))
    (fun os started H enc _ => meshMoves_lifted os started H enc)
#print axioms meshMoves_holds
end Go.Proofs.Ytgfklfpjibjhmaa

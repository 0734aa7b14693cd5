/-
  MeshOrder, proved for every input: frames taken from the first place on come in the order in which they were sent, as many as there was room for. No condition.
-/
import Derived.Test.YtgfklfpjibjhmaaOpen
namespace Go.Proofs.Ytgfklfpjibjhmaa
open Go.ChangeShapes Go.WideShapes Go.ChangeAt Go.RowKit
set_option linter.unusedVariables false
set_option linter.unusedSimpArgs false

set_option maxHeartbeats 2000000 in
theorem order_any (room : Int) (xs : List ByteArray) (v : Value) (w : World) (h1 : -9223372036854775808 ≤ room) (h2 : room ≤ 9223372036854775807) (h : StrsAt w v xs) (hm : xs.length ≤ maxLen) :
    Calls Try.prog 6 #[.int .i64 room, v] w (BelowPost w (.bool true)) := by
  unfold maxLen at hm
  have hB := Nat.le_refl w.heap.size
  obtain ⟨a, cap, rfl, hc⟩ := h
  obtain ⟨n, hn⟩ : ∃ n, n = xs.length := ⟨_, rfl⟩
  rw [← hn]
  have HC := Lib.hid hc
  have HN := Lib.hid hn
  have hm' : n ≤ 9223372036854775807 := by omega
  have hlt : ∀ i x, xs[i]? = some x → ∃ b o, a = some ⟨b, o, none⟩ ∧ b < w.heap.size := fun i x hx => by
    obtain ⟨b, o, e, hq⟩ := hc i x hx
    exact ⟨b, o, e, World.block_lt_of_cell? w _ hq⟩
  clear hm hc hn
  have D0 := Lib.hid (works_any w)
  go_enter Try.func6, Try.ntmps6
  go_wp2_with fail
  refine D0.out.mono ?_
  rintro e w1 ⟨rfl, hb1⟩
  have D1 := Lib.hid (new_any room w1 h1 h2)
  have HB1 := Lib.hid hb1
  have hs1 := hb1.size
  clear hb1
  go_wp2_with fail
  refine D1.out.mono ?_
  rintro e w2 ⟨rfl, hm2, hb2⟩
  have H2 : Hid (Own w.heap.size w w2 w1.heap.size (roomOf room) []) := Lib.hid ⟨⟨_, hm2, fun k hk => by simp [Value.ownBlock] at hk⟩, hs1, HB1.out.trans (hb2.mono hs1)⟩
  clear hm2 hb2
  by_cases hle : n ≤ 100
  · have hle' : ¬ (100 : Int) < (n : Int) := by omega
    obtain ⟨r, hr⟩ : ∃ r, r = roomOf room := ⟨_, rfl⟩
    have h3 := roomOf_three room
    rw [← hr] at H2 h3
    have hrb := roomOf_bd room
    rw [← hr] at hrb
    have H3 := Lib.hid h3
    clear h3 hr
    obtain ⟨mb, hmb⟩ : ∃ mb, mb = w1.heap.size := ⟨_, rfl⟩
    rw [← hmb] at H2 ⊢
    clear hmb
    go_wp2_with fail
    go_loopw [7] (fun i wr => ∃ k : Nat, k ≤ n ∧ i = .int .i64 k ∧ Own w.heap.size w wr mb r (xs.take (min k r))) (fun i _ => n - (intOf i).toNat)
    case atStart => exact ⟨0, Nat.zero_le _, rfl, by simpa using H2.out⟩
    case round =>
      obtain ⟨k, hk, rfl, hown⟩ := hrel
      by_cases hkn : k < n
      · obtain ⟨x, hx⟩ : ∃ x, xs[k]? = some x := ⟨_, List.getElem?_eq_getElem (by rw [← HN.out]; exact hkn)⟩
        obtain ⟨b, o, rfl, q⟩ := HC.out k x hx
        have hbl := World.block_lt_of_cell? w _ q
        have q1 : wr.cell? ⟨b, o + k, none⟩ = some (.string x) := (hown.below.cell (p := ⟨b, o + k, none⟩) hbl).trans q
        have DS := Lib.hid (hown.post hB (fun v hm => send_all mb v r _ wr hm x))
        have HO := Lib.hid hown
        have HX := Lib.hid hx
        have b1 : (k : Int) < (n : Int) := by omega
        clear q hown hx
        go_wp2_with fail
        · go_ret
          exact ⟨rfl, HO.out.below⟩
        · refine DS.out.mono ?_
          rintro e w3 ⟨rfl, h4⟩
          have hlen : (xs.take (min k r)).length = min k r := by rw [List.length_take, ← HN.out]; omega
          have hs : sendM r (xs.take (min k r)) x = (xs.take (min (k + 1) r), decide (k < r)) := by
            unfold sendM
            rw [hlen]
            by_cases hkr : k < r
            · rw [if_pos (by omega), show min k r = k by omega, show min (k + 1) r = k + 1 by omega, List.take_add_one, HX.out, decide_eq_true hkr]
              rfl
            · rw [if_neg (by omega), show min k r = r by omega, show min (k + 1) r = r by omega, decide_eq_false hkr]
          rw [hs] at h4 ⊢
          obtain ⟨okb, hok⟩ : ∃ okb, okb = decide (k < r) := ⟨_, rfl⟩
          rw [← hok]
          have H4 := Lib.hid h4
          have HK := Lib.hid hok
          clear h4 hs hlen hok
          rcases H3.out with ⟨c, rfl⟩ | ⟨c, rfl⟩ | ⟨c, c', e'⟩
          · have hcmp : okb = decide ((k : Int) < 1) := by rw [HK.out]; exact decide_eq_decide.2 (by omega)
            have HP := Lib.hid hcmp
            clear hcmp
            go_wp2_with fail
            · rename_i ht
              rw [HP.out] at ht
              simp at ht
            · exact ⟨⟨k + 1, by omega, by go_num, H4.out⟩, by simp [intOf]; omega⟩
          · have hcmp : okb = decide ((k : Int) < 64) := by rw [HK.out]; exact decide_eq_decide.2 (by omega)
            have HP := Lib.hid hcmp
            clear hcmp
            go_wp2_with fail
            · rename_i ht
              rw [HP.out] at ht
              simp at ht
            · exact ⟨⟨k + 1, by omega, by go_num, H4.out⟩, by simp [intOf]; omega⟩
          · have hcmp : okb = decide ((k : Int) < room) := by rw [HK.out]; exact decide_eq_decide.2 (by omega)
            have HP := Lib.hid hcmp
            clear hcmp
            go_wp2_with fail
            · rename_i ht
              rw [HP.out] at ht
              simp at ht
            · exact ⟨⟨k + 1, by omega, by go_num, H4.out⟩, by simp [intOf]; omega⟩
      · have b1 : ¬ (k : Int) < (n : Int) := by omega
        have hkn' : k = n := by omega
        subst hkn'
        have HO := Lib.hid hown
        clear hown
        go_wp2_with fail
        go_loopw [9] (fun i wr' => ∃ j : Nat, j ≤ k ∧ j ≤ r ∧ i = .int .i64 j ∧ Own w.heap.size w wr' mb r ((xs.take (min k r)).drop j)) (fun i _ => k - (intOf i).toNat)
        case atStart => exact ⟨0, Nat.zero_le _, Nat.zero_le _, rfl, by simpa using HO.out⟩
        case round =>
          obtain ⟨j, hj, hjr, rfl, hown⟩ := hrel
          by_cases hjk : j < k
          · have b1 : (j : Int) < (k : Int) := by omega
            by_cases hj2 : j < r
            · obtain ⟨x, hx⟩ : ∃ x, xs[j]? = some x := ⟨_, List.getElem?_eq_getElem (by rw [← HN.out]; exact hjk)⟩
              obtain ⟨b, o, rfl, q⟩ := HC.out j x hx
              have hbl := World.block_lt_of_cell? w _ q
              have DS := hown.post hB (fun v hm => take_all mb v r _ _ hm 0)
              have hd : (xs.take (min k r)).drop j = x :: (xs.take (min k r)).drop (j + 1) := by
                have e1 : (xs.take (min k r))[j]? = some x := by rw [List.getElem?_take, if_pos (by omega)]; exact hx
                obtain ⟨hl, e2⟩ := List.getElem?_eq_some_iff.1 e1
                rw [← e2]
                exact List.drop_eq_getElem_cons hl
              rw [hd] at DS
              have ht : takeM (x :: (xs.take (min k r)).drop (j + 1)) 0 = ((xs.take (min k r)).drop (j + 1), x, true) := by
                unfold takeM inside
                rw [decide_eq_true (by simp)]
                rfl
              rw [ht] at DS
              have D := Lib.hid DS
              clear DS hd ht hx hown
              rcases H3.out with ⟨c, rfl⟩ | ⟨c, rfl⟩ | ⟨c, c', e'⟩
              · have hcmp : decide ((j : Int) < 1) = true := decide_eq_true (by omega)
                go_wp2_with fail
                refine D.out.mono ?_
                rintro e w5 ⟨rfl, h5⟩
                have q1 : w5.cell? ⟨b, o + j, none⟩ = some (.string x) := (h5.below.cell (p := ⟨b, o + j, none⟩) hbl).trans q
                have H5 := Lib.hid h5
                clear h5
                go_wp2_with fail
                exact ⟨⟨j + 1, by omega, by omega, by go_num, H5.out⟩, by simp [intOf]; omega⟩
              · have hcmp : decide ((j : Int) < 64) = true := decide_eq_true (by omega)
                go_wp2_with fail
                refine D.out.mono ?_
                rintro e w5 ⟨rfl, h5⟩
                have q1 : w5.cell? ⟨b, o + j, none⟩ = some (.string x) := (h5.below.cell (p := ⟨b, o + j, none⟩) hbl).trans q
                have H5 := Lib.hid h5
                clear h5
                go_wp2_with fail
                exact ⟨⟨j + 1, by omega, by omega, by go_num, H5.out⟩, by simp [intOf]; omega⟩
              · have hcmp : decide ((j : Int) < room) = true := decide_eq_true (by omega)
                go_wp2_with fail
                refine D.out.mono ?_
                rintro e w5 ⟨rfl, h5⟩
                have q1 : w5.cell? ⟨b, o + j, none⟩ = some (.string x) := (h5.below.cell (p := ⟨b, o + j, none⟩) hbl).trans q
                have H5 := Lib.hid h5
                clear h5
                go_wp2_with fail
                exact ⟨⟨j + 1, by omega, by omega, by go_num, H5.out⟩, by simp [intOf]; omega⟩
            · have hnil : (xs.take (min k r)).drop j = [] := List.drop_of_length_le (by rw [List.length_take]; omega)
              rw [hnil] at hown
              have D := Lib.hid (hown.post (xs' := []) (r := .tuple #[.string ⟨#[]⟩, .bool false]) hB (fun v hm => take_all mb v r [] _ hm 0))
              clear hown hnil
              rcases H3.out with ⟨c, rfl⟩ | ⟨c, rfl⟩ | ⟨c, c', e'⟩
              · have hcmp : decide ((j : Int) < 1) = false := decide_eq_false (by omega)
                go_wp2_with fail
                refine D.out.mono ?_
                rintro e w5 ⟨rfl, h5⟩
                have H5 := Lib.hid h5
                clear h5
                go_wp2_with fail
                go_ret
                exact ⟨rfl, H5.out.below⟩
              · have hcmp : decide ((j : Int) < 64) = false := decide_eq_false (by omega)
                go_wp2_with fail
                refine D.out.mono ?_
                rintro e w5 ⟨rfl, h5⟩
                have H5 := Lib.hid h5
                clear h5
                go_wp2_with fail
                go_ret
                exact ⟨rfl, H5.out.below⟩
              · have hcmp : decide ((j : Int) < room) = false := decide_eq_false (by omega)
                go_wp2_with fail
                refine D.out.mono ?_
                rintro e w5 ⟨rfl, h5⟩
                have H5 := Lib.hid h5
                clear h5
                go_wp2_with fail
                go_ret
                exact ⟨rfl, H5.out.below⟩
          · have b1 : ¬ (j : Int) < (k : Int) := by omega
            have hnil : (xs.take (min k r)).drop j = [] := List.drop_of_length_le (by rw [List.length_take]; omega)
            rw [hnil] at hown
            have D := Lib.hid (hown.post (xs' := []) (r := .tuple #[.string ⟨#[]⟩, .bool false]) hB (fun v hm => take_all mb v r [] _ hm 0))
            clear hown hnil
            go_wp2_with fail
            refine D.out.mono ?_
            rintro e w5 ⟨rfl, h5⟩
            have H5 := Lib.hid h5
            clear h5
            go_wp2_with fail
            go_ret
            exact ⟨rfl, H5.out.below⟩
  · have hle' : (100 : Int) < (n : Int) := by omega
    go_wp2_with fail
    go_ret
    exact ⟨rfl, H2.out.below⟩

set_option maxRecDepth 100000 in
theorem meshOrder_lifted (os : Os) (started : os.Started) (H : Type) (enc : TypeId × Value → H) :
    ReturnsInHanded {} Try.checked os 6 .any (Rows.meshOrderSpec.pre6 enc Try.prog Try.f6 Rows.meshOrderRow.domain false) (Rows.meshOrderSpec.post enc Try.prog Try.f6 false true false false) := by
  refine returnsInHanded_of_change (C := Try.checked) own started (by kernel_rfl) Try.func6
    (ChangeSpec.witness6 (enc := enc) (C := Try.checked) false ⟨#[], #[.int .i64 0, .slice none 0 0], []⟩ 8 (by kernel_rfl) (by kernel_rfl) (by kernel_rfl) (by kernel_rfl)) ?_
  intro W base args ds gs before hval0 hW hcnd _
  have hval : ∀ (j : Nat) t v, Try.f6.params[j]? = some t → args[j]? = some v → Value.okWide Try.prog W .any base t v := hval0
  have hW' := hW
  obtain ⟨p, q, hA0, hV, rfl, hfz, hnd⟩ := hW
  have hA : DataW.TrodAll enc Try.prog W 0 (fun _ => true) true Try.f6.params.toList args.toList ds p := hA0
  rw [Try.params6] at hA hval
  obtain ⟨v0, vs0, d0, ds0, p0, q0, hargs, rfl, rfl, h0, r0⟩ := trodAll_cons hA
  obtain ⟨v1, vs1, d1, ds1, p1, q1, rfl, rfl, rfl, h1, r1⟩ := trodAll_cons r0
  obtain ⟨rfl, rfl, rfl⟩ := trodAll_nil r1
  obtain rfl : args = #[v0, v1] := by cases args; simp_all
  obtain ⟨rfl, rfl⟩ := trodVars_none hV
  obtain ⟨room, rfl, rfl, rfl, w0⟩ := open_int Try.underlying3 (hval 0 3 v0 rfl rfl) h0
  obtain ⟨a1, len1, cap1, rfl⟩ := okWide_slice Try.underlying27 (hval 1 27 v1 rfl rfl)
  have k1 := h1
  have lt1 : ∀ x ∈ p1, x.block < W.heap.size := by obtain ⟨m, hm⟩ := k1; exact DataW.trod_lt m _ _ _ hm
  obtain ⟨xs, hxs, hlen⟩ : ∃ xs, StrsAt W (.slice a1 len1 cap1) xs ∧ xs.length ≤ maxLen := by
    obtain ⟨fuel, hf⟩ := h1
    obtain ⟨v, xs, hv, h2, h3⟩ := strs_of hf
    simp [Value.cells] at hv
    subst hv
    exact ⟨xs, h2, h3⟩
  clear hA0 hval0
  have hb := Go.bounds_i64 w0
  refine (order_any room xs _ W hb.1 hb.2 hxs hlen).mono fun e W' ⟨he, bel⟩ => ?_
  subst he
  exact ⟨_, rfl, _, _, _, [], _, [], hW', trodAll_mk1 (shut_bool Try.underlying4 _), (trodAll_cons_mk (shut_int Try.underlying3 w0) (trodAll_cons_mk (Below.trod laidOut (by kernel_rfl) (of_decide_eq_true (by kernel_rfl)) k1 bel lt1) trodAll_mk0)), rfl, bel.frame _, fun h => by cases h⟩

theorem meshOrder_holds : Rows.MeshOrderSaid :=
  OpenClaim.holds_of_wide 6 Try.f6 rfl rfl rfl rfl rfl rfl rfl ⟨rfl, rfl, rfl, rfl, rfl⟩ rfl rfl rfl rfl rfl (by kernel_rfl) Try.func6 (by kernel_rfl)
    (of_decide_eq_true (by kernel_rfl)) (by unfold Func.isWrapper; first | (rw [if_pos (by decide +kernel)]; kernel_rfl) | (rw [if_neg (by decide +kernel)]; exact ⟨rfl, rfl⟩))
    (fun os started H enc _ => meshOrder_lifted os started H enc)
#print axioms meshOrder_holds
end Go.Proofs.Ytgfklfpjibjhmaa

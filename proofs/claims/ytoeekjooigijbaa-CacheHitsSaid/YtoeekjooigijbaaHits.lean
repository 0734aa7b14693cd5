/-
  CacheHits, proved for every input: what was taken is the first one, and is told as it was offered; of size 0 nothing is ever there. No condition.
-/
import Derived.Test.YtoeekjooigijbaaOpen
namespace Go.Proofs.Ytoeekjooigijbaa
open Go.ChangeShapes Go.WideShapes Go.ChangeAt Go.RowKit
open Go.ChangeMaps (open_string shut_string)
set_option linter.unusedVariables false
set_option linter.unusedSimpArgs false

theorem hits_plain (s : St) (hi : Inv s) (k x : ByteArray) (hk : k.size ≤ maxLen) :
    (s.size = 0 → (offerS s k x).2 = false ∧ (getS (offerS s k x).1 k).2.2 = false ∧ (getS (offerS s k x).1 k).1.all = [] ∧ (getS (offerS s k x).1 k).1.cs = []) ∧
    ((offerS s k x).2 = false → s.size ≠ 0 → (getS (offerS s k x).1 k).2 = (⟨#[]⟩, false)) ∧
    ((offerS s k x).2 = true → (getS (offerS s k x).1 k).2 = (x, true) ∧ ∃ l, (getS (offerS s k x).1 k).1.all = (k, x) :: l) := by
  have hfront : ∀ l : List Th, s.size ≠ 0 → (getS { s with all := (k, x) :: l } k).2 = (x, true) ∧ ∃ l', (getS { s with all := (k, x) :: l } k).1.all = (k, x) :: l' := fun l hz => by
    have hp : place ((k, x) :: l) k = some 0 := place_some (p := (k, x)) rfl rfl (fun t q ht => by omega)
    unfold getS
    rw [if_neg hz]
    simp only [hp]
    exact ⟨rfl, _, rfl⟩
  have hz0 : s.size = 0 → s.all = [] := fun h => List.length_eq_zero_iff.1 (by have := hi.fits; omega)
  have hsz : (offerS s k x).2 = true → s.size ≠ 0 := fun h e => by
    have e1 := hz0 e
    unfold offerS at h
    rw [e1] at h
    have hp : place [] k = none := rfl
    rw [hp] at h
    simp [e] at h
  have hoff : (offerS s k x).2 = true → ∃ l, (offerS s k x).1 = { s with all := (k, x) :: l } := fun h => by
    unfold offerS at h ⊢
    split
    · exact ⟨_, rfl⟩
    · rename_i hp
      rw [hp] at h
      simp only at h
      split
      · exact ⟨_, rfl⟩
      · rename_i hl
        rw [if_neg hl] at h
        split
        · rename_i hq
          rw [hq] at h
          simp at h
        · rename_i q hq
          rw [hq] at h
          simp only at h
          split
          · rename_i hle
            rw [if_pos hle] at h
            simp at h
          · exact ⟨_, rfl⟩
  have hno : (offerS s k x).2 = false → (offerS s k x).1 = s ∧ place s.all k = none := fun h => by
    unfold offerS at h ⊢
    cases hp : place s.all k with
    | some i => rw [hp] at h; simp at h
    | none =>
      rw [hp] at h
      simp only at h ⊢
      by_cases hl : s.all.length < s.size
      · rw [if_pos hl] at h; simp at h
      · rw [if_neg hl] at h ⊢
        cases hq : s.all.getLast? with
        | none => simp
        | some q =>
          rw [hq] at h
          simp only at h ⊢
          by_cases hle : often s.cs k ≤ often s.cs q.1
          · rw [if_pos hle]; simp
          · rw [if_neg hle] at h; simp at h
  refine ⟨fun h0 => ?_, fun hf hz => ?_, fun ht => ?_⟩
  · have hf : (offerS s k x).2 = false := by
      cases he : (offerS s k x).2 with
      | false => rfl
      | true => exact absurd h0 (hsz he)
    obtain ⟨e1, _⟩ := hno hf
    rw [e1]
    have hg : getS s k = (s, ⟨#[]⟩, false) := by unfold getS; rw [if_pos h0]
    rw [hg]
    refine ⟨hf, rfl, hz0 h0, ?_⟩
    rcases hi.ask with h | ⟨_, _, h⟩
    · omega
    · exact h
  · obtain ⟨e1, hp⟩ := hno hf
    rw [e1]
    unfold getS
    rw [if_neg hz, hp]
  · obtain ⟨l, e1⟩ := hoff ht
    rw [e1]
    exact hfront l (hsz ht)

set_option maxHeartbeats 4000000 in
set_option maxRecDepth 100000 in
theorem hits_any (size : Int) (l : List ActD) (v : Value) (key val : ByteArray) (w : World) (h1 : -9223372036854775808 ≤ size) (h2 : size ≤ 9223372036854775807) (h : ActsAt w v l) (hm : l.length ≤ maxLen) (hks : key.size ≤ maxLen) (hvs : val.size ≤ maxLen) :
    Calls Try.prog 7 #[.int .i64 size, v, .string key, .string val] w (BelowPost w (.bool true)) := by
  have hB := Nat.le_refl w.heap.size
  have DF := fun (w' : World) (ha : ActsAt w' v l) => few_any w' v l ha hm
  unfold maxLen at hm
  have HA := Lib.hid (fun (w' : World) (hb : Below w.heap.size w w') => acts_below h hb)
  obtain ⟨a, cap, rfl, hc⟩ := h
  obtain ⟨m, hmm⟩ : ∃ m, m = l.length := ⟨_, rfl⟩
  rw [← hmm] at HA DF ⊢
  have HC := Lib.hid hc
  have HN := Lib.hid hmm
  have HF := Lib.hid DF
  have hm' : m ≤ 9223372036854775807 := by omega
  clear hm hc hmm DF
  have D0 := Lib.hid (works_any w)
  go_enter Try.func7, Try.ntmps7
  go_wp2_with fail
  refine D0.out.mono ?_
  rintro e w1 ⟨rfl, hb1⟩
  have D1 := Lib.hid (new_any size w1 h1 h2)
  have HB1 := Lib.hid hb1
  have hs1 := hb1.size
  clear hb1
  go_wp2_with fail
  refine D1.out.mono ?_
  rintro e w2 ⟨rfl, hc2, hb2⟩
  have h3s := sizeI_three size
  obtain ⟨sz, hsz⟩ : ∃ sz, sz = sizeI size := ⟨_, rfl⟩
  rw [← hsz] at hc2 h3s
  have hsz64 : sz ≤ 64 := by omega
  have H2 : Hid (Own w.heap.size w w2 (w1.heap.size + 1) (emptyS sz)) := Lib.hid (own_new hsz64 hs1 HB1.out hc2 hb2)
  obtain ⟨cb, hcb⟩ : ∃ cb, cb = w1.heap.size + 1 := ⟨_, rfl⟩
  rw [← hcb] at H2 ⊢
  have H3 := Lib.hid h3s
  clear hc2 hb2 hcb hsz h3s
  have DFe := HF.out w2 (HA.out w2 H2.out.below)
  go_wp2_with fail
  refine DFe.mono ?_
  rintro e w' ⟨bf, rfl, hlen, rfl⟩
  clear DFe
  cases bf with
  | false =>
    clear hlen
    go_wp2_with fail
    go_ret
    exact ⟨rfl, H2.out.below⟩
  | true =>
    have hfew := hlen rfl
    have hle : m ≤ 200 := by rw [HN.out]; exact hfew.1
    have HFEW := Lib.hid hfew.2
    clear hlen hfew
    by_cases hz1 : key.size ≤ 50
    · by_cases hz2 : val.size ≤ 50
      · have z1 : decide (50 < key.size) = false := decide_eq_false (by omega)
        have z2 : decide (50 < val.size) = false := decide_eq_false (by omega)
        have z3 : ¬ (50 : Int) < (key.size : Int) := by omega
        have z4 : ¬ (50 : Int) < (val.size : Int) := by omega
        go_wp2_with fail
        go_loopw [12] (fun i wr => ∃ k : Nat, k ≤ m ∧ i = .int .i64 k ∧ ∃ s, s.size = sz ∧ Own w.heap.size w wr cb s) (fun i _ => m - (intOf i).toNat)
        case atStart => exact ⟨0, Nat.zero_le _, rfl, emptyS sz, rfl, H2.out⟩
        case round =>
          obtain ⟨k, hk, rfl, s, hss, hown⟩ := hrel
          have HSS := Lib.hid hss
          have HO := Lib.hid hown
          by_cases hkn : k < m
          · obtain ⟨x, hx⟩ : ∃ x, l[k]? = some x := ⟨_, List.getElem?_eq_getElem (by rw [← HN.out]; exact hkn)⟩
            obtain ⟨b, o, rfl, q⟩ := HC.out k x hx
            obtain ⟨q0, q1, q2⟩ := act_cells hown.below q
            have hxs : x.S.size ≤ maxLen := by have := (HFEW.out x (List.mem_of_getElem? hx)).1; unfold maxLen; omega
            obtain ⟨K, S, V⟩ := x
            dsimp only at q0 q1 q2 hxs
            have b1 : (k : Int) < (m : Int) := by omega
            clear q hown hx hss
            by_cases k0 : K = 0
            · have b0 : (K == 0) = true := by rw [beq_iff_eq]; exact k0
              have D := Lib.hid (HO.out.get hB hxs)
              clear k0
              go_wp2_with fail
              refine D.out.mono ?_
              rintro e w3 ⟨rfl, h5, _⟩
              have H5 := Lib.hid h5
              clear h5
              go_wp2_with fail
              exact ⟨⟨k + 1, by omega, by go_num, _, (get_size _ _).trans HSS.out, H5.out⟩, by simp [intOf]; omega⟩
            · by_cases k1 : K = 1
              · have b0 : (K == 0) = false := by rw [beq_eq_false_iff_ne]; exact k0
                have b1' : (K == 1) = true := by rw [beq_iff_eq]; exact k1
                clear k0 k1
                have D := Lib.hid ((HO.out.drewN 1).offer hB V hxs)
                go_wp2_with fail
                go_region_with (refine D.out.mono ?_; rintro e w3 ⟨rfl, h5, _⟩; have H5 := Lib.hid h5; clear h5)
                all_goals (go_wp2_with (fail))
                all_goals exact ⟨⟨k + 1, by omega, by go_num, _, (offer_size _ _ _).trans HSS.out, H5.out⟩, by simp [intOf]; omega⟩
              · have b0 : (K == 0) = false := by rw [beq_eq_false_iff_ne]; exact k0
                have b1' : (K == 1) = false := by rw [beq_eq_false_iff_ne]; exact k1
                have D := Lib.hid (HO.out.forget hB S)
                clear k0 k1
                go_wp2_with fail
                refine D.out.mono ?_
                rintro e w3 ⟨rfl, h5, _⟩
                have H5 := Lib.hid h5
                clear h5
                go_wp2_with fail
                exact ⟨⟨k + 1, by omega, by go_num, _, (forget_size _ _).trans HSS.out, H5.out⟩, by simp [intOf]; omega⟩
          · have b1 : ¬ (k : Int) < (m : Int) := by omega
            have hkn' : k = m := by omega
            subst hkn'
            clear hown hss
            have hpl := hits_plain s HO.out.inv key val hks
            rw [HSS.out] at hpl
            have D2 := Lib.hid (HO.out.offer hB val hks)
            obtain ⟨s1, hs1⟩ : ∃ s1, s1 = (offerS s key val).1 := ⟨_, rfl⟩
            obtain ⟨ok, hok⟩ : ∃ ok, ok = (offerS s key val).2 := ⟨_, rfl⟩
            rw [← hs1, ← hok] at hpl D2
            have HPL := Lib.hid hpl
            clear hpl hs1 hok
            go_wp2_with fail
            refine D2.out.mono ?_
            rintro e w3 ⟨rfl, h3, _⟩
            have D3 := Lib.hid (h3.often hks)
            have D4 := Lib.hid (h3.get hB hks)
            have hn15 := often_le h3.inv.good key
            obtain ⟨c, hc⟩ : ∃ c, c = often s1.cs key := ⟨_, rfl⟩
            rw [← hc] at D3 hn15
            clear h3 hc
            go_wp2_with fail
            refine D3.out.mono ?_
            rintro e w' ⟨rfl, rfl⟩
            obtain ⟨s2, hs2⟩ : ∃ s2, s2 = (getS s1 key).1 := ⟨_, rfl⟩
            obtain ⟨vv, hvv⟩ : ∃ vv, vv = (getS s1 key).2.1 := ⟨_, rfl⟩
            obtain ⟨is, his⟩ : ∃ is, is = (getS s1 key).2.2 := ⟨_, rfl⟩
            have hpl := HPL.out
            rw [← hs2, ← hvv, ← his] at D4
            rw [← hs2, show (getS s1 key).2 = (vv, is) by rw [hvv, his]] at hpl
            simp only [Prod.mk.injEq] at hpl
            have HP2 := Lib.hid hpl
            clear hpl hs2 hvv his
            go_wp2_with fail
            refine D4.out.mono ?_
            rintro e w4 ⟨rfl, h4, _⟩
            have D5 := Lib.hid (h4.keys hB)
            clear h4
            go_wp2_with fail
            refine D5.out.mono ?_
            rintro e w5 ⟨va, rfl, hstr, ⟨a5, cap5, rfl⟩, h5, _, _⟩
            have D6 := Lib.hid h5.counted
            have H5 := Lib.hid h5
            have HS := Lib.hid hstr
            clear h5 hstr
            rcases Nat.eq_zero_or_pos sz with hz | hz
            · have p1 : size < 1 := by rcases H3.out with ⟨c1, c2⟩ | ⟨c1, c2⟩ | ⟨c1, c2, c3⟩ <;> omega
              obtain ⟨p2, p3, p4, p5⟩ := HP2.out.1 hz
              subst p2 p3
              have p6 : (keysOf s2).length = 0 := by unfold keysOf; rw [p4]; rfl
              have p7 : s2.cs.length = 0 := by rw [p5]; rfl
              rw [p7] at D6
              rw [p6]
              clear p4 p5 p6 p7 hz
              go_wp2_with fail
              refine D6.out.mono ?_
              rintro e w' ⟨rfl, rfl⟩
              go_wp2_with fail
              go_ret
              exact ⟨rfl, H5.out.below⟩
            · have p1 : ¬ size < 1 := by rcases H3.out with ⟨c1, c2⟩ | ⟨c1, c2⟩ | ⟨c1, c2, c3⟩ <;> omega
              cases ok with
              | false =>
                obtain ⟨p2, p3⟩ := HP2.out.2.1 rfl (by omega)
                subst p2 p3
                go_wp2_with fail
                go_ret
                exact ⟨rfl, H5.out.below⟩
              | true =>
                obtain ⟨⟨p2, p3⟩, l2, p4⟩ := HP2.out.2.2 rfl
                subst p2 p3
                have p5 : (keysOf s2)[0]? = some key := by unfold keysOf; rw [p4]; rfl
                obtain ⟨a6, cap6, e6, hq6⟩ := HS.out
                obtain ⟨b6, o6, rfl, q6⟩ := hq6 0 key p5
                simp only [Value.slice.injEq, true_and] at e6
                obtain ⟨rfl, _⟩ := e6
                obtain ⟨kl2, hkl2⟩ : ∃ n, n = (keysOf s2).length := ⟨_, rfl⟩
                have hkl3 : 1 ≤ kl2 := by rw [hkl2]; unfold keysOf; rw [p4]; simp
                have hkl4 : (1 : Int) ≤ (kl2 : Int) := by omega
                have hkl5 : (0 : Int) < (kl2 : Int) := by omega
                have hn16 : (c : Int) ≤ 15 := by omega
                have hee : (vv.toList == vv.toList) = true := by rw [str_beq]; exact decide_eq_true rfl
                have hek : (key.toList == key.toList) = true := by rw [str_beq]; exact decide_eq_true rfl
                rw [← hkl2]
                rw [Nat.add_zero] at q6
                clear p4 p5 hkl2 hq6
                go_wp2_with fail
                go_ret
                exact ⟨rfl, H5.out.below⟩
      · have z1 : decide (50 < key.size) = false := decide_eq_false (by omega)
        have z2 : decide (50 < val.size) = true := decide_eq_true (by omega)
        have z3 : ¬ (50 : Int) < (key.size : Int) := by omega
        have z4 : (50 : Int) < (val.size : Int) := by omega
        go_wp2_with fail
        go_ret
        exact ⟨rfl, H2.out.below⟩
    · have z1 : decide (50 < key.size) = true := decide_eq_true (by omega)
      have z3 : (50 : Int) < (key.size : Int) := by omega
      go_wp2_with fail
      go_ret
      exact ⟨rfl, H2.out.below⟩

set_option maxRecDepth 100000 in
theorem cacheHits_lifted (os : Os) (started : os.Started) (H : Type) (enc : TypeId × Value → H) :
    ReturnsInHanded {} Try.checked os 7 .any (Rows.cacheHitsSpec.pre6 enc Try.prog Try.f7 Rows.cacheHitsRow.domain false) (Rows.cacheHitsSpec.post enc Try.prog Try.f7 false true false false) := by
  refine returnsInHanded_of_change (C := Try.checked) own started (by kernel_rfl) Try.func7
    (ChangeSpec.witness6 (enc := enc) (C := Try.checked) false ⟨#[], #[.int .i64 0, .slice none 0 0, .string .empty, .string .empty], []⟩ 8 (by kernel_rfl) (by kernel_rfl) (by kernel_rfl) (by kernel_rfl)) ?_
  intro W base args ds gs before hval0 hW hcnd _
  have hval : ∀ (j : Nat) t v, Try.f7.params[j]? = some t → args[j]? = some v → Value.okWide Try.prog W .any base t v := hval0
  have hW' := hW
  obtain ⟨p, q, hA0, hV, rfl, hfz, hnd⟩ := hW
  have hA : DataW.TrodAll enc Try.prog W 0 (fun _ => true) true Try.f7.params.toList args.toList ds p := hA0
  rw [Try.params7] at hA hval
  obtain ⟨v0, vs0, d0, ds0, p0, q0, hargs, rfl, rfl, h0, r0⟩ := trodAll_cons hA
  obtain ⟨v1, vs1, d1, ds1, p1, q1, rfl, rfl, rfl, h1, r1⟩ := trodAll_cons r0
  obtain ⟨v2, vs2, d2, ds2, p2, q2, rfl, rfl, rfl, h2, r2⟩ := trodAll_cons r1
  obtain ⟨v3, vs3, d3, ds3, p3, q3, rfl, rfl, rfl, h3, r3⟩ := trodAll_cons r2
  obtain ⟨rfl, rfl, rfl⟩ := trodAll_nil r3
  obtain rfl : args = #[v0, v1, v2, v3] := by cases args; simp_all
  obtain ⟨rfl, rfl⟩ := trodVars_none hV
  obtain ⟨size, rfl, rfl, rfl, w0⟩ := open_int Try.underlying3 (hval 0 3 v0 rfl rfl) h0
  have b0 := Go.bounds_i64 w0
  obtain ⟨a1, len1, cap1, rfl⟩ := okWide_slice Try.underlying22 (hval 1 22 v1 rfl rfl)
  have k1 := h1
  have lt1 : ∀ x ∈ p1, x.block < W.heap.size := by obtain ⟨m, hm⟩ := k1; exact DataW.trod_lt m _ _ _ hm
  obtain ⟨l, hs1, hlen1⟩ : ∃ l, ActsAt W (.slice a1 len1 cap1) l ∧ l.length ≤ maxLen := by
    obtain ⟨fuel, hf⟩ := h1
    obtain ⟨v, xs, hv, h2, h3⟩ := acts_of hf
    simp [Value.cells] at hv
    subst hv
    exact ⟨xs, h2, h3⟩
  obtain ⟨key, rfl, rfl, rfl, w2⟩ := open_string Try.underlying9 (hval 2 9 v2 rfl rfl) h2
  obtain ⟨val, rfl, rfl, rfl, w3⟩ := open_string Try.underlying9 (hval 3 9 v3 rfl rfl) h3
  clear hA0 hval0
  refine (hits_any size l _ key val W b0.1 b0.2 hs1 hlen1 w2 w3).mono fun e W' ⟨he, bel⟩ => ?_
  subst he
  exact ⟨_, rfl, _, _, _, [], _, [], hW', trodAll_mk1 (shut_bool Try.underlying4 _), (trodAll_cons_mk (shut_int Try.underlying3 w0) (trodAll_cons_mk (Below.trod laidOut (by kernel_rfl) (of_decide_eq_true (by kernel_rfl)) k1 bel lt1) (trodAll_cons_mk (shut_string Try.underlying9 w2) (trodAll_cons_mk (shut_string Try.underlying9 w3) trodAll_mk0)))), rfl, bel.frame _, fun h => by cases h⟩

theorem cacheHits_holds : Rows.CacheHitsSaid :=
  OpenClaim.holds_of_wide 7 Try.f7 rfl rfl rfl rfl rfl rfl rfl ⟨rfl, rfl, rfl, rfl, rfl⟩ rfl rfl rfl rfl rfl (by kernel_rfl) Try.func7 (by kernel_rfl)
    (of_decide_eq_true (by kernel_rfl)) (by unfold Func.isWrapper; first | (rw [if_pos (by decide +kernel)]; kernel_rfl) | (rw [if_neg (by decide +kernel)]; exact ⟨rfl, rfl⟩))
    (fun os started H enc _ => cacheHits_lifted os started H enc)
#print axioms cacheHits_holds
end Go.Proofs.Ytoeekjooigijbaa

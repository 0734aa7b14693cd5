/-
  CacheGate, proved for every input: nothing goes that is counted higher than what comes for it, or as high; what is offered and not taken changes nothing. No condition.
-/
import Derived.Test.YtoeekjooigijbaaSrc
namespace Go.Proofs.Ytoeekjooigijbaa
open Go.ChangeShapes Go.WideShapes Go.ChangeAt Go.RowKit
open Go.ChangeMaps (open_string shut_string)
set_option linter.unusedVariables false
set_option linter.unusedSimpArgs false

theorem gate_plain (s : St) (k x : ByteArray) :
    ((offerS s k x).2 = false → (offerS s k x).1 = s ∧ ∀ t : ByteArray, (keysOf s)[(keysOf s).length - 1]? = some t → often s.cs k ≤ often s.cs t) ∧
    ((offerS s k x).2 = true → (∃ rest, keysOf (offerS s k x).1 = k :: rest) ∧ (offerS s k x).1.cs = s.cs ∧
      ∀ (i : Nat) (t : ByteArray), (keysOf s)[i]? = some t → (keysOf (offerS s k x).1).any (fun y => decide (y = t)) = true ∨ (i + 1 = (keysOf s).length ∧ often s.cs t < often s.cs k)) := by
  have hkl : (keysOf s).length = s.all.length := by unfold keysOf; rw [List.length_map]
  have hat : ∀ (i : Nat) (t : ByteArray), (keysOf s)[i]? = some t → ∃ p : Th, s.all[i]? = some p ∧ p.1 = t := fun i t h => by
    unfold keysOf at h
    rw [List.getElem?_map] at h
    cases hp : s.all[i]? with
    | none => rw [hp] at h; simp at h
    | some p => rw [hp] at h; simp at h; exact ⟨p, rfl, h⟩
  have mem : ∀ (l : List Th) (p : Th), p ∈ l → (k :: l.map (·.1)).any (fun y => decide (y = p.1)) = true := fun l p hp =>
    List.any_eq_true.2 ⟨p.1, List.mem_cons_of_mem _ (List.mem_map.2 ⟨p, hp, rfl⟩), decide_eq_true rfl⟩
  have hd : ∀ (l : List Th), (k :: l.map (·.1)).any (fun y => decide (y = k)) = true := fun l => List.any_eq_true.2 ⟨k, List.mem_cons_self .., decide_eq_true rfl⟩
  unfold offerS
  cases hp : place s.all k with
  | some i =>
    refine ⟨fun h => by simp at h, fun _ => ⟨⟨_, rfl⟩, rfl, fun j t hj => .inl ?_⟩⟩
    obtain ⟨p, hpj, rfl⟩ := hat j t hj
    obtain ⟨q, hq, hqk, _⟩ := place_lt hp
    by_cases e : j = i
    · subst e
      rw [hpj] at hq
      cases hq
      rw [hqk]
      exact hd _
    · exact mem _ p (List.mem_eraseIdx_iff_getElem?.2 ⟨j, e, hpj⟩)
  | none =>
    simp only
    by_cases hl : s.all.length < s.size
    · rw [if_pos hl]
      refine ⟨fun h => by simp at h, fun _ => ⟨⟨_, rfl⟩, rfl, fun j t hj => .inl ?_⟩⟩
      obtain ⟨p, hpj, rfl⟩ := hat j t hj
      exact mem _ p (List.mem_of_getElem? hpj)
    · rw [if_neg hl]
      cases hq : s.all.getLast? with
      | none =>
        refine ⟨fun _ => ⟨rfl, fun t ht => ?_⟩, fun h => by simp at h⟩
        have : s.all = [] := List.getLast?_eq_none_iff.1 hq
        obtain ⟨p, hpj, _⟩ := hat _ t ht
        rw [this] at hpj
        simp at hpj
      | some q =>
        have hq2 : s.all[s.all.length - 1]? = some q := by rw [← List.getLast?_eq_getElem?]; exact hq
        simp only
        by_cases hle : often s.cs k ≤ often s.cs q.1
        · rw [if_pos hle]
          refine ⟨fun _ => ⟨rfl, fun t ht => ?_⟩, fun h => by simp at h⟩
          obtain ⟨p, hpj, rfl⟩ := hat _ t ht
          rw [hkl, hq2] at hpj
          cases hpj
          exact hle
        · rw [if_neg hle]
          refine ⟨fun h => by simp at h, fun _ => ⟨⟨_, rfl⟩, rfl, fun j t hj => ?_⟩⟩
          obtain ⟨p, hpj, rfl⟩ := hat j t hj
          by_cases e : j = s.all.length - 1
          · subst e
            rw [hq2] at hpj
            cases hpj
            have := (List.getElem?_eq_some_iff.1 hq2).1
            exact .inr ⟨by rw [hkl]; omega, by omega⟩
          · exact .inl (mem _ p (List.mem_eraseIdx_iff_getElem?.2 ⟨j, e, hpj⟩))

theorem any_snoc (xs : List ByteArray) (y t : ByteArray) : (xs ++ [y]).any (fun z => decide (z = t)) = (xs.any (fun z => decide (z = t)) || decide (y = t)) := by simp

theorem quiet_often {B : Nat} {w0 w : World} {cb : Nat} {s : St} (h : Own B w0 w cb s) {k : ByteArray} (hk : k.size ≤ maxLen) (q : Nat) :
    Calls Try.prog 22 #[.pointer (some ⟨cb, 0, none⟩), .string k] (w.drewN q) fun e w' => e = .returned (.int .i64 (often s.cs k)) ∧ ∃ m, w' = (w.drewN q).drewN m :=
  ((h.drewN q).often hk).mono fun e w' ⟨he, hw⟩ => ⟨he, 0, hw.symm⟩

set_option maxHeartbeats 8000000 in
set_option maxRecDepth 100000 in
theorem gate_any (size : Int) (l : List ActD) (v : Value) (key val : ByteArray) (w : World) (h1 : -9223372036854775808 ≤ size) (h2 : size ≤ 9223372036854775807) (h : ActsAt w v l) (hm : l.length ≤ maxLen) (hks : key.size ≤ maxLen) (hvs : val.size ≤ maxLen) :
    Calls Try.prog 5 #[.int .i64 size, v, .string key, .string val] w (BelowPost w (.bool true)) := by
  have hB := Nat.le_refl w.heap.size
  have DF := fun (w' : World) (ha : ActsAt w' v l) => few_any w' v l ha hm
  unfold maxLen at hm
  have HA := Lib.hid (fun (w' : World) (hb : Below w.heap.size w w') => acts_below h hb)
  obtain ⟨a, cap, rfl, hc⟩ := h
  obtain ⟨m, hmm⟩ : ∃ m, m = l.length := ⟨_, rfl⟩
  rw [← hmm] at HA DF ⊢
  have HC := Lib.hid hc
  have HN := Lib.hid hmm
  have HF := Lib.hid DF
  have hm' : m ≤ 9223372036854775807 := by omega
  clear hm hc hmm DF
  have D0 := Lib.hid (works_any w)
  go_enter Try.func5, Try.ntmps5
  go_wp2_with fail
  refine D0.out.mono ?_
  rintro e w1 ⟨rfl, hb1⟩
  have D1 := Lib.hid (new_any size w1 h1 h2)
  have HB1 := Lib.hid hb1
  have hs1 := hb1.size
  clear hb1
  go_wp2_with fail
  refine D1.out.mono ?_
  rintro e w2 ⟨rfl, hc2, hb2⟩
  have h3s := sizeI_three size
  obtain ⟨sz, hsz⟩ : ∃ sz, sz = sizeI size := ⟨_, rfl⟩
  rw [← hsz] at hc2 h3s
  have hsz64 : sz ≤ 64 := by omega
  have H2 : Hid (Own w.heap.size w w2 (w1.heap.size + 1) (emptyS sz)) := Lib.hid (own_new hsz64 hs1 HB1.out hc2 hb2)
  obtain ⟨cb, hcb⟩ : ∃ cb, cb = w1.heap.size + 1 := ⟨_, rfl⟩
  rw [← hcb] at H2 ⊢
  have H3 := Lib.hid h3s
  clear hc2 hb2 hcb hsz h3s
  have DFe := HF.out w2 (HA.out w2 H2.out.below)
  go_wp2_with fail
  refine DFe.mono ?_
  rintro e w' ⟨bf, rfl, hlen, rfl⟩
  clear DFe
  cases bf with
  | false =>
    clear hlen
    go_wp2_with fail
    go_ret
    exact ⟨rfl, H2.out.below⟩
  | true =>
    have hfew := hlen rfl
    have hle : m ≤ 200 := by rw [HN.out]; exact hfew.1
    have HFEW := Lib.hid hfew.2
    clear hlen hfew
    go_wp2_with fail
    go_loopw [12] (fun i wr => ∃ k : Nat, k ≤ m ∧ i = .int .i64 k ∧ ∃ s, s.size = sz ∧ Own w.heap.size w wr cb s) (fun i _ => m - (intOf i).toNat)
    case atStart => exact ⟨0, Nat.zero_le _, rfl, emptyS sz, rfl, H2.out⟩
    case round =>
      obtain ⟨k, hk, rfl, s, hss, hown⟩ := hrel
      have HSS := Lib.hid hss
      have HO := Lib.hid hown
      by_cases hkn : k < m
      · obtain ⟨x, hx⟩ : ∃ x, l[k]? = some x := ⟨_, List.getElem?_eq_getElem (by rw [← HN.out]; exact hkn)⟩
        obtain ⟨b, o, rfl, q⟩ := HC.out k x hx
        obtain ⟨q0, q1, q2⟩ := act_cells hown.below q
        have hxs : x.S.size ≤ maxLen := by have := (HFEW.out x (List.mem_of_getElem? hx)).1; unfold maxLen; omega
        obtain ⟨K, S, V⟩ := x
        dsimp only at q0 q1 q2 hxs
        have b1 : (k : Int) < (m : Int) := by omega
        clear q hown hx hss
        by_cases k0 : K = 0
        · have b0 : (K == 0) = true := by rw [beq_iff_eq]; exact k0
          have D := Lib.hid (HO.out.get hB hxs)
          clear k0
          go_wp2_with fail
          refine D.out.mono ?_
          rintro e w3 ⟨rfl, h5, _⟩
          have H5 := Lib.hid h5
          clear h5
          go_wp2_with fail
          exact ⟨⟨k + 1, by omega, by go_num, _, (get_size _ _).trans HSS.out, H5.out⟩, by simp [intOf]; omega⟩
        · have b0 : (K == 0) = false := by rw [beq_eq_false_iff_ne]; exact k0
          clear k0
          have D := Lib.hid ((HO.out.drewN 1).offer hB V hxs)
          go_wp2_with fail
          go_region_with (refine D.out.mono ?_; rintro e w3 ⟨rfl, h5, _⟩; have H5 := Lib.hid h5; clear h5)
          all_goals (go_wp2_with (fail))
          all_goals exact ⟨⟨k + 1, by omega, by go_num, _, (offer_size _ _ _).trans HSS.out, H5.out⟩, by simp [intOf]; omega⟩
      · have b1 : ¬ (k : Int) < (m : Int) := by omega
        have hkn' : k = m := by omega
        subst hkn'
        clear hown hss
        have D2 := Lib.hid (HO.out.keys hB)
        have hpl := gate_plain s key val
        have hkl : (keysOf s).length ≤ 64 := by unfold keysOf; rw [List.length_map]; have := HO.out.inv.fits; have := HO.out.inv.hi; omega
        have hkz : ∀ (i : Nat) (t : ByteArray), (keysOf s)[i]? = some t → t.size ≤ maxLen := fun i t ht => by
          have := List.mem_of_getElem? ht
          unfold keysOf at this
          obtain ⟨p, hp, rfl⟩ := List.mem_map.1 this
          exact HO.out.inv.ks p hp
        have HKZ := Lib.hid hkz
        obtain ⟨ks, hkse⟩ : ∃ ks, ks = keysOf s := ⟨_, rfl⟩
        rw [← hkse] at hpl hkl HKZ
        have HPL := Lib.hid hpl
        have HKS := Lib.hid hkse
        clear hpl hkse hkz
        go_wp2_with fail
        refine D2.out.mono ?_
        rintro e w3 ⟨va, rfl, hst, ⟨a3, cap3, rfl⟩, h3, hap, hb3⟩
        rw [← HKS.out] at hst hap ⊢
        have D3 := Lib.hid (h3.offer hB val hks)
        have HST := Lib.hid hst
        have HAP : Hid (∀ k, (Value.slice a3 ks.length cap3).ownBlock = some k → k < w3.heap.size → Apart w3 cb k) := Lib.hid hap
        obtain ⟨s1, hs1⟩ : ∃ s1, s1 = (offerS s key val).1 := ⟨_, rfl⟩
        obtain ⟨ok, hok⟩ : ∃ ok, ok = (offerS s key val).2 := ⟨_, rfl⟩
        have hpl := HPL.out
        rw [← hs1, ← hok] at D3 hpl
        have HP := Lib.hid hpl
        clear hst h3 hap hb3 hpl hs1 hok
        go_wp2_with fail
        refine D3.out.mono ?_
        rintro e w4 ⟨rfl, h4, hk4⟩
        have hst4 : StrsAt w4 (.slice a3 ks.length cap3) ks := strs_block HST.out fun k hk hl => (hk4 k (HAP.out k hk hl)).1
        have D4 := Lib.hid (h4.keys hB)
        have HS4 := Lib.hid hst4
        clear h4 hk4 hst4
        go_wp2_with fail
        refine D4.out.mono ?_
        rintro e w5 ⟨vb, rfl, hst5, ⟨a5, cap5, rfl⟩, h5, _, hb5⟩
        have hwas : StrsAt w5 (.slice a3 ks.length cap3) ks := HS4.out.below (Nat.le_refl _) hb5
        have HW := Lib.hid hwas
        have HS5 := Lib.hid hst5
        have H5 := Lib.hid h5
        obtain ⟨n, hn⟩ : ∃ n, n = ks.length := ⟨_, rfl⟩
        rw [← hn] at hkl HW ⊢
        have HNN := Lib.hid hn
        clear hst5 h5 hb5 hwas hn
        cases ok with
        | false =>
          obtain ⟨rfl, hle⟩ := HP.out.1 rfl
          have HQ := Lib.hid (fun (q : Nat) => same_true (w5.drewN q) (.slice a3 n cap3) (.slice a5 (keysOf s1).length cap5) ks (by rw [HNN.out]; have := HW.out; rw [HNN.out] at this; exact this) (by have := HS5.out; rw [← HKS.out] at this ⊢; exact this) (by unfold maxLen; have := HNN.out; omega))
          rcases Nat.eq_zero_or_pos n with hz | hz
          · subst hz
            have HQ0 := Lib.hid HQ.out
            clear hle
            go_wp2_with fail
            go_quiet ((go_at_call 19; exact Calls.quiet_of (HQ.out _)))
            go_wp2_with fail
            go_ret
            exact ⟨rfl, H5.out.below.trans (belowN _ _ _)⟩
          · obtain ⟨j, hj⟩ : ∃ j, j = n - 1 := ⟨_, rfl⟩
            have hjn : j < n := by omega
            obtain ⟨t, ht⟩ : ∃ t, ks[j]? = some t := ⟨_, List.getElem?_eq_getElem (by rw [← HNN.out]; exact hjn)⟩
            have hle2 := hle t (by rw [← HNN.out, ← hj]; exact ht)
            have htz := HKZ.out j t ht
            obtain ⟨a6, c6, e6, hq6⟩ := HW.out
            obtain ⟨b6, o6, rfl, q6⟩ := hq6 j t ht
            rw [← HNN.out] at e6
            simp only [Value.slice.injEq, true_and] at e6
            obtain ⟨rfl, rfl⟩ := e6
            have O1 := Lib.hid (quiet_often H5.out hks)
            have O2 := Lib.hid (quiet_often H5.out htz)
            obtain ⟨c1, hc1⟩ : ∃ c, c = often s1.cs key := ⟨_, rfl⟩
            obtain ⟨c2, hc2⟩ : ∃ c, c = often s1.cs t := ⟨_, rfl⟩
            rw [← hc1] at O1 hle2
            rw [← hc2] at O2 hle2
            have x0 : ((n : Int) == 0) = false := by rw [beq_eq_false_iff_ne]; omega
            have x1 : IntKind.i64.wrap ((n : Int) - 1) = (j : Int) := by rw [IntKind.wrap_i64]; omega
            have x2 : (j : Int) < (n : Int) := by omega
            have x3 : (c1 : Int) ≤ (c2 : Int) := by omega
            clear hle hj ht hq6 hc1 hc2 hz htz
            go_wp2_with fail
            go_quiet (first | (go_at_call 19; exact Calls.quiet_of (HQ.out _)) | (go_at_call 22; exact Calls.quiet_of (O1.out _)) | (go_at_call 22; exact Calls.quiet_of (O2.out _)))
            go_wp2_with fail
            go_ret
            exact ⟨rfl, H5.out.below.trans (belowN _ _ _)⟩
        | true =>
          obtain ⟨⟨rest, hrest⟩, hcs, hall⟩ := HP.out.2 rfl
          obtain ⟨now, hnow⟩ : ∃ now, now = keysOf s1 := ⟨_, rfl⟩
          rw [← hnow] at hrest hall HS5 ⊢
          obtain ⟨n2, hn2⟩ : ∃ n2, n2 = now.length := ⟨_, rfl⟩
          have hn2p : 0 < n2 := by rw [hn2, hrest]; simp
          have hn264 : n2 ≤ 64 := by rw [hn2, hnow]; unfold keysOf; rw [List.length_map]; have := H5.out.inv.fits; have := H5.out.inv.hi; omega
          obtain ⟨a6, c6, e6, hq6⟩ := HS5.out
          obtain ⟨b6, o6, rfl, q6⟩ := hq6 0 key (by rw [hrest]; rfl)
          rw [← hn2] at e6 ⊢
          simp only [Value.slice.injEq, true_and] at e6
          obtain ⟨rfl, rfl⟩ := e6
          have HQ6 : Hid (∀ i t, now[i]? = some t → w5.cell? ⟨b6, o6 + i, none⟩ = some (.string t)) := Lib.hid fun i t ht => by
            obtain ⟨b, o, e, hq⟩ := hq6 i t ht
            simp only [Option.some.injEq, Addr.mk.injEq, and_true] at e
            obtain ⟨rfl, rfl⟩ := e
            exact hq
          have HN2 := Lib.hid hn2
          have HALL := Lib.hid hall
          have HCS := Lib.hid hcs
          rw [Nat.add_zero] at q6
          have x0 : ((n2 : Int) == 0) = false := by rw [beq_eq_false_iff_ne]; omega
          have x2 : (0 : Int) < (n2 : Int) := by omega
          have x3 : (key.toList == key.toList) = true := by rw [str_beq]; exact decide_eq_true rfl
          clear hrest hall hcs hq6 hn2 hnow
          go_wp2_with fail
          go_loopw [16] (fun i wr => ∃ j : Nat, j ≤ n ∧ i = .int .i64 j ∧ ∃ q, wr = w5.drewN q) (fun i _ => n - (intOf i).toNat)
          case atStart => exact ⟨0, Nat.zero_le _, rfl, 0, rfl⟩
          case round =>
            obtain ⟨j, hj, rfl, q, rfl⟩ := hrel
            by_cases hjn : j < n
            · obtain ⟨t, ht⟩ : ∃ t, ks[j]? = some t := ⟨_, List.getElem?_eq_getElem (by rw [← HNN.out]; exact hjn)⟩
              obtain ⟨a7, c7, e7, hq7⟩ := HW.out
              obtain ⟨b7, o7, rfl, q7⟩ := hq7 j t ht
              rw [← HNN.out] at e7
              simp only [Value.slice.injEq, true_and] at e7
              obtain ⟨rfl, rfl⟩ := e7
              have HT := Lib.hid ht
              have y1 : (j : Int) < (n : Int) := by omega
              clear hq7 ht
              go_wp2_with fail
              go_loopw [17, 18] (fun u i wr => ∃ k : Nat, k ≤ n2 ∧ i = .int .i64 k ∧ u = .bool ((now.take k).any fun y => decide (y = t)) ∧ ∃ q, wr = w5.drewN q) (fun _ i _ => n2 - (intOf i).toNat)
              case atStart => exact ⟨0, Nat.zero_le _, rfl, rfl, q, rfl⟩
              case round =>
                obtain ⟨k, hk, rfl, rfl, q1, rfl⟩ := hrel
                by_cases hkn : k < n2
                · obtain ⟨y, hy⟩ : ∃ y, now[k]? = some y := ⟨_, List.getElem?_eq_getElem (by rw [← HN2.out]; exact hkn)⟩
                  have z1 := HQ6.out k y hy
                  have hts : now.take (k + 1) = now.take k ++ [y] := by rw [List.take_add_one, hy]; rfl
                  have hsn := any_snoc (now.take k) y t
                  rw [← hts] at hsn
                  obtain ⟨th, hth⟩ : ∃ th, th = (now.take k).any (fun z => decide (z = t)) := ⟨_, rfl⟩
                  rw [← hth] at hsn ⊢
                  have HSN := Lib.hid hsn
                  have y2 : (k : Int) < (n2 : Int) := by omega
                  clear hy hts hsn hth
                  cases th with
                  | true =>
                    go_wp2_with fail
                    go_quiet (fail)
                    go_wp2_with fail
                    exact ⟨⟨k + 1, by omega, by go_num, by rw [HSN.out]; rfl, _, rfl⟩, by simp [intOf]; omega⟩
                  | false =>
                    go_wp2_with fail
                    go_quiet (fail)
                    go_wp2_with fail
                    exact ⟨⟨k + 1, by omega, by go_num, by rw [HSN.out, str_beq]; rfl, _, rfl⟩, by simp [intOf]; omega⟩
                · have y2 : ¬ (k : Int) < (n2 : Int) := by omega
                  have htk : now.take k = now := List.take_of_length_le (by rw [← HN2.out]; omega)
                  rw [htk]
                  obtain ⟨th, hth⟩ : ∃ th, th = now.any (fun z => decide (z = t)) := ⟨_, rfl⟩
                  rw [← hth]
                  have HTH := Lib.hid hth
                  have hal := HALL.out j t HT.out
                  rw [← hth] at hal
                  have HAL := Lib.hid hal
                  clear hth hal htk
                  cases th with
                  | true =>
                    go_wp2_with fail
                    exact ⟨⟨j + 1, by omega, by go_num, q1, rfl⟩, by simp [intOf]; omega⟩
                  | false =>
                    obtain ⟨e1, e2⟩ := HAL.out.resolve_left (by simp)
                    rw [← HNN.out] at e1
                    have D8 := Lib.hid ((H5.out.drewN q1).often (HKZ.out j t HT.out))
                    have D9 := Lib.hid ((H5.out.drewN q1).often hks)
                    rw [HCS.out] at D8 D9
                    obtain ⟨c1, hc1⟩ : ∃ c, c = often s.cs key := ⟨_, rfl⟩
                    obtain ⟨c2, hc2⟩ : ∃ c, c = often s.cs t := ⟨_, rfl⟩
                    rw [← hc1] at D9 e2
                    rw [← hc2] at D8 e2
                    have z1 : IntKind.i64.wrap ((n : Int) - 1) = (n : Int) - 1 := by rw [IntKind.wrap_i64]; omega
                    have z2 : ¬ (j : Int) < (n : Int) - 1 := by omega
                    have z3 : decide ((j : Int) < (n : Int) - 1) = false := decide_eq_false z2
                    have z4 : decide (c1 ≤ c2) = false := decide_eq_false (by omega)
                    have z5 : decide ((c1 : Int) ≤ (c2 : Int)) = false := decide_eq_false (by omega)
                    have z6 : ¬ (c1 : Int) ≤ (c2 : Int) := by omega
                    clear hc1 hc2 e1 e2
                    go_wp2_with fail
                    refine D8.out.mono ?_
                    rintro e w' ⟨rfl, rfl⟩
                    go_wp2_with fail
                    refine D9.out.mono ?_
                    rintro e w' ⟨rfl, rfl⟩
                    go_wp2_with fail
                    exact ⟨⟨j + 1, by omega, by go_num, q1, rfl⟩, by simp [intOf]; omega⟩
            · have y1 : ¬ (j : Int) < (n : Int) := by omega
              go_wp2_with fail
              go_ret
              exact ⟨rfl, H5.out.below.trans (belowN _ _ _)⟩

set_option maxRecDepth 100000 in
theorem cacheGate_lifted (os : Os) (started : os.Started) (H : Type) (enc : TypeId × Value → H) :
    ReturnsInHanded {} Try.checked os 5 .any (Rows.cacheGateSpec.pre6 enc Try.prog Try.f5 Rows.cacheGateRow.domain false) (Rows.cacheGateSpec.post enc Try.prog Try.f5 false true false false) := by
  refine returnsInHanded_of_change (C := Try.checked) own started (by kernel_rfl) Try.func5
    (ChangeSpec.witness6 (enc := enc) (C := Try.checked) false ⟨#[], #[.int .i64 0, .slice none 0 0, .string .empty, .string .empty], []⟩ 8 (by kernel_rfl) (by kernel_rfl) (by kernel_rfl) (by kernel_rfl)) ?_
  intro W base args ds gs before hval0 hW hcnd _
  have hval : ∀ (j : Nat) t v, Try.f5.params[j]? = some t → args[j]? = some v → Value.okWide Try.prog W .any base t v := hval0
  have hW' := hW
  obtain ⟨p, q, hA0, hV, rfl, hfz, hnd⟩ := hW
  have hA : DataW.TrodAll enc Try.prog W 0 (fun _ => true) true Try.f5.params.toList args.toList ds p := hA0
  rw [Try.params5] at hA hval
  obtain ⟨v0, vs0, d0, ds0, p0, q0, hargs, rfl, rfl, h0, r0⟩ := trodAll_cons hA
  obtain ⟨v1, vs1, d1, ds1, p1, q1, rfl, rfl, rfl, h1, r1⟩ := trodAll_cons r0
  obtain ⟨v2, vs2, d2, ds2, p2, q2, rfl, rfl, rfl, h2, r2⟩ := trodAll_cons r1
  obtain ⟨v3, vs3, d3, ds3, p3, q3, rfl, rfl, rfl, h3, r3⟩ := trodAll_cons r2
  obtain ⟨rfl, rfl, rfl⟩ := trodAll_nil r3
  obtain rfl : args = #[v0, v1, v2, v3] := by cases args; simp_all
  obtain ⟨rfl, rfl⟩ := trodVars_none hV
  obtain ⟨size, rfl, rfl, rfl, w0⟩ := open_int Try.underlying3 (hval 0 3 v0 rfl rfl) h0
  have b0 := Go.bounds_i64 w0
  obtain ⟨a1, len1, cap1, rfl⟩ := okWide_slice Try.underlying22 (hval 1 22 v1 rfl rfl)
  have k1 := h1
  have lt1 : ∀ x ∈ p1, x.block < W.heap.size := by obtain ⟨m, hm⟩ := k1; exact DataW.trod_lt m _ _ _ hm
  obtain ⟨l, hs1, hlen1⟩ : ∃ l, ActsAt W (.slice a1 len1 cap1) l ∧ l.length ≤ maxLen := by
    obtain ⟨fuel, hf⟩ := h1
    obtain ⟨v, xs, hv, h2, h3⟩ := acts_of hf
    simp [Value.cells] at hv
    subst hv
    exact ⟨xs, h2, h3⟩
  obtain ⟨key, rfl, rfl, rfl, w2⟩ := open_string Try.underlying9 (hval 2 9 v2 rfl rfl) h2
  obtain ⟨val, rfl, rfl, rfl, w3⟩ := open_string Try.underlying9 (hval 3 9 v3 rfl rfl) h3
  clear hA0 hval0
  refine (gate_any size l _ key val W b0.1 b0.2 hs1 hlen1 w2 w3).mono fun e W' ⟨he, bel⟩ => ?_
  subst he
  exact ⟨_, rfl, _, _, _, [], _, [], hW', trodAll_mk1 (shut_bool Try.underlying4 _), (trodAll_cons_mk (shut_int Try.underlying3 w0) (trodAll_cons_mk (Below.trod laidOut (by kernel_rfl) (of_decide_eq_true (by kernel_rfl)) k1 bel lt1) (trodAll_cons_mk (shut_string Try.underlying9 w2) (trodAll_cons_mk (shut_string Try.underlying9 w3) trodAll_mk0)))), rfl, bel.frame _, fun h => by cases h⟩

theorem cacheGate_holds : Rows.CacheGateSaid :=
  OpenClaim.holds_of_wide 5 Try.f5 rfl rfl rfl rfl rfl rfl rfl ⟨rfl, rfl, rfl, rfl, rfl⟩ rfl rfl rfl rfl rfl (by kernel_rfl) Try.func5 (by kernel_rfl)
    (of_decide_eq_true (by kernel_rfl)) (by unfold Func.isWrapper; first | (rw [if_pos (by decide +kernel)]; kernel_rfl) | (rw [if_neg (by decide +kernel)]; exact ⟨rfl, rfl⟩))
    (fun os started H enc _ => cacheGate_lifted os started H enc)
#print axioms cacheGate_holds
end Go.Proofs.Ytoeekjooigijbaa

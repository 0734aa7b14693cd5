/-
  CacheForgets, proved for every input: what is forgotten is not there, all else is as it was; how high it is counted stays. No condition.
-/
import Derived.Test.YtoeekjooigijbaaSrc
namespace Go.Proofs.Ytoeekjooigijbaa
open Go.ChangeShapes Go.WideShapes Go.ChangeAt Go.RowKit
open Go.ChangeMaps (open_string shut_string)
set_option linter.unusedVariables false
set_option linter.unusedSimpArgs false

def without (xs : List ByteArray) (k : ByteArray) : List ByteArray := xs.filter fun t => !decide (t = k)
theorem without_snoc (xs : List ByteArray) (x k : ByteArray) : without (xs ++ [x]) k = without xs k ++ if x = k then [] else [x] := by
  unfold without
  rw [List.filter_append]
  by_cases e : x = k <;> simp [e]
theorem without_le (xs : List ByteArray) (k : ByteArray) : (without xs k).length ≤ xs.length := List.length_filter_le _ _
theorem without_none {xs : List ByteArray} {k : ByteArray} (h : ∀ x ∈ xs, x ≠ k) : without xs k = xs := by
  unfold without
  rw [List.filter_eq_self]
  intro x hx
  simp [h x hx]
/-- Where keys are apart, what is left without one is what is left without its place. -/
theorem without_place : ∀ (l : List Th) (i : Nat) (p : Th), l.Pairwise (fun p q => p.1 ≠ q.1) → l[i]? = some p → without (l.map (·.1)) p.1 = (l.eraseIdx i).map (·.1) := by
  intro l
  induction l with
  | nil => intro i p _ h; simp at h
  | cons a l ih =>
    intro i p hp h
    obtain ⟨h1, h2⟩ := List.pairwise_cons.1 hp
    cases i with
    | zero =>
      simp only [List.getElem?_cons_zero, Option.some.injEq] at h
      subst h
      rw [List.eraseIdx_cons_zero, List.map_cons]
      have e : without (l.map (·.1)) a.1 = l.map (·.1) := without_none fun x hx => by
        obtain ⟨q, hq, rfl⟩ := List.mem_map.1 hx
        exact (h1 q hq).symm
      have : without (a.1 :: l.map (·.1)) a.1 = without (l.map (·.1)) a.1 := by unfold without; simp
      rw [this, e]
    | succ i =>
      rw [List.getElem?_cons_succ] at h
      have hne := h1 p (List.mem_of_getElem? h)
      have : without (a.1 :: l.map (·.1)) p.1 = a.1 :: without (l.map (·.1)) p.1 := by unfold without; simp [hne]
      rw [List.eraseIdx_cons_succ, List.map_cons, List.map_cons, this, ih i p h2 h]

theorem forgets_plain (s : St) (hi : Inv s) (k : ByteArray) :
    (forgetS s k).2 = decide ((without (keysOf s) k).length < (keysOf s).length) ∧ keysOf (forgetS s k).1 = without (keysOf s) k ∧ (forgetS s k).1.cs = s.cs ∧ (forgetS (forgetS s k).1 k).2 = false := by
  cases hp : place s.all k with
  | none =>
    have e : forgetS s k = (s, false) := by unfold forgetS; rw [hp]
    have hn := place_not hp
    have hw : without (keysOf s) k = keysOf s := without_none fun x hx => by
      unfold keysOf at hx
      obtain ⟨q, hq, rfl⟩ := List.mem_map.1 hx
      exact hn q hq
    rw [e, hw]
    exact ⟨(decide_eq_false (by omega)).symm, rfl, rfl, by rw [e]⟩
  | some i =>
    obtain ⟨p, hpi, hpk, _⟩ := place_lt hp
    subst hpk
    have hl : i < s.all.length := (List.getElem?_eq_some_iff.1 hpi).1
    have e : forgetS s p.1 = ({ s with all := s.all.eraseIdx i }, true) := by unfold forgetS; rw [hp]
    have hw : without (keysOf s) p.1 = (s.all.eraseIdx i).map (·.1) := without_place s.all i p hi.nd hpi
    rw [e, hw]
    refine ⟨(decide_eq_true ?_).symm, rfl, rfl, ?_⟩
    · unfold keysOf
      rw [List.length_map, List.length_map, List.length_eraseIdx_of_lt hl]
      omega
    · have : place (s.all.eraseIdx i) p.1 = none := place_none fun t q hq => (erase_key hi.nd hpi q (List.mem_of_getElem? hq)).symm
      unfold forgetS
      rw [this]

set_option maxHeartbeats 4000000 in
set_option maxRecDepth 100000 in
theorem forgets_any (size : Int) (l : List ActD) (v : Value) (key : ByteArray) (w : World) (h1 : -9223372036854775808 ≤ size) (h2 : size ≤ 9223372036854775807) (h : ActsAt w v l) (hm : l.length ≤ maxLen) (hks : key.size ≤ maxLen) :
    Calls Try.prog 6 #[.int .i64 size, v, .string key] w (BelowPost w (.bool true)) := by
  obtain ⟨i0, hi, hz0, hz1, hz2⟩ := info_parts info9
  have hB := Nat.le_refl w.heap.size
  have DF := fun (w' : World) (ha : ActsAt w' v l) => few_any w' v l ha hm
  unfold maxLen at hm
  have HA := Lib.hid (fun (w' : World) (hb : Below w.heap.size w w') => acts_below h hb)
  obtain ⟨a, cap, rfl, hc⟩ := h
  obtain ⟨m, hmm⟩ : ∃ m, m = l.length := ⟨_, rfl⟩
  rw [← hmm] at HA DF ⊢
  have HC := Lib.hid hc
  have HN := Lib.hid hmm
  have HF := Lib.hid DF
  have hm' : m ≤ 9223372036854775807 := by omega
  clear hm hc hmm DF
  have D0 := Lib.hid (works_any w)
  go_enter Try.func6, Try.ntmps6
  go_wp2_with fail
  refine D0.out.mono ?_
  rintro e w1 ⟨rfl, hb1⟩
  have D1 := Lib.hid (new_any size w1 h1 h2)
  have HB1 := Lib.hid hb1
  have hs1 := hb1.size
  clear hb1
  go_wp2_with fail
  refine D1.out.mono ?_
  rintro e w2 ⟨rfl, hc2, hb2⟩
  have h3s := sizeI_three size
  obtain ⟨sz, hsz⟩ : ∃ sz, sz = sizeI size := ⟨_, rfl⟩
  rw [← hsz] at hc2 h3s
  have hsz64 : sz ≤ 64 := by omega
  have H2 : Hid (Own w.heap.size w w2 (w1.heap.size + 1) (emptyS sz)) := Lib.hid (own_new hsz64 hs1 HB1.out hc2 hb2)
  obtain ⟨cb, hcb⟩ : ∃ cb, cb = w1.heap.size + 1 := ⟨_, rfl⟩
  rw [← hcb] at H2 ⊢
  have H3 := Lib.hid h3s
  clear hc2 hb2 hcb hsz h3s
  have DFe := HF.out w2 (HA.out w2 H2.out.below)
  go_wp2_with fail
  refine DFe.mono ?_
  rintro e w' ⟨bf, rfl, hlen, rfl⟩
  clear DFe
  cases bf with
  | false =>
    clear hlen
    go_wp2_with fail
    go_ret
    exact ⟨rfl, H2.out.below⟩
  | true =>
    have hfew := hlen rfl
    have hle : m ≤ 200 := by rw [HN.out]; exact hfew.1
    have HFEW := Lib.hid hfew.2
    clear hlen hfew
    go_wp2_with fail
    go_loopw [10] (fun i wr => ∃ k : Nat, k ≤ m ∧ i = .int .i64 k ∧ ∃ s, s.size = sz ∧ Own w.heap.size w wr cb s) (fun i _ => m - (intOf i).toNat)
    case atStart => exact ⟨0, Nat.zero_le _, rfl, emptyS sz, rfl, H2.out⟩
    case round =>
      obtain ⟨k, hk, rfl, s, hss, hown⟩ := hrel
      have HSS := Lib.hid hss
      have HO := Lib.hid hown
      by_cases hkn : k < m
      · obtain ⟨x, hx⟩ : ∃ x, l[k]? = some x := ⟨_, List.getElem?_eq_getElem (by rw [← HN.out]; exact hkn)⟩
        obtain ⟨b, o, rfl, q⟩ := HC.out k x hx
        obtain ⟨q0, q1, q2⟩ := act_cells hown.below q
        have hxs : x.S.size ≤ maxLen := by have := (HFEW.out x (List.mem_of_getElem? hx)).1; unfold maxLen; omega
        obtain ⟨K, S, V⟩ := x
        dsimp only at q0 q1 q2 hxs
        have b1 : (k : Int) < (m : Int) := by omega
        clear q hown hx hss
        by_cases k0 : K = 0
        · have b0 : (K == 0) = true := by rw [beq_iff_eq]; exact k0
          have D := Lib.hid (HO.out.get hB hxs)
          clear k0
          go_wp2_with fail
          refine D.out.mono ?_
          rintro e w3 ⟨rfl, h5, _⟩
          have H5 := Lib.hid h5
          clear h5
          go_wp2_with fail
          exact ⟨⟨k + 1, by omega, by go_num, _, (get_size _ _).trans HSS.out, H5.out⟩, by simp [intOf]; omega⟩
        · have b0 : (K == 0) = false := by rw [beq_eq_false_iff_ne]; exact k0
          clear k0
          have D := Lib.hid ((HO.out.drewN 1).offer hB V hxs)
          go_wp2_with fail
          go_region_with (refine D.out.mono ?_; rintro e w3 ⟨rfl, h5, _⟩; have H5 := Lib.hid h5; clear h5)
          all_goals (go_wp2_with (fail))
          all_goals exact ⟨⟨k + 1, by omega, by go_num, _, (offer_size _ _ _).trans HSS.out, H5.out⟩, by simp [intOf]; omega⟩
      · have b1 : ¬ (k : Int) < (m : Int) := by omega
        have hkn' : k = m := by omega
        subst hkn'
        clear hown hss
        have D2 := Lib.hid (HO.out.keys hB)
        have hpl := forgets_plain s HO.out.inv key
        have hkl : (keysOf s).length ≤ 64 := by unfold keysOf; rw [List.length_map]; have := HO.out.inv.fits; have := HO.out.inv.hi; omega
        obtain ⟨ks, hkse⟩ : ∃ ks, ks = keysOf s := ⟨_, rfl⟩
        rw [← hkse] at hpl hkl
        have HPL := Lib.hid hpl
        have HKS := Lib.hid hkse
        clear hpl hkse
        go_wp2_with fail
        refine D2.out.mono ?_
        rintro e w3 ⟨va, rfl, hst, ⟨a3, cap3, rfl⟩, h3, _, _⟩
        rw [← HKS.out] at hst ⊢
        have H3 := Lib.hid h3
        obtain ⟨n, hn⟩ : ∃ n, n = ks.length := ⟨_, rfl⟩
        rw [← hn] at hst hkl ⊢
        have HN3 := Lib.hid hn
        have HST := Lib.hid hst
        clear hst h3 hn
        go_wp2_with fail
        go_loopw [11, 13] (fun u i wr => ∃ j : Nat, j ≤ n ∧ i = .int .i64 j ∧ wr.ownsRow w3.heap.size 9 1 u (without (ks.take j) key).length ((without (ks.take j) key).map Value.string) ∧ Below w3.heap.size w3 wr) (fun _ i _ => n - (intOf i).toNat)
        case atStart => exact ⟨0, Nat.zero_le _, rfl, World.ownsRow_nil _ _ _ _, Below.refl _ w3⟩
        case round =>
          obtain ⟨j, hj, rfl, hown, hb⟩ := hrel
          have HO2 := Lib.hid hown
          have HB2 := Lib.hid hb
          by_cases hjn : j < n
          · obtain ⟨x, hx⟩ : ∃ x, ks[j]? = some x := ⟨_, List.getElem?_eq_getElem (by rw [← HN3.out]; exact hjn)⟩
            obtain ⟨a4, cap4, e4, hq4⟩ := HST.out
            obtain ⟨b4, o4, rfl, q4⟩ := hq4 j x hx
            rw [← HN3.out] at e4
            simp only [Value.slice.injEq, true_and] at e4
            obtain ⟨rfl, rfl⟩ := e4
            have q4' : wr.cell? ⟨b4, o4 + j, none⟩ = some (.string x) := (hb.cell (p := ⟨b4, o4 + j, none⟩) (World.block_lt_of_cell? w3 _ q4)).trans q4
            have hts : ks.take (j + 1) = ks.take j ++ [x] := by rw [List.take_add_one, hx]; rfl
            have hwl := without_le (ks.take j) key
            have htl : (ks.take j).length ≤ 64 := by rw [List.length_take]; have := HN3.out; omega
            have hsn := without_snoc (ks.take j) x key
            rw [← hts] at hsn
            obtain ⟨L, hL⟩ : ∃ L, L = without (ks.take j) key := ⟨_, rfl⟩
            rw [← hL] at HO2 hsn hwl
            have HSN := Lib.hid hsn
            have hL64 : L.length ≤ 64 := by omega
            have b2 : (j : Int) < (n : Int) := by omega
            clear hx hq4 q4 hown hb hts hsn hL hwl htl
            by_cases e : x = key
            · have hbq : (x.toList == key.toList) = true := by rw [str_beq]; exact decide_eq_true e
              have HE := Lib.hid e
              clear e
              go_wp2_with fail
              refine ⟨⟨j + 1, by omega, by go_num, ?_, HB2.out⟩, by simp [intOf]; omega⟩
              rw [HSN.out, if_pos HE.out, List.append_nil]
              exact HO2.out
            · have hbq : (x.toList == key.toList) = false := by rw [str_beq]; exact decide_eq_false e
              have HE := Lib.hid e
              obtain ⟨ln, hln⟩ : ∃ ln, ln = L.length := ⟨_, rfl⟩
              obtain ⟨lv, hlv⟩ : ∃ lv, lv = L.map Value.string := ⟨_, rfl⟩
              rw [← hln, ← hlv] at HO2
              rw [← hln] at hL64
              have HLN := Lib.hid hln
              have HLV := Lib.hid hlv
              clear e hln hlv
              go_wp2_with (at_builtin; refine wpList_append_owns _ rfl _ _ 44 44 rfl w3.heap.size 9 i0 (.string ⟨#[]⟩) 1 16 Try.underlying44 hi hz0 hz1 hz2 rfl _ ln _ rfl (HO2.out.alloc _) _ 1 [.string x] rfl (src_one _ _ rfl) (by unfold maxLen; omega) (by omega) (by have := HB2.out.size; simp; omega) ?_)
              intro v' w' ho' hg' hb'
              have hbel : Below w3.heap.size w3 w' := by
                refine HB2.out.trans ⟨hg'.os, hg'.tape, hg'.output, ?_, fun k hk => ?_⟩
                · have := hg'.size; simp at this; omega
                · have hs := HB2.out.size
                  have e := hg'.block k (by simp; omega) (fun e => by have := (HO2.out.lt k e.symm).1; omega)
                  rw [e, Below.heap_alloc _ _ k (by omega)]
              have ho2 : w'.ownsRow w3.heap.size 9 1 v' (without (ks.take (j + 1)) key).length ((without (ks.take (j + 1)) key).map Value.string) := by
                rw [HSN.out, if_neg HE.out, List.map_append, List.length_append, ← HLN.out, ← HLV.out]
                exact ho'
              have HB5 := Lib.hid hbel
              have HO5 := Lib.hid ho2
              clear ho' hg' hb' hbel ho2
              go_wp2_with fail
              go_roundw
              case rel => exact ⟨j + 1, by omega, by go_num, HO5.out, HB5.out⟩
              case measure => simp [intOf]; omega
          · have b2 : ¬ (j : Int) < (n : Int) := by omega
            have hjn' : j = n := by omega
            have htk : ks.take j = ks := by rw [List.take_of_length_le (by rw [← HN3.out]; omega)]
            rw [htk] at HO2
            obtain ⟨L, hL⟩ : ∃ L, L = without ks key := ⟨_, rfl⟩
            have hpl := HPL.out
            rw [← hL] at HO2 hpl
            have hln : L.length ≤ n := by rw [hL, HN3.out]; exact without_le _ _
            rw [← HN3.out] at hpl
            have h4 := H3.out.keep hB HB2.out
            have hst := strs_row HO2.out
            have hap : ∀ k, u11.ownBlock = some k → Apart wr cb k := fun k hk => H3.out.fresh (HO2.out.lt k hk).1 HB2.out (HO2.out.lt k hk).2
            have hsh : ∃ a c, u11 = .slice a L.length c := by
              obtain ⟨a, c, e, _⟩ := hst
              exact ⟨a, c, e⟩
            obtain ⟨a5, c5, rfl⟩ := hsh
            have D5 := Lib.hid (h4.often hks)
            have D6 := Lib.hid (h4.forget hB key)
            obtain ⟨s1, hs1⟩ : ∃ s1, s1 = (forgetS s key).1 := ⟨_, rfl⟩
            obtain ⟨ok, hok⟩ : ∃ ok, ok = (forgetS s key).2 := ⟨_, rfl⟩
            rw [← hs1, ← hok] at D6 hpl
            obtain ⟨p1, p2, p3, p4⟩ := hpl
            obtain ⟨c, hc⟩ : ∃ c, c = often s.cs key := ⟨_, rfl⟩
            rw [← hc] at D5
            have HP1 := Lib.hid p1
            have HP2 := Lib.hid p2
            have HP3 : Hid (often s1.cs key = c) := Lib.hid (by rw [p3, hc])
            have HP4 := Lib.hid p4
            have HS5 := Lib.hid hst
            have HAP := Lib.hid hap
            have hL64 : L.length ≤ 64 := by omega
            clear hown hb htk hL h4 hst hap hs1 hok p1 p2 p3 p4 hc
            go_wp2_with fail
            refine D5.out.mono ?_
            rintro e w' ⟨rfl, rfl⟩
            go_wp2_with fail
            refine D6.out.mono ?_
            rintro e w6 ⟨rfl, h6, hk6⟩
            have hst6 : StrsAt w6 (.slice a5 L.length c5) L := strs_block HS5.out fun k hk hl => (hk6 k (HAP.out k hk)).1
            have D7 := Lib.hid (h6.keys hB)
            have HS6 := Lib.hid hst6
            clear h6 hk6 hst6
            cases ok with
            | true =>
              have x1 :  L.length < n := by have := HP1.out; exact of_decide_eq_true this.symm
              have x2 : decide (L.length < n) = true := HP1.out.symm
              have x3 : decide ((L.length : Int) < (n : Int)) = true := by exact decide_eq_true (by omega)
              go_wp2_with fail
              refine D7.out.mono ?_
              rintro e w7 ⟨va7, rfl, hst7, ⟨a7, c7, rfl⟩, h7, _, hb7⟩
              rw [HP2.out] at hst7 ⊢
              have S := Lib.hid (same_true w7 _ _ L hst7 (HS6.out.below (Nat.le_refl _) hb7) (by unfold maxLen; omega))
              have H7 := Lib.hid h7
              clear hst7 h7 hb7
              go_wp2_with fail
              refine S.out.mono ?_
              rintro e w8 ⟨rfl, q8, rfl⟩
              have D8 := Lib.hid ((H7.out.drewN q8).often hks)
              have D9 := Lib.hid ((H7.out.drewN q8).forget hB key)
              rw [HP3.out] at D8
              rw [HP4.out] at D9
              have xc : ((c : Int) == (c : Int)) = true := by rw [beq_iff_eq]
              go_wp2_with fail
              refine D8.out.mono ?_
              rintro e w' ⟨rfl, rfl⟩
              go_wp2_with fail
              refine D9.out.mono ?_
              rintro e w9 ⟨rfl, h9, _⟩
              have H9 := Lib.hid h9
              clear h9
              go_wp2_with fail
              go_ret
              exact ⟨rfl, H9.out.below⟩
            | false =>
              have x1 : ¬ L.length < n := by have := HP1.out; exact of_decide_eq_false this.symm
              have x2 : decide (L.length < n) = false := HP1.out.symm
              have x3 : decide ((L.length : Int) < (n : Int)) = false := by exact decide_eq_false (by omega)
              go_wp2_with fail
              refine D7.out.mono ?_
              rintro e w7 ⟨va7, rfl, hst7, ⟨a7, c7, rfl⟩, h7, _, hb7⟩
              rw [HP2.out] at hst7 ⊢
              have S := Lib.hid (same_true w7 _ _ L hst7 (HS6.out.below (Nat.le_refl _) hb7) (by unfold maxLen; omega))
              have H7 := Lib.hid h7
              clear hst7 h7 hb7
              go_wp2_with fail
              refine S.out.mono ?_
              rintro e w8 ⟨rfl, q8, rfl⟩
              have D8 := Lib.hid ((H7.out.drewN q8).often hks)
              have D9 := Lib.hid ((H7.out.drewN q8).forget hB key)
              rw [HP3.out] at D8
              rw [HP4.out] at D9
              have xc : ((c : Int) == (c : Int)) = true := by rw [beq_iff_eq]
              go_wp2_with fail
              refine D8.out.mono ?_
              rintro e w' ⟨rfl, rfl⟩
              go_wp2_with fail
              refine D9.out.mono ?_
              rintro e w9 ⟨rfl, h9, _⟩
              have H9 := Lib.hid h9
              clear h9
              go_wp2_with fail
              go_ret
              exact ⟨rfl, H9.out.below⟩

set_option maxRecDepth 100000 in
theorem cacheForgets_lifted (os : Os) (started : os.Started) (H : Type) (enc : TypeId × Value → H) :
    ReturnsInHanded {} Try.checked os 6 .any (Rows.cacheForgetsSpec.pre6 enc Try.prog Try.f6 Rows.cacheForgetsRow.domain false) (Rows.cacheForgetsSpec.post enc Try.prog Try.f6 false true false false) := by
  refine returnsInHanded_of_change (C := Try.checked) own started (by kernel_rfl) Try.func6
    (ChangeSpec.witness6 (enc := enc) (C := Try.checked) false ⟨#[], #[.int .i64 0, .slice none 0 0, .string .empty], []⟩ 8 (by kernel_rfl) (by kernel_rfl) (by kernel_rfl) (by kernel_rfl)) ?_
  intro W base args ds gs before hval0 hW hcnd _
  have hval : ∀ (j : Nat) t v, Try.f6.params[j]? = some t → args[j]? = some v → Value.okWide Try.prog W .any base t v := hval0
  have hW' := hW
  obtain ⟨p, q, hA0, hV, rfl, hfz, hnd⟩ := hW
  have hA : DataW.TrodAll enc Try.prog W 0 (fun _ => true) true Try.f6.params.toList args.toList ds p := hA0
  rw [Try.params6] at hA hval
  obtain ⟨v0, vs0, d0, ds0, p0, q0, hargs, rfl, rfl, h0, r0⟩ := trodAll_cons hA
  obtain ⟨v1, vs1, d1, ds1, p1, q1, rfl, rfl, rfl, h1, r1⟩ := trodAll_cons r0
  obtain ⟨v2, vs2, d2, ds2, p2, q2, rfl, rfl, rfl, h2, r2⟩ := trodAll_cons r1
  obtain ⟨rfl, rfl, rfl⟩ := trodAll_nil r2
  obtain rfl : args = #[v0, v1, v2] := by cases args; simp_all
  obtain ⟨rfl, rfl⟩ := trodVars_none hV
  obtain ⟨size, rfl, rfl, rfl, w0⟩ := open_int Try.underlying3 (hval 0 3 v0 rfl rfl) h0
  have b0 := Go.bounds_i64 w0
  obtain ⟨a1, len1, cap1, rfl⟩ := okWide_slice Try.underlying22 (hval 1 22 v1 rfl rfl)
  have k1 := h1
  have lt1 : ∀ x ∈ p1, x.block < W.heap.size := by obtain ⟨m, hm⟩ := k1; exact DataW.trod_lt m _ _ _ hm
  obtain ⟨l, hs1, hlen1⟩ : ∃ l, ActsAt W (.slice a1 len1 cap1) l ∧ l.length ≤ maxLen := by
    obtain ⟨fuel, hf⟩ := h1
    obtain ⟨v, xs, hv, h2, h3⟩ := acts_of hf
    simp [Value.cells] at hv
    subst hv
    exact ⟨xs, h2, h3⟩
  obtain ⟨key, rfl, rfl, rfl, w2⟩ := open_string Try.underlying9 (hval 2 9 v2 rfl rfl) h2
  clear hA0 hval0
  refine (forgets_any size l _ key W b0.1 b0.2 hs1 hlen1 w2).mono fun e W' ⟨he, bel⟩ => ?_
  subst he
  exact ⟨_, rfl, _, _, _, [], _, [], hW', trodAll_mk1 (shut_bool Try.underlying4 _), (trodAll_cons_mk (shut_int Try.underlying3 w0) (trodAll_cons_mk (Below.trod laidOut (by kernel_rfl) (of_decide_eq_true (by kernel_rfl)) k1 bel lt1) (trodAll_cons_mk (shut_string Try.underlying9 w2) trodAll_mk0))), rfl, bel.frame _, fun h => by cases h⟩

theorem cacheForgets_holds : Rows.CacheForgetsSaid :=
  OpenClaim.holds_of_wide 6 Try.f6 rfl rfl rfl rfl rfl rfl rfl ⟨rfl, rfl, rfl, rfl, rfl⟩ rfl rfl rfl rfl rfl (by kernel_rfl) Try.func6 (by kernel_rfl)
    (of_decide_eq_true (by kernel_rfl)) (by unfold Func.isWrapper; first | (rw [if_pos (by decide +kernel)]; kernel_rfl) | (rw [if_neg (by decide +kernel)]; exact ⟨rfl, rfl⟩))
    (fun os started H enc _ => cacheForgets_lifted os started H enc)
#print axioms cacheForgets_holds
end Go.Proofs.Ytoeekjooigijbaa

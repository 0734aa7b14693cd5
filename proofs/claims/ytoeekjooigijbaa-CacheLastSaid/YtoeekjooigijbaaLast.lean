/-
  CacheLast, proved for every input: where there is room nothing goes; of keys that were never asked for the first ones that were offered stay. No condition.
-/
import Derived.Test.YtoeekjooigijbaaSrc
import Derived.Deep.DeepCutAuto
namespace Go.Proofs.Ytoeekjooigijbaa
open Go.ChangeShapes Go.WideShapes Go.ChangeAt Go.RowKit
set_option linter.unusedVariables false
set_option linter.unusedSimpArgs false

def without (xs : List ByteArray) (k : ByteArray) : List ByteArray := xs.filter fun t => !decide (t = k)
theorem without_snoc (xs : List ByteArray) (x k : ByteArray) : without (xs ++ [x]) k = without xs k ++ if x = k then [] else [x] := by
  unfold without
  rw [List.filter_append]
  by_cases e : x = k <;> simp [e]
theorem without_le (xs : List ByteArray) (k : ByteArray) : (without xs k).length ≤ xs.length := List.length_filter_le _ _
theorem without_none {xs : List ByteArray} {k : ByteArray} (h : ∀ x ∈ xs, x ≠ k) : without xs k = xs := by
  unfold without
  rw [List.filter_eq_self]
  intro x hx
  simp [h x hx]
/-- Where keys are apart, what is left without one is what is left without its place. -/
theorem without_place : ∀ (l : List Th) (i : Nat) (p : Th), l.Pairwise (fun p q => p.1 ≠ q.1) → l[i]? = some p → without (l.map (·.1)) p.1 = (l.eraseIdx i).map (·.1) := by
  intro l
  induction l with
  | nil => intro i p _ h; simp at h
  | cons a l ih =>
    intro i p hp h
    obtain ⟨h1, h2⟩ := List.pairwise_cons.1 hp
    cases i with
    | zero =>
      simp only [List.getElem?_cons_zero, Option.some.injEq] at h
      subst h
      rw [List.eraseIdx_cons_zero, List.map_cons]
      have e : without (l.map (·.1)) a.1 = l.map (·.1) := without_none fun x hx => by
        obtain ⟨q, hq, rfl⟩ := List.mem_map.1 hx
        exact (h1 q hq).symm
      have : without (a.1 :: l.map (·.1)) a.1 = without (l.map (·.1)) a.1 := by unfold without; simp
      rw [this, e]
    | succ i =>
      rw [List.getElem?_cons_succ] at h
      have hne := h1 p (List.mem_of_getElem? h)
      have : without (a.1 :: l.map (·.1)) p.1 = a.1 :: without (l.map (·.1)) p.1 := by unfold without; simp [hne]
      rw [List.eraseIdx_cons_succ, List.map_cons, List.map_cons, this, ih i p h2 h]


theorem any_snoc (xs : List ByteArray) (y t : ByteArray) : (xs ++ [y]).any (fun z => decide (z = t)) = (xs.any (fun z => decide (z = t)) || decide (y = t)) := by simp

theorem last_plain (s : St) (hi : Inv s) (hc : s.cs = []) (k x : ByteArray) :
    (offerS s k x).2 = ((keysOf s).any (fun z => decide (z = k)) || decide ((keysOf s).length < s.size)) ∧ (offerS s k x).1.cs = [] ∧
    keysOf (offerS s k x).1 = if (offerS s k x).2 then k :: without (keysOf s) k else keysOf s := by
  have hkl : (keysOf s).length = s.all.length := by unfold keysOf; rw [List.length_map]
  have ho : ∀ t, often s.cs t = 0 := fun t => by rw [hc]; rfl
  cases hp : place s.all k with
  | some i =>
    obtain ⟨p, hpi, rfl, _⟩ := place_lt hp
    have e : offerS s p.1 x = ({ s with all := (p.1, x) :: s.all.eraseIdx i }, true) := by unfold offerS; rw [hp]
    have hany : (keysOf s).any (fun z => decide (z = p.1)) = true := List.any_eq_true.2 ⟨p.1, List.mem_map.2 ⟨p, List.mem_of_getElem? hpi, rfl⟩, decide_eq_true rfl⟩
    have hw : without (keysOf s) p.1 = (s.all.eraseIdx i).map (·.1) := without_place s.all i p hi.nd hpi
    rw [e, hany, hw]
    exact ⟨rfl, hc, rfl⟩
  | none =>
    have hn := place_not hp
    have hany : (keysOf s).any (fun z => decide (z = k)) = false := by
      rw [List.any_eq_false]
      intro z hz
      unfold keysOf at hz
      obtain ⟨q, hq, rfl⟩ := List.mem_map.1 hz
      simpa using hn q hq
    have hw : without (keysOf s) k = keysOf s := without_none fun z hz => by
      unfold keysOf at hz
      obtain ⟨q, hq, rfl⟩ := List.mem_map.1 hz
      exact hn q hq
    rw [hany, hw, hkl]
    by_cases hl : s.all.length < s.size
    · have e : offerS s k x = ({ s with all := (k, x) :: s.all }, true) := by unfold offerS; rw [hp]; simp only; rw [if_pos hl]
      rw [e, decide_eq_true hl]
      exact ⟨rfl, hc, rfl⟩
    · have e : offerS s k x = (s, false) := by
        unfold offerS; rw [hp]; simp only; rw [if_neg hl]
        cases hq : s.all.getLast? with
        | none => rfl
        | some q => simp only; rw [if_pos (by rw [ho, ho]; exact Nat.le_refl _)]
      rw [e, decide_eq_false hl]
      exact ⟨rfl, hc, rfl⟩

/-- A row that the call owns, as append takes it. -/
theorem src_row {w : World} {base n : Nat} {v : Value} {xs : List Value} (h : w.ownsRow base 9 1 v n xs) (h1 : ∀ u ∈ xs, u.oneCell' = true) : Src Try.prog 1 44 v n xs w := by
  obtain ⟨hl, ⟨rfl, rfl⟩ | ⟨g, cap, cur, rfl, _, hg, hn, hm, hs, ht⟩⟩ := h
  · obtain rfl : xs = [] := List.eq_nil_of_length_eq_zero (by simpa using hl)
    exact Src.ofNil w Try.underlying44 0
  · refine Src.ofSlice w Try.underlying44 _ _ _ _ (by simpa using hl) (fun j u hu => ?_) h1
    rw [addr_add, Nat.zero_add]
    have hj : j < xs.length := (List.getElem?_eq_some_iff.1 hu).1
    rw [← ht, List.getElem?_take, if_pos (by omega)] at hu
    simpa [World.cell?, hg] using hu
theorem src_oneq (w : World) (q : Nat) (x : Value) (hx : x.oneCell' = true) : Src Try.prog 1 44 (.slice (some ⟨w.heap.size, 0, none⟩) 1 1) 1 [x] ((w.drewN q).alloc (.cells #[x] 9)) := src_one (w.drewN q) x hx
theorem row_one (w : World) (x : Value) : (w.alloc (.cells #[x] 9)).ownsRow w.heap.size 9 1 (.slice (some ⟨w.heap.size, 0, none⟩) 1 1) 1 [x] :=
  ⟨rfl, .inr ⟨_, 1, #[x], rfl, Nat.le_refl _, heap_alloc_new w _, Nat.le_refl _, by unfold maxLen; omega, rfl, rfl⟩⟩
theorem row_alloc {w : World} {base n : Nat} {v : Value} {xs : List Value} (h : w.ownsRow base 9 1 v n xs) (o : Obj) : (w.alloc o).ownsRow base 9 1 v n xs := h.alloc o

set_option maxHeartbeats 8000000 in
set_option maxRecDepth 100000 in
theorem last_any (size : Int) (xs : List ByteArray) (v : Value) (w : World) (h1 : -9223372036854775808 ≤ size) (h2 : size ≤ 9223372036854775807) (h : StrsAt w v xs) (hm : xs.length ≤ maxLen) :
    Calls Try.prog 8 #[.int .i64 size, v] w (BelowPost w (.bool true)) := by
  obtain ⟨i0, hi, hz0, hz1, hz2⟩ := info_parts info9
  have hB := Nat.le_refl w.heap.size
  unfold maxLen at hm
  obtain ⟨a, cap, rfl, hc⟩ := h
  obtain ⟨m, hmm⟩ : ∃ m, m = xs.length := ⟨_, rfl⟩
  rw [← hmm]
  have HC := Lib.hid hc
  have HN := Lib.hid hmm
  have hm' : m ≤ 9223372036854775807 := by omega
  clear hm hc hmm
  have D0 := Lib.hid (works_any w)
  go_enter Try.func8, Try.ntmps8
  go_wp2_with fail
  refine D0.out.mono ?_
  rintro e w1 ⟨rfl, hb1⟩
  have D1 := Lib.hid (new_any size w1 h1 h2)
  have HB1 := Lib.hid hb1
  have hs1 := hb1.size
  clear hb1
  go_wp2_with fail
  refine D1.out.mono ?_
  rintro e w2 ⟨rfl, hc2, hb2⟩
  have h3s := sizeI_three size
  obtain ⟨sz, hsz⟩ : ∃ sz, sz = sizeI size := ⟨_, rfl⟩
  rw [← hsz] at hc2 h3s
  have hsz64 : sz ≤ 64 := by omega
  have H2 : Hid (Own w.heap.size w w2 (w1.heap.size + 1) (emptyS sz)) := Lib.hid (own_new hsz64 hs1 HB1.out hc2 hb2)
  obtain ⟨cb, hcb⟩ : ∃ cb, cb = w1.heap.size + 1 := ⟨_, rfl⟩
  rw [← hcb] at H2 ⊢
  have H3 := Lib.hid h3s
  clear hc2 hb2 hcb hsz h3s
  by_cases hm2 : m ≤ 200
  · have x1 : ¬ (200 : Int) < (m : Int) := by omega
    have x2 : decide ((200 : Int) < (m : Int)) = false := decide_eq_false x1
    go_upto_region 8 with fail
    go_cut [8] (fun s8 wx => s8 = .int .i64 (sz : Int) ∧ wx = w2)
    case first =>
      rcases H3.out with ⟨r1, r2⟩ | ⟨r1, r2⟩ | ⟨r1, r2, r3⟩
      · subst r2
        go_wp2_with fail
        go_meet
        exact ⟨rfl, rfl⟩
      · subst r2
        have r2 : (0 : Int) ≤ size := by omega
        go_wp2_with fail
        go_meet
        exact ⟨rfl, rfl⟩
      · have HR := Lib.hid r3
        clear r3
        go_wp2_with fail
        go_meet
        exact ⟨by rw [HR.out], rfl⟩
    case rest =>
      obtain ⟨rfl, hw⟩ := hcut
      have hw' := hw.symm
      subst hw'
      clear hw
      go_wp2_with fail
      go_loopw [7, 9] (fun u i wr => ∃ j : Nat, j ≤ m ∧ i = .int .i64 j ∧ ∃ s, s.size = sz ∧ s.cs = [] ∧ Own w.heap.size w wr cb s ∧ StrsAt wr u (keysOf s) ∧ ∀ k, u.ownBlock = some k → Apart wr cb k) (fun _ i _ => m - (intOf i).toNat)
      case atStart => exact ⟨0, Nat.zero_le _, rfl, emptyS sz, rfl, rfl, H2.out, ⟨none, 0, rfl, fun i s hs => by simp [keysOf, emptyS] at hs⟩, fun k hk => by simp [Value.ownBlock] at hk⟩
      case round =>
        obtain ⟨j, hj, rfl, s, hss, hcs, hown, hst, hap⟩ := hrel
        by_cases hjm : j < m
        · obtain ⟨x, hx⟩ : ∃ x, xs[j]? = some x := ⟨_, List.getElem?_eq_getElem (by rw [← HN.out]; exact hjm)⟩
          obtain ⟨b, o, rfl, q⟩ := HC.out j x hx
          have hbl := World.block_lt_of_cell? w _ q
          have q1 : wr.cell? ⟨b, o + j, none⟩ = some (.string x) := (hown.below.cell (p := ⟨b, o + j, none⟩) hbl).trans q
          have y1 : (j : Int) < (m : Int) := by omega
          have HO := Lib.hid hown
          have HST := Lib.hid hst
          have HAP := Lib.hid hap
          have HSS := Lib.hid hss
          have HCS := Lib.hid hcs
          have HQ := Lib.hid q
          clear hx hown hst hap hss hcs q
          by_cases hz : x.size ≤ 50
          · have z1 : ¬ (50 : Int) < (x.size : Int) := by omega
            have z2 : decide (50 < x.size) = false := decide_eq_false (by omega)
            have hxs : x.size ≤ maxLen := by unfold maxLen; omega
            have D2 := Lib.hid (HO.out.offer hB ⟨#[118]⟩ hxs)
            have hpl := last_plain s HO.out.inv HCS.out x ⟨#[118]⟩
            have hkl : (keysOf s).length ≤ 64 := by unfold keysOf; rw [List.length_map]; have := HO.out.inv.fits; have := HO.out.inv.hi; omega
            have hsz1 := offer_size s x ⟨#[118]⟩
            rw [HSS.out] at hpl hsz1
            obtain ⟨s1, hs1⟩ : ∃ s1, s1 = (offerS s x ⟨#[118]⟩).1 := ⟨_, rfl⟩
            obtain ⟨ok, hok⟩ : ∃ ok, ok = (offerS s x ⟨#[118]⟩).2 := ⟨_, rfl⟩
            rw [← hs1, ← hok] at D2 hpl
            rw [← hs1] at hsz1
            obtain ⟨ks, hkse⟩ : ∃ ks, ks = keysOf s := ⟨_, rfl⟩
            rw [← hkse] at hpl hkl HST
            obtain ⟨n, hn⟩ : ∃ n, n = ks.length := ⟨_, rfl⟩
            rw [← hn] at hpl hkl
            have HNN := Lib.hid hn
            have HPL := Lib.hid hpl
            have HSZ1 := Lib.hid hsz1
            clear hpl hs1 hok hkse hn hsz1
            go_wp2_with fail
            refine D2.out.mono ?_
            rintro e w5 ⟨rfl, h5, hk5⟩
            have hst5 : StrsAt w5 u7 ks := strs_block HST.out fun k hk hl => (hk5 k (HAP.out k hk)).1
            have hap5 : ∀ k, u7.ownBlock = some k → Apart w5 cb k := fun k hk => (hk5 k (HAP.out k hk)).2
            have hsh : ∃ a c, u7 = .slice a n c := by
              obtain ⟨a, c, e, _⟩ := hst5
              exact ⟨a, c, by rw [e, HNN.out]⟩
            obtain ⟨a7, c7, rfl⟩ := hsh
            have q5 : w5.cell? ⟨b, o + j, none⟩ = some (.string x) := (h5.below.cell (p := ⟨b, o + j, none⟩) hbl).trans HQ.out
            have H5 := Lib.hid h5
            have HS5 := Lib.hid hst5
            have HA5 := Lib.hid hap5
            have HQ5 := Lib.hid q5
            clear h5 hk5 hst5 hap5 q1 q5
            go_wp2_with fail
            go_loopw [11, 12, 13] (fun u t i wr => ∃ k : Nat, k ≤ n ∧ i = .int .i64 k ∧ t = .bool ((ks.take k).any fun y => decide (y = x)) ∧ wr.ownsRow w5.heap.size 9 1 u (without (ks.take k) x).length ((without (ks.take k) x).map Value.string) ∧ Below w5.heap.size w5 wr) (fun _ _ i _ => n - (intOf i).toNat)
            case atStart => exact ⟨0, Nat.zero_le _, rfl, rfl, World.ownsRow_nil _ _ _ _, Below.refl _ w5⟩
            case round =>
              obtain ⟨k, hk, rfl, rfl, hown, hb⟩ := hrel
              have HO2 := Lib.hid hown
              have HB2 := Lib.hid hb
              by_cases hkn : k < n
              · obtain ⟨y, hy⟩ : ∃ y, ks[k]? = some y := ⟨_, List.getElem?_eq_getElem (by rw [← HNN.out]; exact hkn)⟩
                obtain ⟨a4, cap4, e4, hq4⟩ := HS5.out
                obtain ⟨b4, o4, rfl, q4⟩ := hq4 k y hy
                rw [← HNN.out] at e4
                simp only [Value.slice.injEq, true_and] at e4
                obtain ⟨rfl, rfl⟩ := e4
                have q4' : wr.cell? ⟨b4, o4 + k, none⟩ = some (.string y) := (hb.cell (p := ⟨b4, o4 + k, none⟩) (World.block_lt_of_cell? w5 _ q4)).trans q4
                have q5' : wr.cell? ⟨b, o + j, none⟩ = some (.string x) := (hb.cell (p := ⟨b, o + j, none⟩) (World.block_lt_of_cell? w5 _ HQ5.out)).trans HQ5.out
                have hts : ks.take (k + 1) = ks.take k ++ [y] := by rw [List.take_add_one, hy]; rfl
                have hwl := without_le (ks.take k) x
                have htl : (ks.take k).length ≤ 64 := by rw [List.length_take]; have := HNN.out; omega
                have hsn := without_snoc (ks.take k) y x
                have han := any_snoc (ks.take k) y x
                rw [← hts] at hsn han
                obtain ⟨L, hL⟩ : ∃ L, L = without (ks.take k) x := ⟨_, rfl⟩
                rw [← hL] at HO2 hsn hwl
                obtain ⟨th, hth⟩ : ∃ th, th = (ks.take k).any (fun z => decide (z = x)) := ⟨_, rfl⟩
                rw [← hth] at han ⊢
                have HSN := Lib.hid hsn
                have HAN := Lib.hid han
                have hL64 : L.length ≤ 64 := by omega
                have b2 : (k : Int) < (n : Int) := by omega
                clear hy hq4 q4 hown hb hts hsn hL hwl htl han hth
                by_cases e : y = x
                · have hbq : (y.toList == x.toList) = true := by rw [str_beq]; exact decide_eq_true e
                  have HE := Lib.hid e
                  clear e
                  go_wp2_with fail
                  go_quiet (fail)
                  go_wp2_with fail
                  refine ⟨⟨k + 1, by omega, by go_num, ?_, ?_, HB2.out.trans (belowN _ _ _)⟩, by simp [intOf]; omega⟩
                  · rw [HAN.out, decide_eq_true HE.out, Bool.or_true]
                  · rw [HSN.out, if_pos HE.out, List.append_nil]
                    exact HO2.out
                · have hbq : (y.toList == x.toList) = false := by rw [str_beq]; exact decide_eq_false e
                  have HE := Lib.hid e
                  obtain ⟨ln, hln⟩ : ∃ ln, ln = L.length := ⟨_, rfl⟩
                  obtain ⟨lv, hlv⟩ : ∃ lv, lv = L.map Value.string := ⟨_, rfl⟩
                  rw [← hln, ← hlv] at HO2
                  rw [← hln] at hL64
                  have HLN := Lib.hid hln
                  have HLV := Lib.hid hlv
                  have HOQ : Hid (∀ q, (wr.drewN q).ownsRow w5.heap.size 9 1 u11 ln lv) := Lib.hid fun q => HO2.out
                  clear e hln hlv
                  go_wp2_with fail
                  go_quiet (fail)
                  go_wp2_with (at_builtin; refine wpList_append_owns _ rfl _ _ 44 44 rfl w5.heap.size 9 i0 (.string ⟨#[]⟩) 1 16 Try.underlying44 hi hz0 hz1 hz2 rfl _ ln _ rfl ((HOQ.out _).alloc _) _ 1 [.string y] rfl (src_oneq _ _ _ rfl) (by unfold maxLen; omega) (by omega) (by have := HB2.out.size; simp; omega) ?_)
                  intro v' w' ho' hg' hb'
                  have hbel : Below w5.heap.size w5 w' := by
                    refine HB2.out.trans ⟨hg'.os, hg'.tape, hg'.output, ?_, fun i hi2 => ?_⟩
                    · have := hg'.size; simp at this; omega
                    · have hs := HB2.out.size
                      have e := hg'.block i (by simp; omega) (fun e => by have := (HO2.out.lt i e.symm).1; omega)
                      rw [e]
                      exact Below.heap_alloc _ _ i (by show i < wr.heap.size; omega)
                  have ho2 : w'.ownsRow w5.heap.size 9 1 v' (without (ks.take (k + 1)) x).length ((without (ks.take (k + 1)) x).map Value.string) := by
                    rw [HSN.out, if_neg HE.out, List.map_append, List.length_append, ← HLN.out, ← HLV.out]
                    exact ho'
                  have HB6 := Lib.hid hbel
                  have HO6 := Lib.hid ho2
                  clear ho' hg' hb' hbel ho2
                  go_wp2_with fail
                  refine ⟨⟨k + 1, by omega, by go_num, ?_, HO6.out, HB6.out⟩, by simp [intOf]; omega⟩
                  rw [HAN.out, decide_eq_false HE.out, Bool.or_false]
              · have b2 : ¬ (k : Int) < (n : Int) := by omega
                have htk : ks.take k = ks := by rw [List.take_of_length_le (by rw [← HNN.out]; omega)]
                rw [htk] at HO2 ⊢
                obtain ⟨L, hL⟩ : ∃ L, L = without ks x := ⟨_, rfl⟩
                obtain ⟨p1, p2, p3⟩ := HPL.out
                rw [← hL] at HO2 p3
                obtain ⟨th, hth⟩ : ∃ th, th = ks.any (fun z => decide (z = x)) := ⟨_, rfl⟩
                rw [← hth] at p1 ⊢
                have hln : L.length ≤ n := by rw [hL, HNN.out]; exact without_le _ _
                have h6 := H5.out.keep hB HB2.out
                have hwas : StrsAt wr (.slice a7 n c7) ks := HS5.out.below (Nat.le_refl _) HB2.out
                have hapw : ∀ k, (Value.slice a7 n c7).ownBlock = some k → Apart wr cb k := fun k hk => (Apart.below H5.out (HA5.out k hk) HB2.out).2
                have HP1 := Lib.hid p1
                have HP2 := Lib.hid p2
                have HP3 := Lib.hid p3
                have H6 := Lib.hid h6
                have HWAS := Lib.hid hwas
                have HAPW := Lib.hid hapw
                obtain ⟨lv, hlv⟩ : ∃ lv, lv = L.map Value.string := ⟨_, rfl⟩
                obtain ⟨ln, hlne⟩ : ∃ ln, ln = L.length := ⟨_, rfl⟩
                rw [← hlne, ← hlv] at HO2
                rw [← hlne] at hln
                have HLV := Lib.hid hlv
                have HLN := Lib.hid hlne
                have hl1 : ∀ u ∈ lv, u.oneCell' = true := by rw [hlv]; intro u hu; obtain ⟨z, _, rfl⟩ := List.mem_map.1 hu; rfl
                have HSRC := Lib.hid (src_row (HO2.out.alloc (.cells #[.string x] 9)) hl1)
                have q6 : wr.cell? ⟨b, o + j, none⟩ = some (.string x) := (HB2.out.cell (p := ⟨b, o + j, none⟩) (World.block_lt_of_cell? w5 _ HQ5.out)).trans HQ5.out
                clear hown hb htk hL hth h6 hwas hapw p1 p2 p3 hlv hlne hl1
                -- what is told of the end of a round
                cases ok with
                | false =>
                  have e1 := HP1.out.symm
                  simp only [Bool.or_eq_false_iff] at e1
                  obtain ⟨e2, e3⟩ := e1
                  subst e2
                  have e5 : ¬ (n : Int) < (sz : Int) := by have := of_decide_eq_false e3; omega
                  have e6 : decide ((n : Int) < (sz : Int)) = false := decide_eq_false e5
                  have D7 := Lib.hid (H6.out.keys hB)
                  have hp3 := HP3.out
                  rw [if_neg (by simp)] at hp3
                  have HP4 := Lib.hid hp3
                  clear hp3
                  go_wp2_with fail
                  refine D7.out.mono ?_
                  rintro e w7 ⟨va7, rfl, hst7, ⟨a8, c8, rfl⟩, h7, _, hb7⟩
                  rw [HP4.out] at hst7 ⊢
                  have hw7 : StrsAt w7 (.slice a7 n c7) ks := HWAS.out.below (Nat.le_refl _) hb7
                  have ha7 : ∀ k, (Value.slice a7 n c7).ownBlock = some k → Apart w7 cb k := fun k hk => (Apart.below H6.out (HAPW.out k hk) hb7).2
                  have S := Lib.hid (same_true w7 _ _ ks hst7 hw7 (by unfold maxLen; have := HNN.out; omega))
                  have H7 := Lib.hid h7
                  have HW7 := Lib.hid hw7
                  have HA7 := Lib.hid ha7
                  clear hst7 h7 hb7 hw7 ha7
                  go_wp2_with fail
                  refine S.out.mono ?_
                  rintro e w8 ⟨rfl, q8, rfl⟩
                  go_wp2_with fail
                  refine ⟨⟨j + 1, by omega, by go_num, s1, HSZ1.out, HP2.out, H7.out.drewN q8, by rw [HP4.out]; exact HW7.out, fun k hk => (Apart.below H7.out (HA7.out k hk) (belowN _ _ _)).2⟩, by simp [intOf]; omega⟩
                | true =>
                  have hp3 := HP3.out
                  rw [if_pos rfl] at hp3
                  have HP4 := Lib.hid hp3
                  clear hp3
                  have HARM : Hid (∀ (v' : Value) (w' : World), w'.ownsRow wr.heap.size 9 1 v' (1 + ln) ([.string x] ++ lv) → (wr.alloc (.cells #[.string x] 9)).grownBy w' (some wr.heap.size) → StrsAt w' v' (x :: L) ∧ Own w.heap.size w w' cb s1 ∧ (∀ k, v'.ownBlock = some k → Apart w' cb k) ∧ ∃ a c, v' = .slice a (x :: L).length c) := Lib.hid fun v' w' ho hg => by
                    have ho2 : w'.ownsRow wr.heap.size 9 1 v' (x :: L).length ((x :: L).map Value.string) := by
                      rw [List.length_cons, List.map_cons, ← HLN.out, ← HLV.out, Nat.add_comm]
                      exact ho
                    have hbel : Below wr.heap.size wr w' := ⟨hg.os, hg.tape, hg.output, by have := hg.size; simp at this; omega, fun k hk => (hg.block k (by simp; omega) (fun e => by simp at e; omega)).trans (Below.heap_alloc _ _ k hk)⟩
                    have hs := strs_row ho2
                    refine ⟨hs, H6.out.keep hB hbel, fun k hk => H6.out.fresh (ho2.lt k hk).1 hbel (ho2.lt k hk).2, ?_⟩
                    obtain ⟨a, c, e, _⟩ := hs
                    exact ⟨a, c, e⟩
                  have hfix : th = true ∨ (th = false ∧ n < sz) := by
                    have := HP1.out.symm
                    simp only [Bool.or_eq_true, decide_eq_true_eq] at this
                    cases th with
                    | true => exact .inl rfl
                    | false => exact .inr ⟨rfl, this.resolve_left (by simp)⟩
                  rcases hfix with rfl | ⟨rfl, hfx⟩
                  · have e0 : True := trivial
                    go_wp2_with (at_builtin; refine wpList_append_owns _ rfl _ _ 44 44 rfl wr.heap.size 9 i0 (.string ⟨#[]⟩) 1 16 Try.underlying44 hi hz0 hz1 hz2 rfl _ 1 _ rfl (row_one wr (.string x)) _ ln lv rfl HSRC.out (by unfold maxLen; omega) (by omega) (by simp) ?_)
                    intro v' w' ho' hg' hb'
                    obtain ⟨hs8, h8, ha8, a8, c8, rfl⟩ := HARM.out v' w' ho' hg'
                    have D7 := Lib.hid (h8.keys hB)
                    have H8 := Lib.hid h8
                    have HS8 := Lib.hid hs8
                    have HA8 := Lib.hid ha8
                    clear ho' hg' hb' h8 hs8 ha8
                    go_wp2_with fail
                    refine D7.out.mono ?_
                    rintro e w7 ⟨va7, rfl, hst7, ⟨a9, c9, rfl⟩, h7, _, hb7⟩
                    rw [HP4.out] at hst7 ⊢
                    have hw7 := HS8.out.below (Nat.le_refl _) hb7
                    have ha7 := fun k hk => (Apart.below H8.out (HA8.out k hk) hb7).2
                    have S := Lib.hid (same_true w7 _ _ (x :: L) hst7 hw7 (by unfold maxLen; rw [List.length_cons, ← HLN.out]; omega))
                    have H7 := Lib.hid h7
                    have HW7 := Lib.hid hw7
                    have HA7 := Lib.hid ha7
                    clear hst7 h7 hb7 hw7 ha7
                    go_wp2_with fail
                    refine S.out.mono ?_
                    rintro e w8 ⟨rfl, q8, rfl⟩
                    go_wp2_with fail
                    refine ⟨⟨j + 1, by omega, by go_num, s1, HSZ1.out, HP2.out, H7.out.drewN q8, by rw [HP4.out]; exact HW7.out, fun k hk => (Apart.below H7.out (HA7.out k hk) (belowN _ _ _)).2⟩, by simp [intOf]; omega⟩
                  · have e5 : (n : Int) < (sz : Int) := by omega
                    have e6 : decide ((n : Int) < (sz : Int)) = true := decide_eq_true e5
                    go_wp2_with (at_builtin; refine wpList_append_owns _ rfl _ _ 44 44 rfl wr.heap.size 9 i0 (.string ⟨#[]⟩) 1 16 Try.underlying44 hi hz0 hz1 hz2 rfl _ 1 _ rfl (row_one wr (.string x)) _ ln lv rfl HSRC.out (by unfold maxLen; omega) (by omega) (by simp) ?_)
                    intro v' w' ho' hg' hb'
                    obtain ⟨hs8, h8, ha8, a8, c8, rfl⟩ := HARM.out v' w' ho' hg'
                    have D7 := Lib.hid (h8.keys hB)
                    have H8 := Lib.hid h8
                    have HS8 := Lib.hid hs8
                    have HA8 := Lib.hid ha8
                    clear ho' hg' hb' h8 hs8 ha8
                    go_wp2_with fail
                    refine D7.out.mono ?_
                    rintro e w7 ⟨va7, rfl, hst7, ⟨a9, c9, rfl⟩, h7, _, hb7⟩
                    rw [HP4.out] at hst7 ⊢
                    have hw7 := HS8.out.below (Nat.le_refl _) hb7
                    have ha7 := fun k hk => (Apart.below H8.out (HA8.out k hk) hb7).2
                    have S := Lib.hid (same_true w7 _ _ (x :: L) hst7 hw7 (by unfold maxLen; rw [List.length_cons, ← HLN.out]; omega))
                    have H7 := Lib.hid h7
                    have HW7 := Lib.hid hw7
                    have HA7 := Lib.hid ha7
                    clear hst7 h7 hb7 hw7 ha7
                    go_wp2_with fail
                    refine S.out.mono ?_
                    rintro e w8 ⟨rfl, q8, rfl⟩
                    go_wp2_with fail
                    refine ⟨⟨j + 1, by omega, by go_num, s1, HSZ1.out, HP2.out, H7.out.drewN q8, by rw [HP4.out]; exact HW7.out, fun k hk => (Apart.below H7.out (HA7.out k hk) (belowN _ _ _)).2⟩, by simp [intOf]; omega⟩
          · have z1 : (50 : Int) < (x.size : Int) := by omega
            have z2 : decide (50 < x.size) = true := decide_eq_true (by omega)
            go_wp2_with fail
            go_ret
            exact ⟨rfl, HO.out.below⟩
        · have y1 : ¬ (j : Int) < (m : Int) := by omega
          have HO := Lib.hid hown
          clear hown hst hap hss hcs
          go_wp2_with fail
          go_ret
          exact ⟨rfl, HO.out.below⟩
  · have x1 : (200 : Int) < (m : Int) := by omega
    have x2 : decide ((200 : Int) < (m : Int)) = true := decide_eq_true x1
    go_wp2_with fail
    go_ret
    exact ⟨rfl, H2.out.below⟩

set_option maxRecDepth 100000 in
theorem cacheLast_lifted (os : Os) (started : os.Started) (H : Type) (enc : TypeId × Value → H) :
    ReturnsInHanded {} Try.checked os 8 .any (Rows.cacheLastSpec.pre6 enc Try.prog Try.f8 Rows.cacheLastRow.domain false) (Rows.cacheLastSpec.post enc Try.prog Try.f8 false true false false) := by
  refine returnsInHanded_of_change (C := Try.checked) own started (by kernel_rfl) Try.func8
    (ChangeSpec.witness6 (enc := enc) (C := Try.checked) false ⟨#[], #[.int .i64 0, .slice none 0 0], []⟩ 8 (by kernel_rfl) (by kernel_rfl) (by kernel_rfl) (by kernel_rfl)) ?_
  intro W base args ds gs before hval0 hW hcnd _
  have hval : ∀ (j : Nat) t v, Try.f8.params[j]? = some t → args[j]? = some v → Value.okWide Try.prog W .any base t v := hval0
  have hW' := hW
  obtain ⟨p, q, hA0, hV, rfl, hfz, hnd⟩ := hW
  have hA : DataW.TrodAll enc Try.prog W 0 (fun _ => true) true Try.f8.params.toList args.toList ds p := hA0
  rw [Try.params8] at hA hval
  obtain ⟨v0, vs0, d0, ds0, p0, q0, hargs, rfl, rfl, h0, r0⟩ := trodAll_cons hA
  obtain ⟨v1, vs1, d1, ds1, p1, q1, rfl, rfl, rfl, h1, r1⟩ := trodAll_cons r0
  obtain ⟨rfl, rfl, rfl⟩ := trodAll_nil r1
  obtain rfl : args = #[v0, v1] := by cases args; simp_all
  obtain ⟨rfl, rfl⟩ := trodVars_none hV
  obtain ⟨size, rfl, rfl, rfl, w0⟩ := open_int Try.underlying3 (hval 0 3 v0 rfl rfl) h0
  have b0 := Go.bounds_i64 w0
  obtain ⟨a1, len1, cap1, rfl⟩ := okWide_slice Try.underlying44 (hval 1 44 v1 rfl rfl)
  have k1 := h1
  have lt1 : ∀ x ∈ p1, x.block < W.heap.size := by obtain ⟨m, hm⟩ := k1; exact DataW.trod_lt m _ _ _ hm
  obtain ⟨xs, hs1, hlen1⟩ : ∃ xs, StrsAt W (.slice a1 len1 cap1) xs ∧ xs.length ≤ maxLen := by
    obtain ⟨fuel, hf⟩ := h1
    obtain ⟨v, xs, hv, h2, h3⟩ := strs_of hf
    simp [Value.cells] at hv
    subst hv
    exact ⟨xs, h2, h3⟩
  clear hA0 hval0
  refine (last_any size xs _ W b0.1 b0.2 hs1 hlen1).mono fun e W' ⟨he, bel⟩ => ?_
  subst he
  exact ⟨_, rfl, _, _, _, [], _, [], hW', trodAll_mk1 (shut_bool Try.underlying4 _), (trodAll_cons_mk (shut_int Try.underlying3 w0) (trodAll_cons_mk (Below.trod laidOut (by kernel_rfl) (of_decide_eq_true (by kernel_rfl)) k1 bel lt1) trodAll_mk0)), rfl, bel.frame _, fun h => by cases h⟩

theorem cacheLast_holds : Rows.CacheLastSaid :=
  OpenClaim.holds_of_wide 8 Try.f8 rfl rfl rfl rfl rfl rfl rfl ⟨rfl, rfl, rfl, rfl, rfl⟩ rfl rfl rfl rfl rfl (by kernel_rfl) Try.func8 (by kernel_rfl)
    (of_decide_eq_true (by kernel_rfl)) (by unfold Func.isWrapper; first | (rw [if_pos (by decide +kernel)]; kernel_rfl) | (rw [if_neg (by decide +kernel)]; exact ⟨rfl, rfl⟩))
    (fun os started H enc _ => cacheLast_lifted os started H enc)
#print axioms cacheLast_holds
end Go.Proofs.Ytoeekjooigijbaa

/-
  MeshCounts, proved for every input: how many there are of a frame is told act by act; never more than there is room for. No condition.
-/
import Derived.Test.YtgfklfpjibjhmaaTally
import Derived.Deep.DeepCutAuto
import Derived.Deep.LoopGhost
import Derived.ChangeMaps5
namespace Go.Proofs.Ytgfklfpjibjhmaa
open Go.ChangeShapes Go.WideShapes Go.ChangeAt Go.RowKit
open Go.ChangeMaps (open_string shut_string)
set_option linter.unusedVariables false
set_option linter.unusedSimpArgs false

set_option maxHeartbeats 8000000 in
set_option maxRecDepth 100000 in
theorem counts_any (room : Int) (l : List ActD) (v : Value) (s : ByteArray) (w : World) (h1 : -9223372036854775808 ≤ room) (h2 : room ≤ 9223372036854775807) (h : ActsAt w v l) (hm : l.length ≤ maxLen) (hss : s.size ≤ maxLen) :
    Calls Try.prog 4 #[.int .i64 room, v, .string s] w (BelowPost w (.bool true)) := by
  have hB := Nat.le_refl w.heap.size
  have DF := fun (w' : World) (hb : Below w.heap.size w w') (ha : ActsAt w' v l) => few_any w' v l ha hm
  unfold maxLen at hm
  obtain ⟨a, cap, rfl, hc⟩ := h
  have HA : Hid (∀ w', Below w.heap.size w w' → ActsAt w' (.slice a l.length cap) l) := Lib.hid fun w' hb => by
    refine ⟨a, cap, rfl, fun i x hx => ?_⟩
    obtain ⟨b, o, e, hq⟩ := hc i x hx
    exact ⟨b, o, e, act_cells hb hq⟩
  obtain ⟨m, hmm⟩ : ∃ m, m = l.length := ⟨_, rfl⟩
  rw [← hmm] at HA DF ⊢
  have HC := Lib.hid hc
  have HN := Lib.hid hmm
  have HF := Lib.hid DF
  have hm' : m ≤ 9223372036854775807 := by omega
  clear hm hc hmm DF
  have D0 := Lib.hid (works_any w)
  go_enter Try.func4, Try.ntmps4
  go_wp2_with fail
  refine D0.out.mono ?_
  rintro e w1 ⟨rfl, hb1⟩
  have D1 := Lib.hid (new_any room w1 h1 h2)
  have HB1 := Lib.hid hb1
  have hs1 := hb1.size
  clear hb1
  go_wp2_with fail
  refine D1.out.mono ?_
  rintro e w2 ⟨rfl, hm2, hb2⟩
  have H2 : Hid (Own w.heap.size w w2 w1.heap.size (roomOf room) []) := Lib.hid ⟨⟨_, hm2, fun k hk => by simp [Value.ownBlock] at hk⟩, hs1, HB1.out.trans (hb2.mono hs1)⟩
  clear hm2 hb2
  obtain ⟨mb, hmb⟩ : ∃ mb, mb = w1.heap.size := ⟨_, rfl⟩
  rw [← hmb] at H2 ⊢
  clear hmb
  obtain ⟨r, hr⟩ : ∃ r, r = roomOf room := ⟨_, rfl⟩
  have h3r := roomOf_three room
  rw [← hr] at H2 h3r
  have H3 := Lib.hid h3r
  clear h3r hr
  have DFe := HF.out w2 H2.out.below (HA.out w2 H2.out.below)
  go_wp2_with fail
  refine DFe.mono ?_
  rintro e w' ⟨bf, rfl, hlen, rfl⟩
  clear DFe
  cases bf with
  | false =>
    clear hlen
    go_wp2_with fail
    go_ret
    exact ⟨rfl, H2.out.below⟩
  | true =>
    have hle : m ≤ 100 := by rw [HN.out]; exact hlen rfl
    clear hlen
    by_cases hsz : s.size ≤ 100
    · have hsz' : ¬ (100 : Int) < (s.size : Int) := by omega
      go_wp2_with fail
      go_loopg [10, 11] m (fun g c i wr => ∃ k : Nat, k ≤ m ∧ g = m - k ∧ i = .int .i64 k ∧ ∃ xs, c = .int .i64 (countOf s xs) ∧ Own w.heap.size w wr mb r xs)
      case atStart => exact ⟨0, Nat.zero_le _, rfl, rfl, [], rfl, H2.out⟩
      case round =>
        obtain ⟨k, hk, hgk, rfl, xs, rfl, hown⟩ := hrel
        by_cases hkn : k < m
        · obtain ⟨x, hx⟩ : ∃ x, l[k]? = some x := ⟨_, List.getElem?_eq_getElem (by rw [← HN.out]; exact hkn)⟩
          obtain ⟨b, o, rfl, q⟩ := HC.out k x hx
          obtain ⟨q0, q1, q2, q3⟩ := act_cells hown.below q
          have b1 : (k : Int) < (m : Int) := by omega
          have HG := Lib.hid hgk
          have HX := Lib.hid hx
          obtain ⟨K, S, N, To⟩ := x
          dsimp only at q0 q1 q2 q3
          have hown1 : Own w.heap.size w (wr.alloc (.cells #[.int .i64 K, .string S, .int .i64 N, .int .i64 To] 34)) mb r xs :=
            hown.keep hown.below.size ((Below.refl _ wr).alloc (Nat.le_refl _) _)
          have HO := Lib.hid hown1
          obtain ⟨⟨v, hmv, hvB⟩, hmbB, _⟩ := hown1
          have hxl : xs.length ≤ 64 := Nat.le_trans hmv.fits hmv.hi
          have A := Lib.hid (all_any mb v r xs _ hmv)
          have HM := Lib.hid hmv
          have HVB := Lib.hid hvB
          have hcl := countOf_le s xs
          have HOW := Lib.hid hown
          have hnb : mb ≠ wr.heap.size ∧ v.ownBlock ≠ some wr.heap.size := by
            obtain ⟨⟨v', hm', _⟩, _, _⟩ := hown
            have l1 := hm'.lt
            have hv : v' = v := by
              have e := (hm'.below ((Below.refl _ wr).alloc (Nat.le_refl _) (.cells #[.int .i64 K, .string S, .int .i64 N, .int .i64 To] 34))).c1.symm.trans hmv.c1
              exact Option.some.inj e
            subst hv
            exact ⟨by omega, fun e => by have := hm'.own_lt _ e; omega⟩
          have HNB := Lib.hid hnb
          clear q hown hx hgk hmv hvB hnb
          go_wp2_with fail
          refine A.out.mono ?_
          rintro e w4 ⟨va, rfl, hva, hvE, hb4⟩
          have hva0 := hvE.out
          subst hva0
          have hbox : ∀ i x, #[Value.int .i64 K, .string S, .int .i64 N, .int .i64 To][i]? = some x → w4.cell? ⟨wr.heap.size, i, none⟩ = some x := fun i x hx => by
            rw [hb4.cell (p := ⟨wr.heap.size, i, none⟩) (by simp)]
            have e := heap_alloc_new wr (.cells #[.int .i64 K, .string S, .int .i64 N, .int .i64 To] 34)
            unfold World.cell?
            simp only [e]
            exact hx
          have HBX := Lib.hid hbox
          have c0 := hbox 0 _ rfl
          have c1 := hbox 1 _ rfl
          have c2 := hbox 2 _ rfl
          have c3 := hbox 3 _ rfl
          have hm4 := HM.out.below hb4
          have D4 := Lib.hid (do_all mb v r xs w4 hm4 ⟨K, S, N, To⟩)
          have HVA := Lib.hid hva
          have HB4 := Lib.hid hb4
          have HM4 := Lib.hid hm4
          clear hva hb4 hm4 hvE hbox
          go_upto_region 14 with fail
          obtain ⟨hit, hhit⟩ : ∃ hit, hit = hits xs N s := ⟨_, rfl⟩
          have HH := Lib.hid hhit
          clear hhit
          go_cut [14] (fun s14 wx => s14 = .bool hit ∧ wx = w4)
          case first =>
            by_cases n1 : N < 0
            · have e1 : hit = false := by rw [HH.out]; exact hits_off (.inl n1)
              subst e1
              have n2 : ¬ (0 : Int) ≤ N := by omega
              clear n1
              go_wp2_with fail
              go_meet
              exact ⟨rfl, rfl⟩
            · by_cases n3 : N < (xs.length : Int)
              · obtain ⟨j, rfl⟩ := Int.eq_ofNat_of_zero_le (show 0 ≤ N by omega)
                obtain ⟨x, hx⟩ : ∃ x, xs[j]? = some x := ⟨_, List.getElem?_eq_getElem (by omega)⟩
                have e1 : hit = decide (x = s) := by rw [HH.out]; exact hits_in hx
                have q2 : w4.cell? ⟨wr.heap.size + 1, j, none⟩ = some (.string x) := by
                  obtain ⟨a, c, e, hq⟩ := HVA.out
                  obtain ⟨b, o, e', hq'⟩ := hq j x hx
                  simp only [Value.slice.injEq] at e
                  rw [← e.1] at e'
                  simp only [Option.some.injEq, Addr.mk.injEq, and_true] at e'
                  obtain ⟨rfl, rfl⟩ := e'
                  simpa using hq'
                have HE := Lib.hid e1
                clear hx e1 n1
                go_wp2_with fail
                go_meet
                exact ⟨by rw [HE.out, str_beq], rfl⟩
              · have e1 : hit = false := by rw [HH.out]; exact hits_off (.inr (by omega))
                subst e1
                have n2 : (0 : Int) ≤ N := by omega
                clear n1
                go_wp2_with fail
                go_meet
                exact ⟨rfl, rfl⟩
          case rest =>
            obtain ⟨rfl, hwx⟩ := hcut
            subst hwx
            go_wp2_with fail
            refine D4.out.mono ?_
            rintro e w5 ⟨rfl, v', hm5, ht5⟩
            have HO5 := Lib.hid (Own.step (xs := xs) (Nat.le_trans HO.out.below.size HB4.out.size) hmbB HVB.out (HO.out.below.trans (HB4.out.mono HO.out.below.size)) hm5 ht5)
            have C5 := Lib.hid (count_any mb v' r _ s _ hm5)
            have A5 := Lib.hid (all_any mb v' r _ _ hm5)
            have hyl := hm5.fits
            have hyr := hm5.hi
            have hcy := countOf_le s (doM r xs ⟨K, S, N, To⟩).1
            have hcnt := do_counts r xs ⟨K, S, N, To⟩ s
            have htk := do_takes r xs ⟨K, S, N, To⟩ s
            dsimp only at hcnt htk
            rw [← HH.out] at hcnt htk
            have hbk : w5.heap[wr.heap.size]? = wc.heap[wr.heap.size]? := ht5.block _ (by have := HB4.out.size; simp at this; omega) HNB.out.1.symm HNB.out.2
            have d0 : w5.cell? ⟨wr.heap.size, 0, none⟩ = some (.int .i64 K) := (World.cell?_of_block hbk).trans c0
            have d1 : w5.cell? ⟨wr.heap.size, 1, none⟩ = some (.string S) := (World.cell?_of_block hbk).trans c1
            clear c0 c1 c2 c3 hbk ht5 hm5
            generalize (doM r xs ⟨K, S, N, To⟩).1 = ys at *
            generalize (doM r xs ⟨K, S, N, To⟩).2.1 = t at *
            generalize (doM r xs ⟨K, S, N, To⟩).2.2 = ok at *
            have HCNT := Lib.hid hcnt
            have HTK := Lib.hid htk
            clear hcnt htk D4 A HM HX HVA HB4 HM4 HVB
            obtain ⟨c, hcx⟩ : ∃ c, c = countOf s xs := ⟨_, rfl⟩
            obtain ⟨c', hcy'⟩ : ∃ c', c' = countOf s ys := ⟨_, rfl⟩
            rw [← hcx] at hcl HCNT ⊢
            rw [← hcy'] at hcy C5 HCNT
            have HCY := Lib.hid hcy'
            clear hcx hcy'
            obtain ⟨A, hA⟩ : ∃ A, A = (ok && (decide (K = 0) && decide (S = s) || decide (K = 3) && hit)) := ⟨_, rfl⟩
            obtain ⟨B, hB'⟩ : ∃ B, B = (ok && hit && (decide (K = 1) || decide (K = 2))) := ⟨_, rfl⟩
            have hc : (c' : Int) = (c : Int) + b2n A - b2n B := by rw [hA, hB']; exact HCNT.out
            have HA := Lib.hid hA
            have HB' := Lib.hid hB'
            have HC1 := Lib.hid hc
            clear hA hB' hc
            go_upto_region 16 with fail
            go_cut [96] (fun s96 wx => s96 = .bool A ∧ wx = w5)
            case first =>
              cases ok with
              | false =>
                go_wp2_with fail
                go_meet
                exact ⟨by rw [HA.out]; rfl, rfl⟩
              | true =>
                by_cases k0 : K = 0
                · have e : A = (S.toList == s.toList) := by rw [HA.out, str_beq, k0]; simp
                  have HE := Lib.hid e
                  have b0 : (K == 0) = true := by rw [beq_iff_eq]; exact k0
                  have b1 : (K == 1) = false := by rw [beq_eq_false_iff_ne]; omega
                  have b2 : (K == 2) = false := by rw [beq_eq_false_iff_ne]; omega
                  have b3 : (K == 3) = false := by rw [beq_eq_false_iff_ne]; omega
                  clear k0 e
                  cases hs0 : (S.toList == s.toList) with
                  | false =>
                    go_wp2_with fail
                    go_meet
                    exact ⟨by rw [HE.out, hs0], rfl⟩
                  | true =>
                    go_wp2_with fail
                    go_meet
                    exact ⟨by rw [HE.out, hs0], rfl⟩
                · by_cases k3 : K = 3
                  · have e : A = hit := by rw [HA.out, k3]; simp
                    subst e
                    have b0 : (K == 0) = false := by rw [beq_eq_false_iff_ne]; omega
                    have b3 : (K == 3) = true := by rw [beq_iff_eq]; exact k3
                    clear k0 k3
                    cases A with
                    | false =>
                      go_wp2_with fail
                      go_meet
                      exact ⟨rfl, rfl⟩
                    | true =>
                      go_wp2_with fail
                      go_meet
                      exact ⟨rfl, rfl⟩
                  · have e : A = false := by rw [HA.out]; simp [k0, k3]
                    subst e
                    have b0 : (K == 0) = false := by rw [beq_eq_false_iff_ne]; exact k0
                    have b3 : (K == 3) = false := by rw [beq_eq_false_iff_ne]; exact k3
                    clear k0 k3
                    go_wp2_with fail
                    go_meet
                    exact ⟨rfl, rfl⟩
            case rest =>
              obtain ⟨rfl, hw⟩ := hcut
              have hw' := hw.symm
              subst hw'
              clear hw
              go_upto_if 96 with fail
              obtain ⟨c1, hc1⟩ : ∃ c1 : Int, c1 = (c : Int) + b2n A := ⟨_, rfl⟩
              have c1b : 0 ≤ c1 ∧ c1 ≤ 100 := by rw [hc1]; cases A <;> simp [b2n] <;> omega
              obtain ⟨c1l, c1h⟩ := c1b
              have HC2 := Lib.hid hc1
              clear hc1
              go_cut [10] (fun s10 wx => s10 = .int .i64 c1 ∧ wx = w5)
              case first =>
                cases A with
                | false =>
                  go_wp2_with fail
                  go_meet
                  exact ⟨by rw [HC2.out]; simp [b2n], rfl⟩
                | true =>
                  have bw : IntKind.i64.wrap ((c : Int) + 1) = (c : Int) + 1 := by rw [IntKind.wrap_i64]; omega
                  go_wp2_with fail
                  go_meet
                  exact ⟨by rw [HC2.out]; simp [b2n], rfl⟩
              case rest =>
                obtain ⟨rfl, hw⟩ := hcut
                have hw' := hw.symm
                subst hw'
                clear hw
                go_upto_region 18 with fail
                go_cut [112] (fun s112 wx => s112 = .bool B ∧ wx = w5)
                case first =>
                  cases ok with
                  | false =>
                    go_wp2_with fail
                    go_meet
                    exact ⟨by rw [HB'.out]; rfl, rfl⟩
                  | true =>
                    cases hit with
                    | false =>
                      go_wp2_with fail
                      go_meet
                      exact ⟨by rw [HB'.out]; rfl, rfl⟩
                    | true =>
                      by_cases k1 : K = 1
                      · have b1 : (K == 1) = true := by rw [beq_iff_eq]; exact k1
                        have HK := Lib.hid k1
                        clear k1
                        go_wp2_with fail
                        go_meet
                        exact ⟨by rw [HB'.out, HK.out]; rfl, rfl⟩
                      · by_cases k2 : K = 2
                        · have b1 : (K == 1) = false := by rw [beq_eq_false_iff_ne]; exact k1
                          have b2 : (K == 2) = true := by rw [beq_iff_eq]; exact k2
                          have HK := Lib.hid k2
                          clear k1 k2
                          go_wp2_with fail
                          go_meet
                          exact ⟨by rw [HB'.out, HK.out]; rfl, rfl⟩
                        · have b1 : (K == 1) = false := by rw [beq_eq_false_iff_ne]; exact k1
                          have b2 : (K == 2) = false := by rw [beq_eq_false_iff_ne]; exact k2
                          have HK1 := Lib.hid k1
                          have HK2 := Lib.hid k2
                          clear k1 k2
                          go_wp2_with fail
                          go_meet
                          exact ⟨by rw [HB'.out, decide_eq_false HK1.out, decide_eq_false HK2.out]; rfl, rfl⟩
                case rest =>
                  obtain ⟨rfl, hw⟩ := hcut
                  have hw' := hw.symm
                  subst hw'
                  clear hw
                  go_upto_if 112 with fail
                  go_cut [10] (fun s10 wx => s10 = .int .i64 c' ∧ wx = w5)
                  case first =>
                    have hcc : (c' : Int) = c1 - b2n B := by rw [HC2.out]; exact HC1.out
                    have HCC := Lib.hid hcc
                    have bw : IntKind.i64.wrap (c1 - 1) = c1 - 1 := by rw [IntKind.wrap_i64]; omega
                    clear hcc
                    cases B with
                    | false =>
                      go_wp2_with fail
                      go_meet
                      exact ⟨by rw [HCC.out]; simp [b2n], rfl⟩
                    | true =>
                      go_wp2_with fail
                      go_meet
                      exact ⟨by rw [HCC.out]; simp [b2n], rfl⟩
                  case rest =>
                    obtain ⟨rfl, hw⟩ := hcut
                    have hw' := hw.symm
                    subst hw'
                    clear hw
                    have bn : ((c' : Int) == (c' : Int)) = true := by rw [beq_iff_eq]
                    have hn0 : (0 : Int) ≤ (c' : Int) := by omega
                    by_cases k1 : K = 1
                    · have b1 : (K == 1) = true := by rw [beq_iff_eq]; exact k1
                      cases ok with
                      | false =>
                        clear k1
                        go_wp2_with fail
                        refine C5.out.mono ?_
                        rintro e w' ⟨rfl, rfl⟩
                        rcases H3.out with ⟨r1, r2⟩ | ⟨r1, r2⟩ | ⟨r1, r2, r3⟩
                        · have hcmp : decide ((1 : Int) < (ys.length : Int)) = false := decide_eq_false (by omega)
                          have hlim : ¬ (1 : Int) < (ys.length : Int) := by omega
                          clear r2
                          go_wp2_with fail
                          refine A5.out.mono ?_
                          rintro e w6 ⟨va, rfl, ⟨a6, cap6, rfl, _⟩, _, hb6⟩
                          have HB6 := Lib.hid hb6
                          clear hb6
                          go_wp2_with fail
                          go_roundg (m - (k + 1))
                          case measure => have := HG.out; omega
                          case rel => exact ⟨k + 1, by omega, rfl, by go_num, ys, by rw [HCY.out], HO5.out.keep HO5.out.below.size HB6.out⟩
                        · have hcmp : decide ((64 : Int) < (ys.length : Int)) = false := decide_eq_false (by omega)
                          have hlim : ¬ (64 : Int) < (ys.length : Int) := by omega
                          clear r2
                          go_wp2_with fail
                          refine A5.out.mono ?_
                          rintro e w6 ⟨va, rfl, ⟨a6, cap6, rfl, _⟩, _, hb6⟩
                          have HB6 := Lib.hid hb6
                          clear hb6
                          go_wp2_with fail
                          go_roundg (m - (k + 1))
                          case measure => have := HG.out; omega
                          case rel => exact ⟨k + 1, by omega, rfl, by go_num, ys, by rw [HCY.out], HO5.out.keep HO5.out.below.size HB6.out⟩
                        · have hcmp : decide (room < (ys.length : Int)) = false := decide_eq_false (by omega)
                          have hlim : ¬ room < (ys.length : Int) := by omega
                          clear r3
                          go_wp2_with fail
                          refine A5.out.mono ?_
                          rintro e w6 ⟨va, rfl, ⟨a6, cap6, rfl, _⟩, _, hb6⟩
                          have HB6 := Lib.hid hb6
                          clear hb6
                          go_wp2_with fail
                          go_roundg (m - (k + 1))
                          case measure => have := HG.out; omega
                          case rel => exact ⟨k + 1, by omega, rfl, by go_num, ys, by rw [HCY.out], HO5.out.keep HO5.out.below.size HB6.out⟩
                      | true =>
                        have bT : (t.toList == s.toList) = hit := by rw [str_beq]; exact HTK.out k1 rfl
                        clear k1
                        cases hit with
                        | false =>
                          go_wp2_with fail
                          refine C5.out.mono ?_
                          rintro e w' ⟨rfl, rfl⟩
                          rcases H3.out with ⟨r1, r2⟩ | ⟨r1, r2⟩ | ⟨r1, r2, r3⟩
                          · have hcmp : decide ((1 : Int) < (ys.length : Int)) = false := decide_eq_false (by omega)
                            have hlim : ¬ (1 : Int) < (ys.length : Int) := by omega
                            clear r2
                            go_wp2_with fail
                            refine A5.out.mono ?_
                            rintro e w6 ⟨va, rfl, ⟨a6, cap6, rfl, _⟩, _, hb6⟩
                            have HB6 := Lib.hid hb6
                            clear hb6
                            go_wp2_with fail
                            go_roundg (m - (k + 1))
                            case measure => have := HG.out; omega
                            case rel => exact ⟨k + 1, by omega, rfl, by go_num, ys, by rw [HCY.out], HO5.out.keep HO5.out.below.size HB6.out⟩
                          · have hcmp : decide ((64 : Int) < (ys.length : Int)) = false := decide_eq_false (by omega)
                            have hlim : ¬ (64 : Int) < (ys.length : Int) := by omega
                            clear r2
                            go_wp2_with fail
                            refine A5.out.mono ?_
                            rintro e w6 ⟨va, rfl, ⟨a6, cap6, rfl, _⟩, _, hb6⟩
                            have HB6 := Lib.hid hb6
                            clear hb6
                            go_wp2_with fail
                            go_roundg (m - (k + 1))
                            case measure => have := HG.out; omega
                            case rel => exact ⟨k + 1, by omega, rfl, by go_num, ys, by rw [HCY.out], HO5.out.keep HO5.out.below.size HB6.out⟩
                          · have hcmp : decide (room < (ys.length : Int)) = false := decide_eq_false (by omega)
                            have hlim : ¬ room < (ys.length : Int) := by omega
                            clear r3
                            go_wp2_with fail
                            refine A5.out.mono ?_
                            rintro e w6 ⟨va, rfl, ⟨a6, cap6, rfl, _⟩, _, hb6⟩
                            have HB6 := Lib.hid hb6
                            clear hb6
                            go_wp2_with fail
                            go_roundg (m - (k + 1))
                            case measure => have := HG.out; omega
                            case rel => exact ⟨k + 1, by omega, rfl, by go_num, ys, by rw [HCY.out], HO5.out.keep HO5.out.below.size HB6.out⟩
                        | true =>
                          go_wp2_with fail
                          refine C5.out.mono ?_
                          rintro e w' ⟨rfl, rfl⟩
                          rcases H3.out with ⟨r1, r2⟩ | ⟨r1, r2⟩ | ⟨r1, r2, r3⟩
                          · have hcmp : decide ((1 : Int) < (ys.length : Int)) = false := decide_eq_false (by omega)
                            have hlim : ¬ (1 : Int) < (ys.length : Int) := by omega
                            clear r2
                            go_wp2_with fail
                            refine A5.out.mono ?_
                            rintro e w6 ⟨va, rfl, ⟨a6, cap6, rfl, _⟩, _, hb6⟩
                            have HB6 := Lib.hid hb6
                            clear hb6
                            go_wp2_with fail
                            go_roundg (m - (k + 1))
                            case measure => have := HG.out; omega
                            case rel => exact ⟨k + 1, by omega, rfl, by go_num, ys, by rw [HCY.out], HO5.out.keep HO5.out.below.size HB6.out⟩
                          · have hcmp : decide ((64 : Int) < (ys.length : Int)) = false := decide_eq_false (by omega)
                            have hlim : ¬ (64 : Int) < (ys.length : Int) := by omega
                            clear r2
                            go_wp2_with fail
                            refine A5.out.mono ?_
                            rintro e w6 ⟨va, rfl, ⟨a6, cap6, rfl, _⟩, _, hb6⟩
                            have HB6 := Lib.hid hb6
                            clear hb6
                            go_wp2_with fail
                            go_roundg (m - (k + 1))
                            case measure => have := HG.out; omega
                            case rel => exact ⟨k + 1, by omega, rfl, by go_num, ys, by rw [HCY.out], HO5.out.keep HO5.out.below.size HB6.out⟩
                          · have hcmp : decide (room < (ys.length : Int)) = false := decide_eq_false (by omega)
                            have hlim : ¬ room < (ys.length : Int) := by omega
                            clear r3
                            go_wp2_with fail
                            refine A5.out.mono ?_
                            rintro e w6 ⟨va, rfl, ⟨a6, cap6, rfl, _⟩, _, hb6⟩
                            have HB6 := Lib.hid hb6
                            clear hb6
                            go_wp2_with fail
                            go_roundg (m - (k + 1))
                            case measure => have := HG.out; omega
                            case rel => exact ⟨k + 1, by omega, rfl, by go_num, ys, by rw [HCY.out], HO5.out.keep HO5.out.below.size HB6.out⟩
                    · have b1 : (K == 1) = false := by rw [beq_eq_false_iff_ne]; exact k1
                      clear k1
                      go_wp2_with fail
                      refine C5.out.mono ?_
                      rintro e w' ⟨rfl, rfl⟩
                      rcases H3.out with ⟨r1, r2⟩ | ⟨r1, r2⟩ | ⟨r1, r2, r3⟩
                      · have hcmp : decide ((1 : Int) < (ys.length : Int)) = false := decide_eq_false (by omega)
                        have hlim : ¬ (1 : Int) < (ys.length : Int) := by omega
                        clear r2
                        go_wp2_with fail
                        refine A5.out.mono ?_
                        rintro e w6 ⟨va, rfl, ⟨a6, cap6, rfl, _⟩, _, hb6⟩
                        have HB6 := Lib.hid hb6
                        clear hb6
                        go_wp2_with fail
                        go_roundg (m - (k + 1))
                        case measure => have := HG.out; omega
                        case rel => exact ⟨k + 1, by omega, rfl, by go_num, ys, by rw [HCY.out], HO5.out.keep HO5.out.below.size HB6.out⟩
                      · have hcmp : decide ((64 : Int) < (ys.length : Int)) = false := decide_eq_false (by omega)
                        have hlim : ¬ (64 : Int) < (ys.length : Int) := by omega
                        clear r2
                        go_wp2_with fail
                        refine A5.out.mono ?_
                        rintro e w6 ⟨va, rfl, ⟨a6, cap6, rfl, _⟩, _, hb6⟩
                        have HB6 := Lib.hid hb6
                        clear hb6
                        go_wp2_with fail
                        go_roundg (m - (k + 1))
                        case measure => have := HG.out; omega
                        case rel => exact ⟨k + 1, by omega, rfl, by go_num, ys, by rw [HCY.out], HO5.out.keep HO5.out.below.size HB6.out⟩
                      · have hcmp : decide (room < (ys.length : Int)) = false := decide_eq_false (by omega)
                        have hlim : ¬ room < (ys.length : Int) := by omega
                        clear r3
                        go_wp2_with fail
                        refine A5.out.mono ?_
                        rintro e w6 ⟨va, rfl, ⟨a6, cap6, rfl, _⟩, _, hb6⟩
                        have HB6 := Lib.hid hb6
                        clear hb6
                        go_wp2_with fail
                        go_roundg (m - (k + 1))
                        case measure => have := HG.out; omega
                        case rel => exact ⟨k + 1, by omega, rfl, by go_num, ys, by rw [HCY.out], HO5.out.keep HO5.out.below.size HB6.out⟩
        · have b1 : ¬ (k : Int) < (m : Int) := by omega
          go_wp2_with fail
          go_ret
          exact ⟨rfl, hown.below⟩
    · have hsz' : (100 : Int) < (s.size : Int) := by omega
      go_wp2_with fail
      go_ret
      exact ⟨rfl, H2.out.below⟩

set_option maxRecDepth 100000 in
theorem meshCounts_lifted (os : Os) (started : os.Started) (H : Type) (enc : TypeId × Value → H) :
    ReturnsInHanded {} Try.checked os 4 .any (Rows.meshCountsSpec.pre6 enc Try.prog Try.f4 Rows.meshCountsRow.domain false) (Rows.meshCountsSpec.post enc Try.prog Try.f4 false true false false) := by
  refine returnsInHanded_of_change (C := Try.checked) own started (by kernel_rfl) Try.func4
    (ChangeSpec.witness6 (enc := enc) (C := Try.checked) false ⟨#[], #[.int .i64 0, .slice none 0 0, .string .empty], []⟩ 8 (by kernel_rfl) (by kernel_rfl) (by kernel_rfl) (by kernel_rfl)) ?_
  intro W base args ds gs before hval0 hW hcnd _
  have hval : ∀ (j : Nat) t v, Try.f4.params[j]? = some t → args[j]? = some v → Value.okWide Try.prog W .any base t v := hval0
  have hW' := hW
  obtain ⟨p, q, hA0, hV, rfl, hfz, hnd⟩ := hW
  have hA : DataW.TrodAll enc Try.prog W 0 (fun _ => true) true Try.f4.params.toList args.toList ds p := hA0
  rw [Try.params4] at hA hval
  obtain ⟨v0, vs0, d0, ds0, p0, q0, hargs, rfl, rfl, h0, r0⟩ := trodAll_cons hA
  obtain ⟨v1, vs1, d1, ds1, p1, q1, rfl, rfl, rfl, h1, r1⟩ := trodAll_cons r0
  obtain ⟨v2, vs2, d2, ds2, p2, q2, rfl, rfl, rfl, h2, r2⟩ := trodAll_cons r1
  obtain ⟨rfl, rfl, rfl⟩ := trodAll_nil r2
  obtain rfl : args = #[v0, v1, v2] := by cases args; simp_all
  obtain ⟨rfl, rfl⟩ := trodVars_none hV
  obtain ⟨room, rfl, rfl, rfl, w0⟩ := open_int Try.underlying3 (hval 0 3 v0 rfl rfl) h0
  have b0 := Go.bounds_i64 w0
  obtain ⟨a1, len1, cap1, rfl⟩ := okWide_slice Try.underlying22 (hval 1 22 v1 rfl rfl)
  have k1 := h1
  have lt1 : ∀ x ∈ p1, x.block < W.heap.size := by obtain ⟨m, hm⟩ := k1; exact DataW.trod_lt m _ _ _ hm
  obtain ⟨l, hs1, hlen1⟩ : ∃ l, ActsAt W (.slice a1 len1 cap1) l ∧ l.length ≤ maxLen := by
    obtain ⟨fuel, hf⟩ := h1
    obtain ⟨v, xs, hv, h2, h3⟩ := acts_of hf
    simp [Value.cells] at hv
    subst hv
    exact ⟨xs, h2, h3⟩
  obtain ⟨s, rfl, rfl, rfl, w2⟩ := open_string Try.underlying9 (hval 2 9 v2 rfl rfl) h2
  clear hA0 hval0
  refine (counts_any room l _ s W b0.1 b0.2 hs1 hlen1 w2).mono fun e W' ⟨he, bel⟩ => ?_
  subst he
  exact ⟨_, rfl, _, _, _, [], _, [], hW', trodAll_mk1 (shut_bool Try.underlying4 _), (trodAll_cons_mk (shut_int Try.underlying3 w0) (trodAll_cons_mk (Below.trod laidOut (by kernel_rfl) (of_decide_eq_true (by kernel_rfl)) k1 bel lt1) (trodAll_cons_mk (shut_string Try.underlying9 w2) trodAll_mk0))), rfl, bel.frame _, fun h => by cases h⟩

theorem meshCounts_holds : Rows.MeshCountsSaid :=
  OpenClaim.holds_of_wide 4 Try.f4 rfl rfl rfl rfl rfl rfl rfl ⟨rfl, rfl, rfl, rfl, rfl⟩ rfl rfl rfl rfl rfl (by kernel_rfl) Try.func4 (by kernel_rfl)
    (of_decide_eq_true (by kernel_rfl)) (by unfold Func.isWrapper; first | (rw [if_pos (by decide +kernel)]; kernel_rfl) | (rw [if_neg (by decide +kernel)]; exact ⟨rfl, rfl⟩))
    (fun os started H enc _ => meshCounts_lifted os started H enc)
#print axioms meshCounts_holds
end Go.Proofs.Ytgfklfpjibjhmaa

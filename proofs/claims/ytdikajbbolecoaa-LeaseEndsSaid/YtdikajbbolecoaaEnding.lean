/-
  LeaseEnds, proved for every input: just those end whose lease is over; they are told once, and are expired from then on; the others stay as they are. No condition.
-/
import Derived.Test.YtdikajbbolecoaaSet
import Derived.WalkMore
import Derived.ScopeJumps
import Derived.Deep.CutBlock
import Derived.Deep.DeepCutAuto
namespace Go.Proofs.Ytdikajbbolecoaa
open Go.ChangeShapes Go.WideShapes Go.ChangeAt Go.RowKit
open Go.ChangeMaps (open_string shut_string)
set_option linter.unusedVariables false
set_option linter.unusedSimpArgs false

set_option maxHeartbeats 4000000 in
set_option maxRecDepth 100000 in
theorem ends_any (most term : Int) (l : List ActD) (v : Value) (clock : Int) (w : World) (hmost1 : -9223372036854775808 ≤ most) (hmost2 : most ≤ 9223372036854775807) (hterm1 : -9223372036854775808 ≤ term) (hterm2 : term ≤ 9223372036854775807) (h : ActsAt w v l) (hm : l.length ≤ maxLen) (hclock1 : -9223372036854775808 ≤ clock) (hclock2 : clock ≤ 9223372036854775807) :
    Calls Try.prog 4 #[.int .i64 most, .int .i64 term, v, .int .i64 clock] w (BelowPost w (.bool true)) := by
  have hB := Nat.le_refl w.heap.size
  have DF := fun (w' : World) (ha : ActsAt w' v l) => few_any w' v l ha hm
  unfold maxLen at hm
  have HA := Lib.hid (fun (w' : World) (hb : Below w.heap.size w w') => acts_below h hb)
  obtain ⟨a0, cap, rfl, hc⟩ := h
  obtain ⟨n, hmm⟩ : ∃ n, n = l.length := ⟨_, rfl⟩
  rw [← hmm] at HA DF ⊢
  have HN := Lib.hid hmm
  have HF := Lib.hid DF
  have hm' : n ≤ 9223372036854775807 := by omega
  have D0 := Lib.hid (works_any w)
  clear hm hc hmm DF
  go_enter Try.func4, Try.ntmps4
  go_wp2_with fail
  refine D0.out.mono ?_
  rintro e w1 ⟨rfl, hb1⟩
  have DN := Lib.hid (new_any most term w1 hmost1 hmost2 hterm1 hterm2)
  have hs1 := hb1.size
  have HB1 := Lib.hid hb1
  clear hb1 D0
  go_wp2_with fail
  refine DN.out.mono ?_
  rintro e w2 ⟨rfl, hT, hb2⟩
  have hO : Own w.heap.size w w2 w1.heap.size emptyM (emptyT (mostI most) (termI term)) := own_new hT hb2 (by unfold mostI; omega) (by unfold termI; omega) (by unfold termI; omega) hs1 HB1.out
  have ha := HA.out w2 hO.below
  obtain ⟨tb, htb⟩ : ∃ tb, tb = w1.heap.size := ⟨_, rfl⟩
  rw [← htb] at hO ⊢
  have HO := Lib.hid hO
  have DFW := Lib.hid (HF.out _ ha)
  clear hO hT hb2 htb DN ha HF
  go_wp2_with fail
  refine DFW.out.mono ?_
  rintro e w3 ⟨ok, rfl, hok, hw⟩
  have hw' := hw.symm
  subst hw'
  clear hw DFW
  cases ok with
  | false =>
    clear hok
    go_wp2_with fail
    go_ret
    exact ⟨rfl, HO.out.below⟩
  | true =>
    obtain ⟨hn60, hfit⟩ := hok rfl
    rw [← HN.out] at hn60
    have HFIT := Lib.hid hfit
    clear hok hfit
    by_cases g0 : clock < 0
    · skip
      have gd0 : decide (clock < 0) = true := decide_eq_true g0
      go_wp2_with fail
      go_ret
      exact ⟨rfl, HO.out.below⟩
    by_cases g1 : 1000000 < clock
    · skip
      have gd0 : decide (clock < 0) = false := decide_eq_false g0
      have gd1 : decide (1000000 < clock) = true := decide_eq_true g1
      go_wp2_with fail
      go_ret
      exact ⟨rfl, HO.out.below⟩
    have gd0 : decide (clock < 0) = false := decide_eq_false g0
    have gd1 : decide (1000000 < clock) = false := decide_eq_false g1
    go_wp2_with fail
    go_loopw [12] (fun si wr => ∃ (k : Nat) (m : Mem) (t' : Tb), k ≤ n ∧ si = .int .i64 k ∧ Own w.heap.size w wr tb m t' ∧ t'.opened ≤ k) (fun si _ => n - (intOf si).toNat)
    case atStart => exact ⟨0, _, _, Nat.zero_le _, rfl, HO.out, Nat.le_refl _⟩
    case round =>
      obtain ⟨k, m, t', hk, rfl, hO, hop⟩ := hrel
      clear HO
      by_cases hkn : k < n
      · obtain ⟨x, hx⟩ : ∃ x, l[k]? = some x := ⟨_, List.getElem?_eq_getElem (by rw [← HN.out]; exact hkn)⟩
        obtain ⟨a', cap', hv, hcells⟩ := HA.out wr hO.below
        obtain ⟨b, o, rfl, q0, q1, q2, q3, q4, q5⟩ := hcells k x hx
        simp only [Value.slice.injEq] at hv
        obtain ⟨rfl, hnl0, rfl⟩ := hv
        clear hnl0
        have D := do_any w.heap.size w wr tb m t' x hO hB (HFIT.out x (List.mem_of_getElem? hx))
        unfold ActD.val at D
        have D := Lib.hid D
        have y1 : (k : Int) < (n : Int) := by omega
        have HOP : Hid ((doT t' x).opened ≤ k + 1) := Lib.hid (doT_opened t' x k hop)
        clear hx hcells hO
        go_wp2_with fail
        refine D.out.mono ?_
        rintro e w5 ⟨E, N, s, S0, S1, S2, S3, all, rfl, _, _, m', hO', _, _⟩
        have HO' := Lib.hid hO'
        clear hO'
        go_wp2_with fail
        exact ⟨⟨k + 1, m', doT t' x, by omega, by go_num, HO'.out, HOP.out⟩, by simp [intOf]; omega⟩
      · have y1 : ¬ (k : Int) < (n : Int) := by omega
        have hl4 : t'.l.length ≤ 4 := Nat.le_trans hO.at_.fits hO.at_.hi
        obtain ⟨hex, hpo, hpn⟩ := ends_plain t' hO.inv hl4 clock
        obtain ⟨i29, hi29, hz29, hs29, hb29⟩ := info_parts info29
        have DA := Lib.hid hO.all
        have HOr := Lib.hid hO
        obtain ⟨A, hA⟩ : ∃ A, A = t'.l := ⟨_, rfl⟩
        obtain ⟨T, hT⟩ : ∃ T, T = (expireS t' clock).1 := ⟨_, rfl⟩
        have hE : (expireS t' clock).2 = A.filter (over clock) := by rw [hA]; rfl
        have hTl : T.l = A.filter (fun x => !over clock x) := by rw [hT, hA]; rfl
        rw [← hT] at hex hpo hpn
        rw [← hA] at hpo hpn DA hl4
        have HPO := Lib.hid hpo
        have HPN := Lib.hid hpn
        have HEX := Lib.hid hex
        have HT := Lib.hid hT
        have HE := Lib.hid hE
        have HTL := Lib.hid hTl
        clear hO hop hex hpo hpn hA hT hE hTl g0 g1
        go_wp2_with fail
        refine DA.out.mono ?_
        rintro e w1 ⟨va, rfl, hra, hva, hb1⟩
        have R1 := (RowsAt.nil w.heap.size wr tb m).all HOr.out hB hb1 hra hva
        have hO1 := HOr.out.keep hB hb1
        have DE := hO1.expire hB clock
        rw [← HT.out, HE.out] at DE
        have DE := Lib.hid DE
        have HO1 := Lib.hid hO1
        have HR1 := Lib.hid R1
        clear hra hva hb1 R1 hO1 HOr DA
        go_wp2_with fail
        refine DE.out.mono ?_
        rintro e w2 ⟨ve, rfl, hre, hve, m2, hO2, hs2, hk2, hn2⟩
        have R2 := HR1.out.ended HO1.out hB hk2 hre hve hn2
        have DG := hO2.expire hB clock
        rw [HEX.out] at DG
        have DG := Lib.hid DG
        have HO2 := Lib.hid hO2
        have HR2 := Lib.hid R2
        clear hre hve hO2 hs2 hk2 hn2 R2 HR1 HO1 DE
        go_wp2_with fail
        refine DG.out.mono ?_
        rintro e w3 ⟨vg, rfl, hrg, _, m3, hO3, hs3, hk3, _⟩
        have R3 := HR2.out.own hk3
        obtain ⟨ga, gc, rfl⟩ := hrg.shape
        have hsh : ∃ a cap, va = .slice a A.length cap := (R3.each (va, A) (by simp)).1.shape
        obtain ⟨aa, ac, rfl⟩ := hsh
        have HO3 := Lib.hid hO3
        have HR3 := Lib.hid R3.empty.empty
        clear hrg hO3 hs3 hk3 R3 HR2 HO2 DG
        obtain ⟨nl, hnl⟩ : ∃ nl, nl = A.length := ⟨_, rfl⟩
        rw [← hnl] at hl4
        have HNL := Lib.hid hnl
        rw [← hnl]
        clear hnl
        go_wp2_with fail
        go_loopw [16, 17, 18] (fun s16 s17 s18 wq => ∃ (j : Nat) (m : Mem), j ≤ nl ∧ s18 = .int .i64 j ∧ Own w.heap.size w wq tb m T ∧ RowsAt w.heap.size wq tb m [(s16, (A.take j).filter (over clock)), (s17, (A.take j).filter (fun x => !over clock x)), (ve, A.filter (over clock)), (.slice aa A.length ac, A)]) (fun _ _ s18 _ => nl - (intOf s18).toNat)
        case atStart => exact ⟨0, _, Nat.zero_le _, rfl, HO3.out, HR3.out⟩
        case round =>
          obtain ⟨j, m4, hj, rfl, hO4, hR4⟩ := hrel
          have HO4 := Lib.hid hO4
          have HR4 := Lib.hid hR4
          clear hO4 hR4 HO3 HR3
          by_cases hjn : j < nl
          · obtain ⟨x, hx⟩ : ∃ x, A[j]? = some x := ⟨_, List.getElem?_eq_getElem (by rw [← HNL.out]; exact hjn)⟩
            have hxm := List.mem_of_getElem? hx
            have CA := Lib.hid (fun (w5 : World) (m5 : Mem) (s1 s2 : Value × List Sess) (h : RowsAt w.heap.size w5 tb m5 [s1, s2, (ve, A.filter (over clock)), (.slice aa A.length ac, A)]) => row_sess (h.each (.slice aa A.length ac, A) (by simp)).1 hx)
            obtain ⟨g1, o1, c1, hv, r0, r1, r2, r3⟩ := CA.out _ _ _ _ HR4.out
            simp only [Value.slice.injEq] at hv
            obtain ⟨rfl, hnl0, rfl⟩ := hv
            clear hnl0
            have v1 : (j : Int) < (nl : Int) := by omega
            have hts1 : (A.take (j + 1)).filter (over clock) = (A.take j).filter (over clock) ++ if over clock x then [x] else [] := by
              rw [List.take_add_one, hx, List.filter_append]
              cases h : over clock x <;> simp [h]
            have hts2 : (A.take (j + 1)).filter (fun x => !over clock x) = (A.take j).filter (fun x => !over clock x) ++ if over clock x then [] else [x] := by
              rw [List.take_add_one, hx, List.filter_append]
              cases h : over clock x <;> simp [h]
            have hlw : ((A.take j).filter (over clock)).length ≤ 4 := Nat.le_trans (List.length_filter_le _ _) (by rw [List.length_take]; omega)
            have hll : ((A.take j).filter (fun x => !over clock x)).length ≤ 4 := Nat.le_trans (List.length_filter_le _ _) (by rw [List.length_take]; omega)
            by_cases ho : over clock x = true
            · have hpo := HPO.out x hxm ho
              have hle : decide (x.dead ≤ clock) = true := ho
              rw [if_pos ho] at hts1
              rw [if_pos ho, List.append_nil] at hts2
              have HS1 := Lib.hid hts1
              have HS2 := Lib.hid hts2
              have HF := Lib.hid (expired_find hpo)
              have HRN := Lib.hid (expired_renew hpo)
              have HROWX := Lib.hid (HR4.out.each (_, (A.take j).filter (over clock)) List.mem_cons_self).1
              clear hx hxm hts1 hts2 hpo ho hll
              go_wp2_with (at_builtin; refine wpList_append_off rfl (.tmp 85) (.tmp 90) 30 30 29 rfl i29 _ 4 32 Try.underlying30 hi29 hz29 hs29 hb29 rfl _ ((A.take j).filter (over clock)).length (flatS ((A.take j).filter (over clock))) rfl (offRow_same HROWX.out fun k hk => Below.heap_alloc _ _ _ hk) 1 [.int .i64 x.id, .int .i64 x.block, .int .i64 x.dead, .int .i64 x.last] (src_sess _ _ _ _ _) (by omega) (by unfold maxLen; omega) (by omega) ?_)
              intro v5 w5 ho5 hg5 hn5
              obtain ⟨hR5, hO5⟩ := HR4.out.append HO4.out hB _ hg5 ho5 (by simpa using hn5)
              obtain ⟨va5, vc5, rfl⟩ := ho5.shape
              obtain ⟨g2, o2, c2, hv, p0, p1, p2, p3⟩ := CA.out _ _ _ _ hR5
              simp only [Value.slice.injEq, Option.some.injEq, Addr.mk.injEq, and_true, true_and] at hv
              obtain ⟨⟨rfl, rfl⟩, rfl⟩ := hv
              have DF := hO5.find x.id 0
              rw [HF.out] at DF
              have DF := Lib.hid DF
              have HO5 := Lib.hid hO5
              have HR5 := Lib.hid hR5
              clear hg5 ho5 hn5 hR5 hO5 HO4 HR4 HROWX r0 r1 r2 r3 p1 p2 p3 hlw
              go_wp2_with fail
              refine DF.out.mono ?_
              rintro e w6 ⟨rfl, hb6⟩
              have hb7 := hb6.alloc hb6.size (.cells #[.int .i64 0, .int .i64 0, .int .i64 0, .int .i64 0] 29)
              go_upto_region 23 with fail
              obtain ⟨w7, hw7⟩ : ∃ w7, w7 = w6.alloc (.cells #[.int .i64 0, .int .i64 0, .int .i64 0, .int .i64 0] 29) := ⟨_, rfl⟩
              rw [← hw7] at hb7 ⊢
              have hR7 := HR5.out.below hb7
              have hO7 := HO5.out.keep hB hb7
              obtain ⟨g2, o2, c2, hv, q0, q1, q2, q3⟩ := CA.out _ _ _ _ hR7
              simp only [Value.slice.injEq, Option.some.injEq, Addr.mk.injEq, and_true, true_and] at hv
              obtain ⟨⟨rfl, rfl⟩, rfl⟩ := hv
              have DR := hO7.renew hB x.id 0 (by omega) (by omega)
              rw [HRN.out] at DR
              have DR := Lib.hid DR
              have HR7 := Lib.hid hR7
              clear hb6 hb7 hw7 hR7 hO7 HO5 HR5 DF p0 q1 q2 q3
              go_wp2_with fail
              refine DR.out.mono ?_
              rintro e w8 ⟨rfl, m8, hO8, hs8, hk8⟩
              have HO8 := Lib.hid hO8
              have HR8 := Lib.hid (HR7.out.own hk8)
              clear hO8 hs8 hk8 HR7 DR q0
              go_wp2_with fail
              refine ⟨⟨j + 1, m8, by omega, by go_num, HO8.out, ?_⟩, by simp [intOf]; omega⟩
              have := HR8.out
              rw [← HS1.out, ← HS2.out] at this
              exact this
            · have ho' : over clock x = false := by simpa using ho
              have hpn := HPN.out x hxm ho'
              have hle : decide (x.dead ≤ clock) = false := ho'
              rw [if_neg ho, List.append_nil] at hts1
              rw [if_neg ho] at hts2
              have HS1 := Lib.hid hts1
              have HS2 := Lib.hid hts2
              have HF := Lib.hid hpn
              have HROWX := Lib.hid (HR4.out.swap.each (_, (A.take j).filter (fun x => !over clock x)) List.mem_cons_self).1
              clear hx hxm hts1 hts2 hpn ho ho' hlw
              go_wp2_with (at_builtin; refine wpList_append_off rfl (.tmp 115) (.tmp 120) 30 30 29 rfl i29 _ 4 32 Try.underlying30 hi29 hz29 hs29 hb29 rfl _ ((A.take j).filter (fun x => !over clock x)).length (flatS ((A.take j).filter (fun x => !over clock x))) rfl (offRow_same HROWX.out fun k hk => Below.heap_alloc _ _ _ hk) 1 [.int .i64 x.id, .int .i64 x.block, .int .i64 x.dead, .int .i64 x.last] (src_sess _ _ _ _ _) (by omega) (by unfold maxLen; omega) (by omega) ?_)
              intro v5 w5 ho5 hg5 hn5
              obtain ⟨hR5, hO5⟩ := HR4.out.swap.append HO4.out hB _ hg5 ho5 (by simpa using hn5)
              have hR5 := hR5.swap
              obtain ⟨va5, vc5, rfl⟩ := ho5.shape
              obtain ⟨g2, o2, c2, hv, p0, p1, p2, p3⟩ := CA.out _ _ _ _ hR5
              simp only [Value.slice.injEq, Option.some.injEq, Addr.mk.injEq, and_true, true_and] at hv
              obtain ⟨⟨rfl, rfl⟩, rfl⟩ := hv
              have DF := hO5.find x.id clock
              rw [HF.out] at DF
              unfold Sess.val sessV at DF
              have DF := Lib.hid DF
              have HO5 := Lib.hid hO5
              have HR5 := Lib.hid hR5
              clear hg5 ho5 hn5 hR5 hO5 HO4 HR4 HROWX r0 r1 r2 r3 p1 p2 p3 hll
              go_wp2_with fail
              refine DF.out.mono ?_
              rintro e w6 ⟨rfl, hb6⟩
              have hb7 := hb6.alloc hb6.size (.cells #[.int .i64 x.id, .int .i64 x.block, .int .i64 x.dead, .int .i64 x.last] 29)
              go_upto_region 28 with fail
              obtain ⟨w7, hw7⟩ : ∃ w7, w7 = w6.alloc (.cells #[.int .i64 x.id, .int .i64 x.block, .int .i64 x.dead, .int .i64 x.last] 29) := ⟨_, rfl⟩
              have e7 : w7.heap[w6.heap.size]? = some (.cells #[.int .i64 x.id, .int .i64 x.block, .int .i64 x.dead, .int .i64 x.last] 29 (0, 0)) := by rw [hw7]; exact heap_alloc_new w6 _
              rw [← hw7] at hb7 ⊢
              have s0 : w7.cell? ⟨w6.heap.size, 0, none⟩ = some (.int .i64 x.id) := by simp only [World.cell?, e7]; rfl
              have s1 : w7.cell? ⟨w6.heap.size, 1, none⟩ = some (.int .i64 x.block) := by simp only [World.cell?, e7]; rfl
              have s2 : w7.cell? ⟨w6.heap.size, 2, none⟩ = some (.int .i64 x.dead) := by simp only [World.cell?, e7]; rfl
              have s3 : w7.cell? ⟨w6.heap.size, 3, none⟩ = some (.int .i64 x.last) := by simp only [World.cell?, e7]; rfl
              have hR7 := HR5.out.below hb7
              have hO7 := HO5.out.keep hB hb7
              obtain ⟨g2, o2, c2, hv, q0, q1, q2, q3⟩ := CA.out _ _ _ _ hR7
              simp only [Value.slice.injEq, Option.some.injEq, Addr.mk.injEq, and_true, true_and] at hv
              obtain ⟨⟨rfl, rfl⟩, rfl⟩ := hv
              have HO7 := Lib.hid hO7
              have HR7 := Lib.hid hR7
              clear hb6 hb7 hw7 e7 hR7 hO7 HO5 HR5 DF p0
              go_quiet (fail)
              go_wp2_with fail
              refine ⟨⟨j + 1, m4, by omega, by go_num, HO7.out.drewN hB _, ?_⟩, by simp [intOf]; omega⟩
              have := HR7.out.below (below_drewN w7 nq)
              rw [← HS1.out, ← HS2.out] at this
              exact this
          · have v1 : ¬ (j : Int) < (nl : Int) := by omega
            have hjn : (A.take j) = A := List.take_of_length_le (by rw [← HNL.out]; omega)
            have hO4 := HO4.out
            have hR4 := HR4.out
            rw [hjn] at hR4
            have DS := Lib.hid (same_true _ _ _ (A.filter (over clock)) (hR4.each (ve, A.filter (over clock)) (by simp)).1 (hR4.each (_, A.filter (over clock)) List.mem_cons_self).1 (Nat.le_trans (List.length_filter_le _ _) (by rw [← HNL.out]; omega)))
            have HO4 := Lib.hid hO4
            have HR4 := Lib.hid hR4
            clear hO4 hR4 hjn
            go_wp2_with fail
            refine DS.out.mono ?_
            rintro e w5 ⟨rfl, q5, hw5⟩
            have hb5 := below_drewN wr q5
            rw [← hw5] at hb5
            have hO5 := HO4.out.keep hB hb5
            have hR5 := HR4.out.below hb5
            have DA := Lib.hid hO5.all
            have HO5 := Lib.hid hO5
            have HR5 := Lib.hid hR5
            clear hw5 hb5 hO5 hR5 HO4 HR4 DS
            go_wp2_with fail
            refine DA.out.mono ?_
            rintro e w6 ⟨vb, rfl, hrb, hvb, hb6⟩
            rw [HTL.out] at hrb
            have hO6 := HO5.out.keep hB hb6
            have hR6 := HR5.out.below hb6
            have DS := Lib.hid (same_true _ _ _ (A.filter (fun x => !over clock x)) hrb (hR6.swap.each (_, A.filter (fun x => !over clock x)) List.mem_cons_self).1 (Nat.le_trans (List.length_filter_le _ _) (by rw [← HNL.out]; omega)))
            have HO6 := Lib.hid hO6
            clear hrb hvb hb6 hR6 hO6 HO5 HR5 DA
            go_wp2_with fail
            refine DS.out.mono ?_
            rintro e w7 ⟨rfl, q7, hw7⟩
            have hb7 := below_drewN w6 q7
            rw [← hw7] at hb7
            have HO7 := Lib.hid (HO6.out.keep hB hb7)
            clear hw7 hb7 HO6 DS
            go_wp2_with fail
            go_ret
            exact ⟨rfl, HO7.out.below⟩

set_option maxRecDepth 100000 in
theorem leaseEnds_lifted (os : Os) (started : os.Started) (H : Type) (enc : TypeId × Value → H) :
    ReturnsInHanded {} Try.checked os 4 .any (Rows.leaseEndsSpec.pre6 enc Try.prog Try.f4 Rows.leaseEndsRow.domain false) (Rows.leaseEndsSpec.post enc Try.prog Try.f4 false true false false) := by
  refine returnsInHanded_of_change (C := Try.checked) own started (by kernel_rfl) Try.func4
    (ChangeSpec.witness6 (enc := enc) (C := Try.checked) false ⟨#[], #[.int .i64 0, .int .i64 0, .slice none 0 0, .int .i64 0], []⟩ 8 (by kernel_rfl) (by kernel_rfl) (by kernel_rfl) (by kernel_rfl)) ?_
  intro W base args ds gs before hval0 hW hcnd _
  have hval : ∀ (j : Nat) t v, Try.f4.params[j]? = some t → args[j]? = some v → Value.okWide Try.prog W .any base t v := hval0
  have hW' := hW
  obtain ⟨p, q, hA0, hV, rfl, hfz, hnd⟩ := hW
  have hA : DataW.TrodAll enc Try.prog W 0 (fun _ => true) true Try.f4.params.toList args.toList ds p := hA0
  rw [Try.params4] at hA hval
  obtain ⟨v0, vs0, d0, ds0, p0, q0, hargs, rfl, rfl, h0, r0⟩ := trodAll_cons hA
  obtain ⟨v1, vs1, d1, ds1, p1, q1, rfl, rfl, rfl, h1, r1⟩ := trodAll_cons r0
  obtain ⟨v2, vs2, d2, ds2, p2, q2, rfl, rfl, rfl, h2, r2⟩ := trodAll_cons r1
  obtain ⟨v3, vs3, d3, ds3, p3, q3, rfl, rfl, rfl, h3, r3⟩ := trodAll_cons r2
  obtain ⟨rfl, rfl, rfl⟩ := trodAll_nil r3
  obtain rfl : args = #[v0, v1, v2, v3] := by cases args; simp_all
  obtain ⟨rfl, rfl⟩ := trodVars_none hV
  obtain ⟨most, rfl, rfl, rfl, w0⟩ := open_int Try.underlying3 (hval 0 3 v0 rfl rfl) h0
  have b0 := Go.bounds_i64 w0
  obtain ⟨term, rfl, rfl, rfl, w1⟩ := open_int Try.underlying3 (hval 1 3 v1 rfl rfl) h1
  have b1 := Go.bounds_i64 w1
  obtain ⟨a2, len2, cap2, rfl⟩ := okWide_slice Try.underlying22 (hval 2 22 v2 rfl rfl)
  have k2 := h2
  have lt2 : ∀ x ∈ p2, x.block < W.heap.size := by obtain ⟨m, hm⟩ := k2; exact DataW.trod_lt m _ _ _ hm
  obtain ⟨l, hs2, hlen2⟩ : ∃ l, ActsAt W (.slice a2 len2 cap2) l ∧ l.length ≤ maxLen := by
    obtain ⟨fuel, hf⟩ := h2
    obtain ⟨v, xs, hv, h2, h3⟩ := acts_of hf
    simp [Value.cells] at hv
    subst hv
    exact ⟨xs, h2, h3⟩
  obtain ⟨clock, rfl, rfl, rfl, w3⟩ := open_int Try.underlying3 (hval 3 3 v3 rfl rfl) h3
  have b3 := Go.bounds_i64 w3
  clear hA0 hval0
  refine (ends_any most term l _ clock W b0.1 b0.2 b1.1 b1.2 hs2 hlen2 b3.1 b3.2).mono fun e W' ⟨he, bel⟩ => ?_
  subst he
  exact ⟨_, rfl, _, _, _, [], _, [], hW', trodAll_mk1 (shut_bool Try.underlying4 _), (trodAll_cons_mk (shut_int Try.underlying3 w0) (trodAll_cons_mk (shut_int Try.underlying3 w1) (trodAll_cons_mk (Below.trod laidOut (by kernel_rfl) (of_decide_eq_true (by kernel_rfl)) k2 bel lt2) (trodAll_cons_mk (shut_int Try.underlying3 w3) trodAll_mk0)))), rfl, bel.frame _, fun h => by cases h⟩

theorem leaseEnds_holds : Rows.LeaseEndsSaid :=
  OpenClaim.holds_of_wide 4 Try.f4 rfl rfl rfl rfl rfl rfl rfl ⟨rfl, rfl, rfl, rfl, rfl⟩ rfl rfl rfl rfl rfl (by kernel_rfl) Try.func4 (by kernel_rfl)
    (of_decide_eq_true (by kernel_rfl)) (by unfold Func.isWrapper; first | (rw [if_pos (by decide +kernel)]; kernel_rfl) | (rw [if_neg (by decide +kernel)]; exact ⟨rfl, rfl⟩))
    (fun os started H enc _ => leaseEnds_lifted os started H enc)
#print axioms leaseEnds_holds
end Go.Proofs.Ytdikajbbolecoaa

/-
  LeaseReleases, proved for every input: what is released is there no more, by any call; the others stay as they are; and there is room for one more. No condition.
-/
import Derived.Test.YtdikajbbolecoaaRelp
import Derived.WalkMore
import Derived.ScopeJumps
import Derived.Deep.CutBlock
import Derived.Deep.DeepCutAuto
namespace Go.Proofs.Ytdikajbbolecoaa
open Go.ChangeShapes Go.WideShapes Go.ChangeAt Go.RowKit
open Go.ChangeMaps (open_string shut_string)
set_option linter.unusedVariables false
set_option linter.unusedSimpArgs false

set_option maxHeartbeats 4000000 in
set_option maxRecDepth 100000 in
theorem releases_any (most term : Int) (l : List ActD) (v : Value) (id clock : Int) (w : World) (hmost1 : -9223372036854775808 ≤ most) (hmost2 : most ≤ 9223372036854775807) (hterm1 : -9223372036854775808 ≤ term) (hterm2 : term ≤ 9223372036854775807) (h : ActsAt w v l) (hm : l.length ≤ maxLen) (hid1 : -9223372036854775808 ≤ id) (hid2 : id ≤ 9223372036854775807) (hclock1 : -9223372036854775808 ≤ clock) (hclock2 : clock ≤ 9223372036854775807) :
    Calls Try.prog 6 #[.int .i64 most, .int .i64 term, v, .int .i64 id, .int .i64 clock] w (BelowPost w (.bool true)) := by
  have hB := Nat.le_refl w.heap.size
  have DF := fun (w' : World) (ha : ActsAt w' v l) => few_any w' v l ha hm
  unfold maxLen at hm
  have HA := Lib.hid (fun (w' : World) (hb : Below w.heap.size w w') => acts_below h hb)
  obtain ⟨a0, cap, rfl, hc⟩ := h
  obtain ⟨n, hmm⟩ : ∃ n, n = l.length := ⟨_, rfl⟩
  rw [← hmm] at HA DF ⊢
  have HN := Lib.hid hmm
  have HF := Lib.hid DF
  have hm' : n ≤ 9223372036854775807 := by omega
  have D0 := Lib.hid (works_any w)
  clear hm hc hmm DF
  go_enter Try.func6, Try.ntmps6
  go_wp2_with fail
  refine D0.out.mono ?_
  rintro e w1 ⟨rfl, hb1⟩
  have DN := Lib.hid (new_any most term w1 hmost1 hmost2 hterm1 hterm2)
  have hs1 := hb1.size
  have HB1 := Lib.hid hb1
  clear hb1 D0
  go_wp2_with fail
  refine DN.out.mono ?_
  rintro e w2 ⟨rfl, hT, hb2⟩
  have hO : Own w.heap.size w w2 w1.heap.size emptyM (emptyT (mostI most) (termI term)) := own_new hT hb2 (by unfold mostI; omega) (by unfold termI; omega) (by unfold termI; omega) hs1 HB1.out
  have ha := HA.out w2 hO.below
  obtain ⟨tb, htb⟩ : ∃ tb, tb = w1.heap.size := ⟨_, rfl⟩
  rw [← htb] at hO ⊢
  have HO := Lib.hid hO
  have DFW := Lib.hid (HF.out _ ha)
  clear hO hT hb2 htb DN ha HF
  go_wp2_with fail
  refine DFW.out.mono ?_
  rintro e w3 ⟨ok, rfl, hok, hw⟩
  have hw' := hw.symm
  subst hw'
  clear hw DFW
  cases ok with
  | false =>
    clear hok
    go_wp2_with fail
    go_ret
    exact ⟨rfl, HO.out.below⟩
  | true =>
    obtain ⟨hn60, hfit⟩ := hok rfl
    rw [← HN.out] at hn60
    have HFIT := Lib.hid hfit
    clear hok hfit
    by_cases g0 : clock < 0
    · skip
      have gd0 : decide (clock < 0) = true := decide_eq_true g0
      go_wp2_with fail
      go_ret
      exact ⟨rfl, HO.out.below⟩
    by_cases g1 : 1000000 < clock
    · skip
      have gd0 : decide (clock < 0) = false := decide_eq_false g0
      have gd1 : decide (1000000 < clock) = true := decide_eq_true g1
      go_wp2_with fail
      go_ret
      exact ⟨rfl, HO.out.below⟩
    have gd0 : decide (clock < 0) = false := decide_eq_false g0
    have gd1 : decide (1000000 < clock) = false := decide_eq_false g1
    go_wp2_with fail
    go_loopw [14] (fun si wr => ∃ (k : Nat) (m : Mem) (t' : Tb), k ≤ n ∧ si = .int .i64 k ∧ Own w.heap.size w wr tb m t' ∧ t'.opened ≤ k ∧ Fresh t') (fun si _ => n - (intOf si).toNat)
    case atStart => exact ⟨0, _, _, Nat.zero_le _, rfl, HO.out, Nat.le_refl _, fresh_empty _ _⟩
    case round =>
      obtain ⟨k, m, t', hk, rfl, hO, hop, hfr⟩ := hrel
      clear HO
      by_cases hkn : k < n
      · obtain ⟨x, hx⟩ : ∃ x, l[k]? = some x := ⟨_, List.getElem?_eq_getElem (by rw [← HN.out]; exact hkn)⟩
        obtain ⟨a', cap', hv, hcells⟩ := HA.out wr hO.below
        obtain ⟨b, o, rfl, q0, q1, q2, q3, q4, q5⟩ := hcells k x hx
        simp only [Value.slice.injEq] at hv
        obtain ⟨rfl, hnl0, rfl⟩ := hv
        clear hnl0
        have D := do_any w.heap.size w wr tb m t' x hO hB (HFIT.out x (List.mem_of_getElem? hx))
        unfold ActD.val at D
        have D := Lib.hid D
        have y1 : (k : Int) < (n : Int) := by omega
        have HFR := Lib.hid (hfr.do_ hO.inv x); have HOP : Hid ((doT t' x).opened ≤ k + 1) := Lib.hid (doT_opened t' x k hop)
        clear hx hcells hO hfr
        go_wp2_with fail
        refine D.out.mono ?_
        rintro e w5 ⟨E, N, s, S0, S1, S2, S3, all, rfl, _, _, m', hO', _, _⟩
        have HO' := Lib.hid hO'
        clear hO'
        go_wp2_with fail
        exact ⟨⟨k + 1, m', doT t' x, by omega, by go_num, HO'.out, HOP.out, HFR.out⟩, by simp [intOf]; omega⟩
      · have y1 : ¬ (k : Int) < (n : Int) := by omega
        have hl4 : t'.l.length ≤ 4 := Nat.le_trans hO.at_.fits hO.at_.hi
        have hpl := rel_plain t' hO.inv hfr hO.at_.fits (by omega) id clock
        obtain ⟨i29, hi29, hz29, hs29, hb29⟩ := info_parts info29
        have DF := hO.find id clock
        have HOr := Lib.hid hO
        obtain ⟨A, hA⟩ : ∃ A, A = t'.l := ⟨_, rfl⟩
        rw [← hA] at hl4
        have HAA := Lib.hid hA
        have hcl0 : 0 ≤ clock := by omega
        have hcl1 : clock ≤ 1000000 := by omega
        clear hO hop hfr g0 g1 hA
        rcases hpl with ⟨c, f0, f1, f2, f3, hc0, hfi, hre⟩ | ⟨y, hym, hfi, hre, h1, h2, h3, h4⟩
        · rw [hfi] at DF
          have DF := Lib.hid DF
          have HRE := Lib.hid hre
          have e1 : (c == 0) = false := by rw [beq_eq_false_iff_ne]; exact hc0
          have e2 : (c == c) = true := by simp
          clear hfi hre hc0
          go_wp2_with fail
          refine DF.out.mono ?_
          rintro e w5 ⟨rfl, hb5⟩
          have hb6 := hb5.alloc hb5.size (.cells #[.int .i64 f0, .int .i64 f1, .int .i64 f2, .int .i64 f3] 29)
          have hO6 := HOr.out.keep hB hb6
          have DA := Lib.hid hO6.all
          have HO6 := Lib.hid hO6
          clear hb5 hb6 hO6 HOr DF
          go_wp2_with fail
          refine DA.out.mono ?_
          rintro e w7 ⟨va, rfl, hra, hva, hb7⟩
          have R7 := (RowsAt.nil w.heap.size _ tb m).all HO6.out hB hb7 hra hva
          have hO7 := HO6.out.keep hB hb7
          have DR := hO7.release hB id clock
          rw [HRE.out] at DR
          have DR := Lib.hid DR
          have HR7 := Lib.hid R7
          clear hra hva hb7 R7 hO7 HO6 DA
          go_wp2_with fail
          refine DR.out.mono ?_
          rintro e w8 ⟨rfl, m8, hO8, hs8, hk8⟩
          have R8 := HR7.out.own hk8
          have DA := Lib.hid hO8.all
          have HO8 := Lib.hid hO8
          have HR8 := Lib.hid R8
          clear hO8 hs8 hk8 R8 HR7 DR
          go_wp2_with fail
          refine DA.out.mono ?_
          rintro e w9 ⟨vb, rfl, hrb, hvb, hb9⟩
          have R9 := HR8.out.below hb9
          have hO9 := HO8.out.keep hB hb9
          have DS := Lib.hid (same_true _ _ _ t'.l hrb (R9.each (va, t'.l) (by simp)).1 (by rw [← HAA.out]; omega))
          have HO9 := Lib.hid hO9
          clear hrb hvb hb9 R9 hO9 HO8 HR8 DA
          go_wp2_with fail
          refine DS.out.mono ?_
          rintro e w10 ⟨rfl, q10, hw10⟩
          have hb10 := below_drewN w9 q10
          rw [← hw10] at hb10
          have HO10 := Lib.hid (HO9.out.keep hB hb10)
          clear hw10 hb10 HO9 DS
          go_wp2_with fail
          go_ret
          exact ⟨rfl, HO10.out.below⟩
        · rw [hfi] at DF
          have DF := Lib.hid DF
          have HRE := Lib.hid hre
          have HH1 := Lib.hid h1
          have HH2 := Lib.hid h2
          have HH3 := Lib.hid h3
          have HH4 := Lib.hid h4
          have hwl : (without t' id).l = (A.filter fun x => !decide (x.id = id)) := by rw [HAA.out]; rfl
          have HWL := Lib.hid hwl
          clear hfi hre h1 h2 h3 h4 hym hwl
          go_wp2_with fail
          refine DF.out.mono ?_
          rintro e w5 ⟨rfl, hb5⟩
          have hb6 := hb5.alloc hb5.size (.cells #[.int .i64 y.id, .int .i64 y.block, .int .i64 y.dead, .int .i64 y.last] 29)
          have e6 := heap_alloc_new w5 (.cells #[.int .i64 y.id, .int .i64 y.block, .int .i64 y.dead, .int .i64 y.last] 29)
          go_upto_region 13 with fail
          obtain ⟨w6, hw6⟩ : ∃ w6, w6 = w5.alloc (.cells #[.int .i64 y.id, .int .i64 y.block, .int .i64 y.dead, .int .i64 y.last] 29) := ⟨_, rfl⟩
          rw [← hw6] at hb6 e6 ⊢
          obtain ⟨bx, hbx⟩ : ∃ bx, bx = w5.heap.size := ⟨_, rfl⟩
          rw [← hbx] at e6 ⊢
          have hO6 := HOr.out.keep hB hb6
          have R6 : RowsAt w.heap.size w6 tb m [(.slice (some ⟨bx, 0, none⟩) 1 1, [y])] := (RowsAt.nil w.heap.size w6 tb m).cons (s := bx) (fun r hr => (by cases hr)) (box_row e6) (fun k hk => by simp [Value.ownBlock] at hk; omega) (fun k hk => by
            simp [Value.ownBlock] at hk
            have := hb5.size
            have := HOr.out.below.size
            exact ⟨HOr.out.fresh (by omega), by omega⟩)
          have DA := hO6.all
          rw [← HAA.out] at DA
          have DA := Lib.hid DA
          have HO6 := Lib.hid hO6
          have HR6 := Lib.hid R6
          clear hb5 hb6 e6 hw6 hbx hO6 R6 HOr DF
          go_wp2_with fail
          refine DA.out.mono ?_
          rintro e w7 ⟨va, rfl, hra, hva, hb7⟩
          have R7 := HR6.out.all HO6.out hB hb7 hra hva
          have hO7 := HO6.out.keep hB hb7
          have DR := hO7.release hB id clock
          rw [HRE.out] at DR
          have DR := Lib.hid DR
          have HR7 := Lib.hid R7
          clear hra hva hb7 R7 hO7 HO6 HR6 DA
          go_wp2_with fail
          refine DR.out.mono ?_
          rintro e w8 ⟨rfl, m8, hO8, hs8, hk8⟩
          have R8 := HR7.out.own hk8
          have hsh : ∃ a cap, va = .slice a A.length cap := (R8.each (va, A) (by simp)).1.shape
          obtain ⟨aa, ac, rfl⟩ := hsh
          obtain ⟨T, hT⟩ : ∃ T, T = without t' id := ⟨_, rfl⟩
          rw [← hT] at hO8 HH1 HH2 HH3 HH4 HWL
          have HO8 := Lib.hid hO8
          have HR8 := Lib.hid R8.empty
          clear hO8 hs8 hk8 R8 HR7 DR HRE hT
          obtain ⟨nl, hnl⟩ : ∃ nl, nl = A.length := ⟨_, rfl⟩
          rw [← hnl] at hl4
          have HNL := Lib.hid hnl
          rw [← hnl]
          clear hnl
          go_wp2_with fail
          go_loopw [20, 21] (fun s20 s21 wq => ∃ (j : Nat), j ≤ nl ∧ s21 = .int .i64 j ∧ Own w.heap.size w wq tb m8 T ∧ RowsAt w.heap.size wq tb m8 [(s20, ((A.take j).filter fun x => !decide (x.id = id))), (.slice aa A.length ac, A), (.slice (some ⟨bx, 0, none⟩) 1 1, [y])]) (fun _ s21 _ => nl - (intOf s21).toNat)
          case atStart => exact ⟨0, Nat.zero_le _, rfl, HO8.out, HR8.out⟩
          case round =>
            obtain ⟨j, hj, rfl, hO4, hR4⟩ := hrel
            have HO4 := Lib.hid hO4
            have HR4 := Lib.hid hR4
            clear hO4 hR4 HO8 HR8
            by_cases hjn : j < nl
            · obtain ⟨x, hx⟩ : ∃ x, A[j]? = some x := ⟨_, List.getElem?_eq_getElem (by rw [← HNL.out]; exact hjn)⟩
              obtain ⟨g1, o1, c1, hv, r0, r1, r2, r3⟩ := row_sess (HR4.out.each (.slice aa A.length ac, A) (by simp)).1 hx
              simp only [Value.slice.injEq] at hv
              obtain ⟨rfl, hnl0, rfl⟩ := hv
              clear hnl0
              have v1 : (j : Int) < (nl : Int) := by omega
              have hts : ((A.take (j + 1)).filter fun x => !decide (x.id = id)) = ((A.take j).filter fun x => !decide (x.id = id)) ++ if x.id = id then [] else [x] := by
                rw [List.take_add_one, hx, List.filter_append]
                by_cases h : x.id = id <;> simp [h]
              have hlw : ((A.take j).filter fun x => !decide (x.id = id)).length ≤ 4 := Nat.le_trans (List.length_filter_le _ _) (by rw [List.length_take]; omega)
              by_cases ho : x.id = id
              · have hbe : (x.id == id) = true := by rw [beq_iff_eq]; exact ho
                rw [if_pos ho, List.append_nil] at hts
                have HTS := Lib.hid hts
                clear hts hx ho hlw
                go_wp2_with fail
                refine ⟨⟨j + 1, by omega, by go_num, HO4.out, ?_⟩, by simp [intOf]; omega⟩
                rw [HTS.out]
                exact HR4.out
              · have hbe : (x.id == id) = false := by rw [beq_eq_false_iff_ne]; exact ho
                rw [if_neg ho] at hts
                have HTS := Lib.hid hts
                have HROWX := Lib.hid (HR4.out.each (_, ((A.take j).filter fun x => !decide (x.id = id))) List.mem_cons_self).1
                clear hts hx ho
                go_wp2_with (at_builtin; refine wpList_append_off rfl (.tmp 111) (.tmp 116) 30 30 29 rfl i29 _ 4 32 Try.underlying30 hi29 hz29 hs29 hb29 rfl _ ((A.take j).filter fun x => !decide (x.id = id)).length (flatS ((A.take j).filter fun x => !decide (x.id = id))) rfl (offRow_same HROWX.out fun k hk => Below.heap_alloc _ _ _ hk) 1 [.int .i64 x.id, .int .i64 x.block, .int .i64 x.dead, .int .i64 x.last] (src_sess _ _ _ _ _) (by omega) (by unfold maxLen; omega) (by omega) ?_)
                intro v5 w5 ho5 hg5 hn5
                obtain ⟨hR5, hO5⟩ := HR4.out.append HO4.out hB _ hg5 ho5 (by simpa using hn5)
                obtain ⟨va5, vc5, rfl⟩ := ho5.shape
                have HO5 := Lib.hid hO5
                have HR5 := Lib.hid hR5
                clear hg5 ho5 hn5 hR5 hO5 HO4 HR4 HROWX r0 r1 r2 r3 hlw
                go_wp2_with fail
                refine ⟨⟨j + 1, by omega, by go_num, HO5.out, ?_⟩, by simp [intOf]; omega⟩
                rw [HTS.out]
                exact HR5.out
            · have v1 : ¬ (j : Int) < (nl : Int) := by omega
              have hjn : (A.take j) = A := List.take_of_length_le (by rw [← HNL.out]; omega)
              have hR4 := HR4.out
              rw [hjn] at hR4
              have DP := HO4.out.replay id 1
              rw [HH1.out] at DP
              have DP := Lib.hid DP
              have HR4 := Lib.hid hR4
              clear hR4 hjn
              go_wp2_with fail
              refine DP.out.mono ?_
              rintro e w5 ⟨rfl, hb5⟩
              have hO5 := HO4.out.keep hB hb5
              have DT := hO5.store hB id 1000000 ⟨#[120]⟩
              rw [HH2.out] at DT
              have DT := Lib.hid DT
              have HR5 := Lib.hid (HR4.out.below hb5)
              clear hO5 hb5 HO4 HR4 DP
              go_wp2_with fail
              refine DT.out.mono ?_
              rintro e w6 ⟨rfl, m6, hO6, hs6, hk6⟩
              have DN := hO6.renew hB id clock (by omega) (by omega)
              rw [HH3.out] at DN
              have DN := Lib.hid DN
              have HR6 := Lib.hid (HR5.out.own hk6)
              clear hO6 hs6 hk6 HR5 DT
              go_wp2_with fail
              refine DN.out.mono ?_
              rintro e w7 ⟨rfl, m7, hO7, hs7, hk7⟩
              have DA := Lib.hid hO7.all
              have HO7 := Lib.hid hO7
              have HR7 := Lib.hid (HR6.out.own hk7)
              clear hO7 hs7 hk7 HR6 DN
              go_wp2_with fail
              refine DA.out.mono ?_
              rintro e w8 ⟨vb, rfl, hrb, hvb, hb8⟩
              rw [HWL.out] at hrb
              have hR8 := HR7.out.below hb8
              have DS := Lib.hid (same_true _ _ _ (A.filter fun x => !decide (x.id = id)) hrb (hR8.each (_, (A.filter fun x => !decide (x.id = id))) List.mem_cons_self).1 (Nat.le_trans (List.length_filter_le _ _) (by rw [← HNL.out]; omega)))
              have HO8 := Lib.hid (HO7.out.keep hB hb8)
              have HR8 := Lib.hid hR8
              clear hrb hvb hb8 hR8 HO7 HR7 DA
              go_wp2_with fail
              refine DS.out.mono ?_
              rintro e w9 ⟨rfl, q9, hw9⟩
              have hb9 := below_drewN w8 q9
              rw [← hw9] at hb9
              have hO9 := HO8.out.keep hB hb9
              have DO := hO9.open_ hB 1 clock (by omega) (by omega)
              rw [HH4.out] at DO
              have DO := Lib.hid DO
              have HR9 := Lib.hid (HR8.out.below hb9)
              clear hw9 hb9 hO9 HO8 HR8 DS
              go_wp2_with fail
              refine DO.out.mono ?_
              rintro e w10 ⟨rfl, m10, hO10, hs10, hk10⟩
              have hR10 := HR9.out.own hk10
              obtain ⟨g1, o1, c1, hv, r0, r1, r2, r3⟩ := row_sess (i := 0) (hR10.each (.slice (some ⟨bx, 0, none⟩) 1 1, [y]) (List.mem_cons_of_mem _ (List.mem_cons_of_mem _ List.mem_cons_self))).1 rfl
              simp only [Value.slice.injEq, Option.some.injEq, Addr.mk.injEq, and_true, true_and] at hv
              obtain ⟨⟨rfl, rfl⟩, hc1⟩ := hv
              clear hc1
              simp only [Nat.zero_mul, Nat.zero_add] at r1
              have HO10 := Lib.hid hO10
              clear hO10 hs10 hk10 hR10 HR9 DO r0 r2 r3
              go_wp2_with fail
              go_ret
              exact ⟨rfl, HO10.out.below⟩

set_option maxRecDepth 100000 in
theorem leaseReleases_lifted (os : Os) (started : os.Started) (H : Type) (enc : TypeId × Value → H) :
    ReturnsInHanded {} Try.checked os 6 .any (Rows.leaseReleasesSpec.pre6 enc Try.prog Try.f6 Rows.leaseReleasesRow.domain false) (Rows.leaseReleasesSpec.post enc Try.prog Try.f6 false true false false) := by
  refine returnsInHanded_of_change (C := Try.checked) own started (by kernel_rfl) Try.func6
    (ChangeSpec.witness6 (enc := enc) (C := Try.checked) false ⟨#[], #[.int .i64 0, .int .i64 0, .slice none 0 0, .int .i64 0, .int .i64 0], []⟩ 8 (by kernel_rfl) (by kernel_rfl) (by kernel_rfl) (by kernel_rfl)) ?_
  intro W base args ds gs before hval0 hW hcnd _
  have hval : ∀ (j : Nat) t v, Try.f6.params[j]? = some t → args[j]? = some v → Value.okWide Try.prog W .any base t v := hval0
  have hW' := hW
  obtain ⟨p, q, hA0, hV, rfl, hfz, hnd⟩ := hW
  have hA : DataW.TrodAll enc Try.prog W 0 (fun _ => true) true Try.f6.params.toList args.toList ds p := hA0
  rw [Try.params6] at hA hval
  obtain ⟨v0, vs0, d0, ds0, p0, q0, hargs, rfl, rfl, h0, r0⟩ := trodAll_cons hA
  obtain ⟨v1, vs1, d1, ds1, p1, q1, rfl, rfl, rfl, h1, r1⟩ := trodAll_cons r0
  obtain ⟨v2, vs2, d2, ds2, p2, q2, rfl, rfl, rfl, h2, r2⟩ := trodAll_cons r1
  obtain ⟨v3, vs3, d3, ds3, p3, q3, rfl, rfl, rfl, h3, r3⟩ := trodAll_cons r2
  obtain ⟨v4, vs4, d4, ds4, p4, q4, rfl, rfl, rfl, h4, r4⟩ := trodAll_cons r3
  obtain ⟨rfl, rfl, rfl⟩ := trodAll_nil r4
  obtain rfl : args = #[v0, v1, v2, v3, v4] := by cases args; simp_all
  obtain ⟨rfl, rfl⟩ := trodVars_none hV
  obtain ⟨most, rfl, rfl, rfl, w0⟩ := open_int Try.underlying3 (hval 0 3 v0 rfl rfl) h0
  have b0 := Go.bounds_i64 w0
  obtain ⟨term, rfl, rfl, rfl, w1⟩ := open_int Try.underlying3 (hval 1 3 v1 rfl rfl) h1
  have b1 := Go.bounds_i64 w1
  obtain ⟨a2, len2, cap2, rfl⟩ := okWide_slice Try.underlying22 (hval 2 22 v2 rfl rfl)
  have k2 := h2
  have lt2 : ∀ x ∈ p2, x.block < W.heap.size := by obtain ⟨m, hm⟩ := k2; exact DataW.trod_lt m _ _ _ hm
  obtain ⟨l, hs2, hlen2⟩ : ∃ l, ActsAt W (.slice a2 len2 cap2) l ∧ l.length ≤ maxLen := by
    obtain ⟨fuel, hf⟩ := h2
    obtain ⟨v, xs, hv, h2, h3⟩ := acts_of hf
    simp [Value.cells] at hv
    subst hv
    exact ⟨xs, h2, h3⟩
  obtain ⟨id, rfl, rfl, rfl, w3⟩ := open_int Try.underlying3 (hval 3 3 v3 rfl rfl) h3
  have b3 := Go.bounds_i64 w3
  obtain ⟨clock, rfl, rfl, rfl, w4⟩ := open_int Try.underlying3 (hval 4 3 v4 rfl rfl) h4
  have b4 := Go.bounds_i64 w4
  clear hA0 hval0
  refine (releases_any most term l _ id clock W b0.1 b0.2 b1.1 b1.2 hs2 hlen2 b3.1 b3.2 b4.1 b4.2).mono fun e W' ⟨he, bel⟩ => ?_
  subst he
  exact ⟨_, rfl, _, _, _, [], _, [], hW', trodAll_mk1 (shut_bool Try.underlying4 _), (trodAll_cons_mk (shut_int Try.underlying3 w0) (trodAll_cons_mk (shut_int Try.underlying3 w1) (trodAll_cons_mk (Below.trod laidOut (by kernel_rfl) (of_decide_eq_true (by kernel_rfl)) k2 bel lt2) (trodAll_cons_mk (shut_int Try.underlying3 w3) (trodAll_cons_mk (shut_int Try.underlying3 w4) trodAll_mk0))))), rfl, bel.frame _, fun h => by cases h⟩

theorem leaseReleases_holds : Rows.LeaseReleasesSaid :=
  OpenClaim.holds_of_wide 6 Try.f6 rfl rfl rfl rfl rfl rfl rfl ⟨rfl, rfl, rfl, rfl, rfl⟩ rfl rfl rfl rfl rfl (by kernel_rfl) Try.func6 (by kernel_rfl)
    (of_decide_eq_true (by kernel_rfl)) (by unfold Func.isWrapper; first | (rw [if_pos (by decide +kernel)]; kernel_rfl) | (rw [if_neg (by decide +kernel)]; exact ⟨rfl, rfl⟩))
    (fun os started H enc _ => leaseReleases_lifted os started H enc)
#print axioms leaseReleases_holds
end Go.Proofs.Ytdikajbbolecoaa

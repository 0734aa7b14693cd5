/-
  LeaseRoom, proved for every input: there are never more sessions, and replies that are kept, than there may be; Ids rise, and none is given twice. No condition.
-/
import Derived.Test.YtdikajbbolecoaaOpen
import Derived.WalkMore
import Derived.ScopeJumps
import Derived.Deep.CutBlock
import Derived.Deep.DeepCutAuto
namespace Go.Proofs.Ytdikajbbolecoaa
open Go.ChangeShapes Go.WideShapes Go.ChangeAt Go.RowKit
open Go.ChangeMaps (open_string shut_string)
set_option linter.unusedVariables false
set_option linter.unusedSimpArgs false

theorem doT_most (t : Tb) (x : ActD) : (doT t x).most = t.most := by
  unfold doT
  split
  · unfold openS; split <;> rfl
  split
  · rfl
  split
  · unfold renewS setL
    split
    · split <;> rfl
    · rfl
  split
  · unfold repinS setL
    split
    · split <;> rfl
    · rfl
  split
  · unfold releaseS
    split
    · split <;> rfl
    · rfl
  split
  · rfl
  split
  · unfold storeS setL
    split
    · rfl
    · split
      · rfl
      · split <;> rfl
  · rfl
theorem doT_same (t : Tb) (x : ActD) (h : x.K ≠ 0) : (doT t x).opened = t.opened := by
  unfold doT
  rw [if_neg h]
  split
  · rfl
  split
  · unfold renewS setL
    split
    · split <;> rfl
    · rfl
  split
  · unfold repinS setL
    split
    · split <;> rfl
    · rfl
  split
  · unfold releaseS
    split
    · split <;> rfl
    · rfl
  split
  · rfl
  split
  · unfold storeS setL
    split
    · rfl
    · split
      · rfl
      · split <;> rfl
  · rfl
/-- What an act tells of the Ids. -/
theorem do_ids (t : Tb) (x : ActD) (E N : Int) (h : x.K = 0 → E = (openS t x.Block x.Clock).2.2 ∧ N = (openS t x.Block x.Clock).2.1) :
    (x.K ≠ 0 ∧ (doT t x).opened = t.opened) ∨ (x.K = 0 ∧ E = 12 ∧ (doT t x).opened = t.opened) ∨ (x.K = 0 ∧ E = 0 ∧ N = (t.opened : Int) + 1 ∧ (doT t x).opened = t.opened + 1) := by
  by_cases h0 : x.K = 0
  · obtain ⟨rfl, rfl⟩ := h h0
    have hd : doT t x = (openS t x.Block x.Clock).1 := by unfold doT; rw [if_pos h0]
    rw [hd]
    unfold openS
    split
    · exact .inr (.inl ⟨h0, rfl, rfl⟩)
    · exact .inr (.inr ⟨h0, rfl, rfl, rfl⟩)
  · exact .inl ⟨h0, doT_same t x h0⟩
theorem keptN_le : ∀ l : List Sess, (∀ x ∈ l, x.kept.length ≤ 2) → keptN l ≤ 2 * l.length
  | [], _ => by simp [keptN]
  | x :: l, h => by
    have ih := keptN_le l fun y hy => h y (List.mem_cons_of_mem _ hy)
    have hx := h x List.mem_cons_self
    unfold keptN at ih ⊢
    simp only [List.map_cons, List.sum_cons, List.length_cons]
    omega

set_option maxHeartbeats 4000000 in
set_option maxRecDepth 100000 in
theorem room_any (most term : Int) (l : List ActD) (v : Value) (w : World) (hmost1 : -9223372036854775808 ≤ most) (hmost2 : most ≤ 9223372036854775807) (hterm1 : -9223372036854775808 ≤ term) (hterm2 : term ≤ 9223372036854775807) (h : ActsAt w v l) (hm : l.length ≤ maxLen)  :
    Calls Try.prog 3 #[.int .i64 most, .int .i64 term, v] w (BelowPost w (.bool true)) := by
  have hB := Nat.le_refl w.heap.size
  have DF := fun (w' : World) (ha : ActsAt w' v l) => few_any w' v l ha hm
  unfold maxLen at hm
  have HA := Lib.hid (fun (w' : World) (hb : Below w.heap.size w w') => acts_below h hb)
  obtain ⟨a0, cap, rfl, hc⟩ := h
  obtain ⟨n, hmm⟩ : ∃ n, n = l.length := ⟨_, rfl⟩
  rw [← hmm] at HA DF ⊢
  have HN := Lib.hid hmm
  have HF := Lib.hid DF
  have hm' : n ≤ 9223372036854775807 := by omega
  have D0 := Lib.hid (works_any w)
  clear hm hc hmm DF
  go_enter Try.func3, Try.ntmps3
  go_wp2_with fail
  refine D0.out.mono ?_
  rintro e w1 ⟨rfl, hb1⟩
  have DN := Lib.hid (new_any most term w1 hmost1 hmost2 hterm1 hterm2)
  have hs1 := hb1.size
  have HB1 := Lib.hid hb1
  clear hb1 D0
  go_wp2_with fail
  refine DN.out.mono ?_
  rintro e w2 ⟨rfl, hT, hb2⟩
  have hO : Own w.heap.size w w2 w1.heap.size emptyM (emptyT (mostI most) (termI term)) := own_new hT hb2 (by unfold mostI; omega) (by unfold termI; omega) (by unfold termI; omega) hs1 HB1.out
  have ha := HA.out w2 hO.below
  obtain ⟨tb, htb⟩ : ∃ tb, tb = w1.heap.size := ⟨_, rfl⟩
  rw [← htb] at hO ⊢
  have HO := Lib.hid hO
  have DFW := Lib.hid (HF.out _ ha)
  clear hO hT hb2 htb DN ha HF
  go_wp2_with fail
  refine DFW.out.mono ?_
  rintro e w3 ⟨ok, rfl, hok, hw⟩
  have hw' := hw.symm
  subst hw'
  clear hw DFW
  cases ok with
  | false =>
    clear hok
    go_wp2_with fail
    go_ret
    exact ⟨rfl, HO.out.below⟩
  | true =>
    obtain ⟨hn60, hfit⟩ := hok rfl
    rw [← HN.out] at hn60
    have HFIT := Lib.hid hfit
    clear hok hfit
    go_wp2_with fail
    go_loopw [10, 11] (fun s10 si wr => ∃ (k : Nat) (m : Mem) (t' : Tb), k ≤ n ∧ si = .int .i64 k ∧ s10 = .int .i64 t'.opened ∧ Own w.heap.size w wr tb m t' ∧ t'.most = mostI most) (fun _ si _ => n - (intOf si).toNat)
    case atStart => exact ⟨0, _, _, Nat.zero_le _, rfl, rfl, HO.out, rfl⟩
    case round =>
      obtain ⟨k, m, t', hk, rfl, rfl, hO, hmo⟩ := hrel
      clear HO
      by_cases hkn : k < n
      · obtain ⟨x, hx⟩ : ∃ x, l[k]? = some x := ⟨_, List.getElem?_eq_getElem (by rw [← HN.out]; exact hkn)⟩
        obtain ⟨a', cap', hv, hcells⟩ := HA.out w (Below.refl _ w)
        obtain ⟨b, o, rfl, hcw⟩ := hcells k x hx
        simp only [Value.slice.injEq] at hv
        obtain ⟨rfl, hnl0, rfl⟩ := hv
        clear hnl0
        have CK := Lib.hid (fun (w' : World) (hb : Below w.heap.size w w') => act_cells hb hcw)
        obtain ⟨q0, q1, q2, q3, q4, q5⟩ := CK.out wr hO.below
        have D := do_any w.heap.size w wr tb m t' x hO hB (HFIT.out x (List.mem_of_getElem? hx))
        unfold ActD.val at D
        have D := Lib.hid D
        have y1 : (k : Int) < (n : Int) := by omega
        have HMO := Lib.hid ((doT_most t' x).trans hmo)
        have hop := hO.inv.opened
        have hopi : (t'.opened : Int) ≤ 1048576 := by omega
        clear hx hcells hO hcw hmo hop
        go_wp2_with fail
        refine D.out.mono ?_
        rintro e w5 ⟨E, N, s, S0, S1, S2, S3, _, rfl, ⟨ga, gn, gc, rfl⟩, hEN, m', hO', _, _⟩
        have hids := do_ids t' x E N hEN
        clear hEN q0 q1 q2 q3 q4 q5 D
        go_upto_region 13 with fail
        obtain ⟨w6, hw6⟩ : ∃ w6, w6 = w5.alloc (.cells #[.int .i64 E, .int .i64 N, .string s, .int .i64 S0, .int .i64 S1, .int .i64 S2, .int .i64 S3, .slice ga gn gc] 32) := ⟨_, rfl⟩
        have e6 : w6.heap[w5.heap.size]? = some (.cells #[.int .i64 E, .int .i64 N, .string s, .int .i64 S0, .int .i64 S1, .int .i64 S2, .int .i64 S3, .slice ga gn gc] 32 (0, 0)) := by rw [hw6]; exact heap_alloc_new w5 _
        have z0 : w6.cell? ⟨w5.heap.size, 0, none⟩ = some (.int .i64 E) := by simp only [World.cell?, e6]; rfl
        have z1 : w6.cell? ⟨w5.heap.size, 1, none⟩ = some (.int .i64 N) := by simp only [World.cell?, e6]; rfl
        have hO6 : Own w.heap.size w w6 tb m' (doT t' x) := by rw [hw6]; exact hO'.alloc hB _
        have q0 := (CK.out w6 hO6.below).1
        rw [← hw6]
        obtain ⟨T, hT⟩ : ∃ T, T = doT t' x := ⟨_, rfl⟩
        rw [← hT] at hO6 hids HMO
        have HT := Lib.hid hT
        have DA := Lib.hid hO6.all
        have HO6 := Lib.hid hO6
        have hmo := HMO.out
        have hfi := hO6.at_.fits
        have hkn := keptN_le _ hO6.inv.kept
        have DK := Lib.hid (fun (w7 : World) (hb : Below w6.heap.size w6 w7) => (hO6.keep hB hb).kept)
        obtain ⟨nl, hnl⟩ : ∃ nl, nl = T.l.length := ⟨_, rfl⟩
        have hl4 := hO6.at_.hi
        rw [← hnl] at hfi hkn
        have HNL := Lib.hid hnl
        have HHK := Lib.hid hkn
        have hki : ¬ (2 * (nl : Int) < (keptN T.l : Int)) := by omega
        have hkd : decide (2 * (nl : Int) < (keptN T.l : Int)) = false := decide_eq_false hki
        have hnl4 : (nl : Int) ≤ 4 := by omega
        clear hO' hO6 hw6 e6 hT hkn hnl hl4
        have hlast : (x.K = 0 ∧ E = 0 ∧ N = (t'.opened : Int) + 1 ∧ T.opened = t'.opened + 1) ∨ ((x.K ≠ 0 ∨ E = 12) ∧ T.opened = t'.opened) := by rcases hids with ⟨h1, h2⟩ | ⟨h1, h2, h3⟩ | ⟨h1, h2, h3, h4⟩ <;> simp [*]
        have HLA := Lib.hid hlast
        clear hlast
        rcases hids with ⟨h1, h2⟩ | ⟨h1, rfl, h2⟩ | ⟨h1, rfl, rfl, h2⟩
        · have h1b : (x.K == 0) = false := by rw [beq_eq_false_iff_ne]; exact h1
          skip
          have HOE := Lib.hid h2
          clear h1 h2 HLA
          go_wp2_with fail
          refine DA.out.mono ?_
          rintro e w7 ⟨sv, rfl, hrow, _, hb7⟩
          obtain ⟨sa, sc, rfl⟩ := hrow.shape
          have DK2 := Lib.hid (DK.out w7 hb7)
          have HROW := Lib.hid hrow
          have HO7 := Lib.hid (HO6.out.keep hB hb7)
          rw [← HNL.out]
          clear hrow hb7
          go_upto_region 18 with fail
          go_cut [79] (fun s79 wx => s79 = .bool false ∧ ∃ q, wx = w7.drewN q)
          case first =>
            rcases mostI_three most with ⟨r1, r2⟩ | ⟨r1, r2⟩ | ⟨r1, r1', r2⟩
            · have u1 : ¬ (1 : Int) < (nl : Int) := by omega
              have u2 : decide ((1 : Int) < (nl : Int)) = false := decide_eq_false u1
              clear hfi hmo r2
              go_wp2_with fail
              refine DK2.out.mono ?_
              rintro e w8 ⟨rfl, q, rfl⟩
              go_wp2_with fail
              go_meet
              exact ⟨rfl, q, rfl⟩
            · have u1 : ¬ (4 : Int) < (nl : Int) := by omega
              have u2 : decide ((4 : Int) < (nl : Int)) = false := decide_eq_false u1
              clear hfi hmo r2
              go_wp2_with fail
              refine DK2.out.mono ?_
              rintro e w8 ⟨rfl, q, rfl⟩
              go_wp2_with fail
              go_meet
              exact ⟨rfl, q, rfl⟩
            · have u1 : ¬ (most : Int) < (nl : Int) := by omega
              have u2 : decide ((most : Int) < (nl : Int)) = false := decide_eq_false u1
              clear hfi hmo r2
              go_wp2_with fail
              refine DK2.out.mono ?_
              rintro e w8 ⟨rfl, q, rfl⟩
              go_wp2_with fail
              go_meet
              exact ⟨rfl, q, rfl⟩
          case rest =>
            obtain ⟨rfl, q, hw⟩ := hcut
            have hw' := hw.symm
            subst hw'
            clear DK DK2 DA
            go_wp2_with fail
            go_loopw [14] (fun s14 wq => ∃ (j q : Nat), j ≤ nl ∧ s14 = .int .i64 j ∧ wq = w7.drewN q) (fun s14 _ => nl - (intOf s14).toNat)
            case atStart => exact ⟨0, q, Nat.zero_le _, rfl, rfl⟩
            case round =>
              obtain ⟨j, q', hj, rfl, rfl⟩ := hrel
              by_cases hjn : j < nl
              · obtain ⟨y, hy⟩ : ∃ y, T.l[j]? = some y := ⟨_, List.getElem?_eq_getElem (by rw [← HNL.out]; exact hjn)⟩
                obtain ⟨g1, o1, c1, hv, r0, r1, r2, r3⟩ := row_sess HROW.out hy
                simp only [Value.slice.injEq] at hv
                obtain ⟨rfl, hnl0, rfl⟩ := hv
                clear hnl0
                have hid := (HO7.out.inv.idb y (List.mem_of_getElem? hy)).2
                rw [HOE.out] at hid
                have v1 : (j : Int) < (nl : Int) := by omega
                have HY := Lib.hid hy
                clear hy r1 r2 r3
                by_cases hj0 : j = 0
                · subst hj0
                  have v2 : decide (((t'.opened : Int) : Int) < y.id) = false := decide_eq_false (by omega)
                  simp only [Nat.zero_mul, Nat.add_zero] at r0
                  go_wp2_with fail
                  go_quiet (fail)
                  go_wp2_with fail
                  exact ⟨⟨0 + 1, _, by omega, rfl, rfl⟩, by simp [intOf]; omega⟩
                · obtain ⟨p, hp⟩ : ∃ p, T.l[j - 1]? = some p := ⟨_, List.getElem?_eq_getElem (by rw [← HNL.out]; omega)⟩
                  obtain ⟨g1', o1', c1', hv, p0, p1, p2, p3⟩ := row_sess HROW.out hp
                  simp only [Value.slice.injEq, Option.some.injEq, Addr.mk.injEq, and_true, true_and] at hv
                  obtain ⟨⟨rfl, rfl⟩, rfl⟩ := hv
                  have hlt : p.id < y.id := by
                    obtain ⟨hi1, he1⟩ := List.getElem?_eq_some_iff.1 hp
                    obtain ⟨hi2, he2⟩ := List.getElem?_eq_some_iff.1 HY.out
                    have := List.pairwise_iff_getElem.1 HO7.out.inv.ids (j - 1) j hi1 hi2 (by omega)
                    rw [he1, he2] at this
                    exact this
                  have v2 : decide (((t'.opened : Int) : Int) < y.id) = false := decide_eq_false (by omega)
                  have v3 : decide ((0 : Int) < (j : Int)) = true := decide_eq_true (by omega)
                  have v4 : decide (y.id ≤ p.id) = false := decide_eq_false (by omega)
                  have v5 : (0 : Int) ≤ (j : Int) - 1 := by omega
                  have v6 : (j : Int) - 1 < (nl : Int) := by omega
                  have v7 : ((j : Int) - 1).toNat = j - 1 := by omega
                  have v8 : decide (0 < j) = true := decide_eq_true (by omega)
                  clear hp p1 p2 p3
                  go_wp2_with fail
                  go_quiet (fail)
                  go_wp2_with fail
                  exact ⟨⟨j + 1, _, by omega, by go_num, rfl⟩, by simp [intOf]; omega⟩
              · have v1 : ¬ (j : Int) < (nl : Int) := by omega
                go_wp2_with fail
                exact ⟨⟨k + 1, m', T, by omega, by go_num, by rw [HOE.out] <;> go_num, HO7.out.drewN hB _, HMO.out⟩, by simp [intOf]; omega⟩
        · have h1b : (x.K == 0) = true := by rw [beq_iff_eq]; exact h1
          skip
          have HOE := Lib.hid h2
          clear h1 h2 HLA
          go_wp2_with fail
          refine DA.out.mono ?_
          rintro e w7 ⟨sv, rfl, hrow, _, hb7⟩
          obtain ⟨sa, sc, rfl⟩ := hrow.shape
          have DK2 := Lib.hid (DK.out w7 hb7)
          have HROW := Lib.hid hrow
          have HO7 := Lib.hid (HO6.out.keep hB hb7)
          rw [← HNL.out]
          clear hrow hb7
          go_upto_region 18 with fail
          go_cut [79] (fun s79 wx => s79 = .bool false ∧ ∃ q, wx = w7.drewN q)
          case first =>
            rcases mostI_three most with ⟨r1, r2⟩ | ⟨r1, r2⟩ | ⟨r1, r1', r2⟩
            · have u1 : ¬ (1 : Int) < (nl : Int) := by omega
              have u2 : decide ((1 : Int) < (nl : Int)) = false := decide_eq_false u1
              clear hfi hmo r2
              go_wp2_with fail
              refine DK2.out.mono ?_
              rintro e w8 ⟨rfl, q, rfl⟩
              go_wp2_with fail
              go_meet
              exact ⟨rfl, q, rfl⟩
            · have u1 : ¬ (4 : Int) < (nl : Int) := by omega
              have u2 : decide ((4 : Int) < (nl : Int)) = false := decide_eq_false u1
              clear hfi hmo r2
              go_wp2_with fail
              refine DK2.out.mono ?_
              rintro e w8 ⟨rfl, q, rfl⟩
              go_wp2_with fail
              go_meet
              exact ⟨rfl, q, rfl⟩
            · have u1 : ¬ (most : Int) < (nl : Int) := by omega
              have u2 : decide ((most : Int) < (nl : Int)) = false := decide_eq_false u1
              clear hfi hmo r2
              go_wp2_with fail
              refine DK2.out.mono ?_
              rintro e w8 ⟨rfl, q, rfl⟩
              go_wp2_with fail
              go_meet
              exact ⟨rfl, q, rfl⟩
          case rest =>
            obtain ⟨rfl, q, hw⟩ := hcut
            have hw' := hw.symm
            subst hw'
            clear DK DK2 DA
            go_wp2_with fail
            go_loopw [14] (fun s14 wq => ∃ (j q : Nat), j ≤ nl ∧ s14 = .int .i64 j ∧ wq = w7.drewN q) (fun s14 _ => nl - (intOf s14).toNat)
            case atStart => exact ⟨0, q, Nat.zero_le _, rfl, rfl⟩
            case round =>
              obtain ⟨j, q', hj, rfl, rfl⟩ := hrel
              by_cases hjn : j < nl
              · obtain ⟨y, hy⟩ : ∃ y, T.l[j]? = some y := ⟨_, List.getElem?_eq_getElem (by rw [← HNL.out]; exact hjn)⟩
                obtain ⟨g1, o1, c1, hv, r0, r1, r2, r3⟩ := row_sess HROW.out hy
                simp only [Value.slice.injEq] at hv
                obtain ⟨rfl, hnl0, rfl⟩ := hv
                clear hnl0
                have hid := (HO7.out.inv.idb y (List.mem_of_getElem? hy)).2
                rw [HOE.out] at hid
                have v1 : (j : Int) < (nl : Int) := by omega
                have HY := Lib.hid hy
                clear hy r1 r2 r3
                by_cases hj0 : j = 0
                · subst hj0
                  have v2 : decide (((t'.opened : Int) : Int) < y.id) = false := decide_eq_false (by omega)
                  simp only [Nat.zero_mul, Nat.add_zero] at r0
                  go_wp2_with fail
                  go_quiet (fail)
                  go_wp2_with fail
                  exact ⟨⟨0 + 1, _, by omega, rfl, rfl⟩, by simp [intOf]; omega⟩
                · obtain ⟨p, hp⟩ : ∃ p, T.l[j - 1]? = some p := ⟨_, List.getElem?_eq_getElem (by rw [← HNL.out]; omega)⟩
                  obtain ⟨g1', o1', c1', hv, p0, p1, p2, p3⟩ := row_sess HROW.out hp
                  simp only [Value.slice.injEq, Option.some.injEq, Addr.mk.injEq, and_true, true_and] at hv
                  obtain ⟨⟨rfl, rfl⟩, rfl⟩ := hv
                  have hlt : p.id < y.id := by
                    obtain ⟨hi1, he1⟩ := List.getElem?_eq_some_iff.1 hp
                    obtain ⟨hi2, he2⟩ := List.getElem?_eq_some_iff.1 HY.out
                    have := List.pairwise_iff_getElem.1 HO7.out.inv.ids (j - 1) j hi1 hi2 (by omega)
                    rw [he1, he2] at this
                    exact this
                  have v2 : decide (((t'.opened : Int) : Int) < y.id) = false := decide_eq_false (by omega)
                  have v3 : decide ((0 : Int) < (j : Int)) = true := decide_eq_true (by omega)
                  have v4 : decide (y.id ≤ p.id) = false := decide_eq_false (by omega)
                  have v5 : (0 : Int) ≤ (j : Int) - 1 := by omega
                  have v6 : (j : Int) - 1 < (nl : Int) := by omega
                  have v7 : ((j : Int) - 1).toNat = j - 1 := by omega
                  have v8 : decide (0 < j) = true := decide_eq_true (by omega)
                  clear hp p1 p2 p3
                  go_wp2_with fail
                  go_quiet (fail)
                  go_wp2_with fail
                  exact ⟨⟨j + 1, _, by omega, by go_num, rfl⟩, by simp [intOf]; omega⟩
              · have v1 : ¬ (j : Int) < (nl : Int) := by omega
                go_wp2_with fail
                exact ⟨⟨k + 1, m', T, by omega, by go_num, by rw [HOE.out] <;> go_num, HO7.out.drewN hB _, HMO.out⟩, by simp [intOf]; omega⟩
        · have h1b : (x.K == 0) = true := by rw [beq_iff_eq]; exact h1
          skip
          have HOE := Lib.hid h2
          clear h1 h2 HLA
          go_wp2_with fail
          refine DA.out.mono ?_
          rintro e w7 ⟨sv, rfl, hrow, _, hb7⟩
          obtain ⟨sa, sc, rfl⟩ := hrow.shape
          have DK2 := Lib.hid (DK.out w7 hb7)
          have HROW := Lib.hid hrow
          have HO7 := Lib.hid (HO6.out.keep hB hb7)
          rw [← HNL.out]
          clear hrow hb7
          go_upto_region 18 with fail
          go_cut [79] (fun s79 wx => s79 = .bool false ∧ ∃ q, wx = w7.drewN q)
          case first =>
            rcases mostI_three most with ⟨r1, r2⟩ | ⟨r1, r2⟩ | ⟨r1, r1', r2⟩
            · have u1 : ¬ (1 : Int) < (nl : Int) := by omega
              have u2 : decide ((1 : Int) < (nl : Int)) = false := decide_eq_false u1
              clear hfi hmo r2
              go_wp2_with fail
              refine DK2.out.mono ?_
              rintro e w8 ⟨rfl, q, rfl⟩
              go_wp2_with fail
              go_meet
              exact ⟨rfl, q, rfl⟩
            · have u1 : ¬ (4 : Int) < (nl : Int) := by omega
              have u2 : decide ((4 : Int) < (nl : Int)) = false := decide_eq_false u1
              clear hfi hmo r2
              go_wp2_with fail
              refine DK2.out.mono ?_
              rintro e w8 ⟨rfl, q, rfl⟩
              go_wp2_with fail
              go_meet
              exact ⟨rfl, q, rfl⟩
            · have u1 : ¬ (most : Int) < (nl : Int) := by omega
              have u2 : decide ((most : Int) < (nl : Int)) = false := decide_eq_false u1
              clear hfi hmo r2
              go_wp2_with fail
              refine DK2.out.mono ?_
              rintro e w8 ⟨rfl, q, rfl⟩
              go_wp2_with fail
              go_meet
              exact ⟨rfl, q, rfl⟩
          case rest =>
            obtain ⟨rfl, q, hw⟩ := hcut
            have hw' := hw.symm
            subst hw'
            clear DK DK2 DA
            go_wp2_with fail
            go_loopw [14] (fun s14 wq => ∃ (j q : Nat), j ≤ nl ∧ s14 = .int .i64 j ∧ wq = w7.drewN q) (fun s14 _ => nl - (intOf s14).toNat)
            case atStart => exact ⟨0, q, Nat.zero_le _, rfl, rfl⟩
            case round =>
              obtain ⟨j, q', hj, rfl, rfl⟩ := hrel
              by_cases hjn : j < nl
              · obtain ⟨y, hy⟩ : ∃ y, T.l[j]? = some y := ⟨_, List.getElem?_eq_getElem (by rw [← HNL.out]; exact hjn)⟩
                obtain ⟨g1, o1, c1, hv, r0, r1, r2, r3⟩ := row_sess HROW.out hy
                simp only [Value.slice.injEq] at hv
                obtain ⟨rfl, hnl0, rfl⟩ := hv
                clear hnl0
                have hid := (HO7.out.inv.idb y (List.mem_of_getElem? hy)).2
                rw [HOE.out] at hid
                have v1 : (j : Int) < (nl : Int) := by omega
                have HY := Lib.hid hy
                clear hy r1 r2 r3
                by_cases hj0 : j = 0
                · subst hj0
                  have v2 : decide (((t'.opened : Int) + 1 : Int) < y.id) = false := decide_eq_false (by omega)
                  simp only [Nat.zero_mul, Nat.add_zero] at r0
                  go_wp2_with fail
                  go_quiet (fail)
                  go_wp2_with fail
                  exact ⟨⟨0 + 1, _, by omega, rfl, rfl⟩, by simp [intOf]; omega⟩
                · obtain ⟨p, hp⟩ : ∃ p, T.l[j - 1]? = some p := ⟨_, List.getElem?_eq_getElem (by rw [← HNL.out]; omega)⟩
                  obtain ⟨g1', o1', c1', hv, p0, p1, p2, p3⟩ := row_sess HROW.out hp
                  simp only [Value.slice.injEq, Option.some.injEq, Addr.mk.injEq, and_true, true_and] at hv
                  obtain ⟨⟨rfl, rfl⟩, rfl⟩ := hv
                  have hlt : p.id < y.id := by
                    obtain ⟨hi1, he1⟩ := List.getElem?_eq_some_iff.1 hp
                    obtain ⟨hi2, he2⟩ := List.getElem?_eq_some_iff.1 HY.out
                    have := List.pairwise_iff_getElem.1 HO7.out.inv.ids (j - 1) j hi1 hi2 (by omega)
                    rw [he1, he2] at this
                    exact this
                  have v2 : decide (((t'.opened : Int) + 1 : Int) < y.id) = false := decide_eq_false (by omega)
                  have v3 : decide ((0 : Int) < (j : Int)) = true := decide_eq_true (by omega)
                  have v4 : decide (y.id ≤ p.id) = false := decide_eq_false (by omega)
                  have v5 : (0 : Int) ≤ (j : Int) - 1 := by omega
                  have v6 : (j : Int) - 1 < (nl : Int) := by omega
                  have v7 : ((j : Int) - 1).toNat = j - 1 := by omega
                  have v8 : decide (0 < j) = true := decide_eq_true (by omega)
                  clear hp p1 p2 p3
                  go_wp2_with fail
                  go_quiet (fail)
                  go_wp2_with fail
                  exact ⟨⟨j + 1, _, by omega, by go_num, rfl⟩, by simp [intOf]; omega⟩
              · have v1 : ¬ (j : Int) < (nl : Int) := by omega
                go_wp2_with fail
                exact ⟨⟨k + 1, m', T, by omega, by go_num, by rw [HOE.out] <;> go_num, HO7.out.drewN hB _, HMO.out⟩, by simp [intOf]; omega⟩
      · have y1 : ¬ (k : Int) < (n : Int) := by omega
        go_wp2_with fail
        go_ret
        exact ⟨rfl, hO.below⟩

set_option maxRecDepth 100000 in
theorem leaseRoom_lifted (os : Os) (started : os.Started) (H : Type) (enc : TypeId × Value → H) :
    ReturnsInHanded {} Try.checked os 3 .any (Rows.leaseRoomSpec.pre6 enc Try.prog Try.f3 Rows.leaseRoomRow.domain false) (Rows.leaseRoomSpec.post enc Try.prog Try.f3 false true false false) := by
  refine returnsInHanded_of_change (C := Try.checked) own started (by kernel_rfl) Try.func3
    (ChangeSpec.witness6 (enc := enc) (C := Try.checked) false ⟨#[], #[.int .i64 0, .int .i64 0, .slice none 0 0], []⟩ 8 (by kernel_rfl) (by kernel_rfl) (by kernel_rfl) (by kernel_rfl)) ?_
  intro W base args ds gs before hval0 hW hcnd _
  have hval : ∀ (j : Nat) t v, Try.f3.params[j]? = some t → args[j]? = some v → Value.okWide Try.prog W .any base t v := hval0
  have hW' := hW
  obtain ⟨p, q, hA0, hV, rfl, hfz, hnd⟩ := hW
  have hA : DataW.TrodAll enc Try.prog W 0 (fun _ => true) true Try.f3.params.toList args.toList ds p := hA0
  rw [Try.params3] at hA hval
  obtain ⟨v0, vs0, d0, ds0, p0, q0, hargs, rfl, rfl, h0, r0⟩ := trodAll_cons hA
  obtain ⟨v1, vs1, d1, ds1, p1, q1, rfl, rfl, rfl, h1, r1⟩ := trodAll_cons r0
  obtain ⟨v2, vs2, d2, ds2, p2, q2, rfl, rfl, rfl, h2, r2⟩ := trodAll_cons r1
  obtain ⟨rfl, rfl, rfl⟩ := trodAll_nil r2
  obtain rfl : args = #[v0, v1, v2] := by cases args; simp_all
  obtain ⟨rfl, rfl⟩ := trodVars_none hV
  obtain ⟨most, rfl, rfl, rfl, w0⟩ := open_int Try.underlying3 (hval 0 3 v0 rfl rfl) h0
  have b0 := Go.bounds_i64 w0
  obtain ⟨term, rfl, rfl, rfl, w1⟩ := open_int Try.underlying3 (hval 1 3 v1 rfl rfl) h1
  have b1 := Go.bounds_i64 w1
  obtain ⟨a2, len2, cap2, rfl⟩ := okWide_slice Try.underlying22 (hval 2 22 v2 rfl rfl)
  have k2 := h2
  have lt2 : ∀ x ∈ p2, x.block < W.heap.size := by obtain ⟨m, hm⟩ := k2; exact DataW.trod_lt m _ _ _ hm
  obtain ⟨l, hs2, hlen2⟩ : ∃ l, ActsAt W (.slice a2 len2 cap2) l ∧ l.length ≤ maxLen := by
    obtain ⟨fuel, hf⟩ := h2
    obtain ⟨v, xs, hv, h2, h3⟩ := acts_of hf
    simp [Value.cells] at hv
    subst hv
    exact ⟨xs, h2, h3⟩
  clear hA0 hval0
  refine (room_any most term l _ W b0.1 b0.2 b1.1 b1.2 hs2 hlen2).mono fun e W' ⟨he, bel⟩ => ?_
  subst he
  exact ⟨_, rfl, _, _, _, [], _, [], hW', trodAll_mk1 (shut_bool Try.underlying4 _), (trodAll_cons_mk (shut_int Try.underlying3 w0) (trodAll_cons_mk (shut_int Try.underlying3 w1) (trodAll_cons_mk (Below.trod laidOut (by kernel_rfl) (of_decide_eq_true (by kernel_rfl)) k2 bel lt2) trodAll_mk0))), rfl, bel.frame _, fun h => by cases h⟩

theorem leaseRoom_holds : Rows.LeaseRoomSaid :=
  OpenClaim.holds_of_wide 3 Try.f3 rfl rfl rfl rfl rfl rfl rfl ⟨rfl, rfl, rfl, rfl, rfl⟩ rfl rfl rfl rfl rfl (by kernel_rfl) Try.func3 (by kernel_rfl)
    (of_decide_eq_true (by kernel_rfl)) (by unfold Func.isWrapper; first | (rw [if_pos (by decide +kernel)]; kernel_rfl) | (rw [if_neg (by decide +kernel)]; exact ⟨rfl, rfl⟩))
    (fun os started H enc _ => leaseRoom_lifted os started H enc)
#print axioms leaseRoom_holds
end Go.Proofs.Ytdikajbbolecoaa

/-
  The document's Offer.
-/
import Derived.Test.YtoeekjooigijbaaRforget
namespace Go.Proofs.Ytoeekjooigijbaa
open Go.RowKit
set_option linter.unusedVariables false
set_option linter.unusedSimpArgs false

theorem placeI_no {l : List Th} {k : ByteArray} (h : ¬ 0 ≤ placeI l k) : place l k = none := by
  unfold placeI at h
  cases hp : place l k with
  | none => rfl
  | some i => rw [hp] at h; simp at h
theorem offerS_yes {s : St} (h : Inv s) {k : ByteArray} (x : ByteArray) (hA : 0 ≤ placeI s.all k ∨ s.all.length < s.size) : offerS s k x = (⟨s.size, (k, x) :: others s.all k, s.cs, s.asked⟩, true) := by
  unfold offerS
  cases hp : place s.all k with
  | some i => simp only [others_at h.nd hp]
  | none =>
    rw [others_none hp]
    unfold placeI at hA
    rw [hp] at hA
    simp only
    rw [if_pos (hA.resolve_left (by simp))]
theorem offerS_zero {s : St} (h : Inv s) {k : ByteArray} (x : ByteArray) (hA : ¬ (0 ≤ placeI s.all k ∨ s.all.length < s.size)) (hs : s.size = 0) : offerS s k x = (⟨s.size, s.all, s.cs, s.asked⟩, false) := by
  have he : s.all = [] := List.eq_nil_of_length_eq_zero (by have := h.fits; omega)
  unfold offerS
  rw [placeI_no fun e => hA (.inl e)]
  simp [hs, he]
  obtain ⟨size, all, cs, asked⟩ := s
  simp only at hs he
  rw [hs, he]
theorem last_of {s : St} (h : Inv s) {k : ByteArray} (hA : ¬ (0 ≤ placeI s.all k ∨ s.all.length < s.size)) (hs : s.size ≠ 0) : ∃ q, s.all[s.all.length - 1]? = some q ∧ s.all.getLast? = some q ∧ 0 < s.all.length := by
  have hl : 0 < s.all.length := by have : ¬ s.all.length < s.size := fun e => hA (.inr e); omega
  exact ⟨s.all[s.all.length - 1], List.getElem?_eq_getElem (by omega), by rw [List.getLast?_eq_getElem?]; exact List.getElem?_eq_getElem (by omega), hl⟩
theorem offerS_low {s : St} {k : ByteArray} (x : ByteArray) (hA : ¬ (0 ≤ placeI s.all k ∨ s.all.length < s.size)) {q : Th} (hq : s.all.getLast? = some q) (ho : often s.cs k ≤ often s.cs q.1) : offerS s k x = (⟨s.size, s.all, s.cs, s.asked⟩, false) := by
  unfold offerS
  rw [placeI_no fun e => hA (.inl e)]
  simp only
  rw [if_neg fun e => hA (.inr e), hq]
  simp only
  rw [if_pos ho]
theorem offerS_out {s : St} {k : ByteArray} (x : ByteArray) (hA : ¬ (0 ≤ placeI s.all k ∨ s.all.length < s.size)) {q : Th} (hq : s.all.getLast? = some q) (ho : ¬ often s.cs k ≤ often s.cs q.1) :
    offerS s k x = (⟨s.size, (k, x) :: others (s.all.take (s.all.length - 1)) k, s.cs, s.asked⟩, true) := by
  have hp := placeI_no fun e => hA (.inl e)
  have hp' : others (s.all.take (s.all.length - 1)) k = s.all.take (s.all.length - 1) := by
    unfold others
    rw [List.filter_eq_self]
    intro p hm
    have := place_not hp p (List.mem_of_mem_take hm)
    simpa using this
  have he : s.all.eraseIdx (s.all.length - 1) = s.all.take (s.all.length - 1) := by
    have hl : 0 < s.all.length := by cases e : s.all with | nil => rw [e] at hq; simp at hq | cons a l => simp
    rw [List.eraseIdx_eq_take_drop_succ, show s.all.length - 1 + 1 = s.all.length by omega, List.drop_length, List.append_nil]
  unfold offerS
  rw [hp]
  simp only
  rw [if_neg fun e => hA (.inr e), hq]
  simp only
  rw [if_neg ho, he, hp']

theorem offerS_out' {s : St} {k : ByteArray} (x : ByteArray) (hA : ¬ (0 ≤ placeI s.all k ∨ s.all.length < s.size)) {q : Th} (hq : s.all.getLast? = some q) (ho : ¬ often s.cs k ≤ often s.cs q.1) {j : Nat} (hj : j = s.all.length - 1) :
    offerS s k x = (⟨s.size, (k, x) :: others (s.all.take j) k, s.cs, s.asked⟩, true) := by
  subst hj
  exact offerS_out x hA hq ho
theorem made_first2 {w w' : World} {v' : Value} {m : Nat} {news : List Value} (hr : OffRow w' 64 2 v' m news) (hg : (w.alloc (.cells #[] 64)).grownBy w' (some w.heap.size)) (ho : v'.ownBlock = some w.heap.size ∨ v'.ownBlock = some (w.alloc (.cells #[] 64)).heap.size) : Made w w' 64 2 v' m news :=
  made_first (by rw [Nat.zero_add, List.nil_append]; exact hr) hg ho
theorem RowT.cap {w : World} {a : Option Addr} {n cap : Nat} {l : List Th} (h : RowT w (.slice a n cap) l) : l.length ≤ cap := by
  rcases h.2 with ⟨e, h0⟩ | ⟨g, o, cap', cur, e, _, hc, _⟩
  · omega
  · simp only [Value.slice.injEq] at e
    obtain ⟨_, _, rfl⟩ := e
    exact hc
theorem cells64 {w : World} {b : Nat} {a0 a1 : Value} (h : w.heap[b]? = some (.cells #[a0, a1] 64 (0, 0))) : w.cell? ⟨b, 0, none⟩ = some a0 ∧ w.cell? ⟨b, 1, none⟩ = some a1 := by
  simp [World.cell?, h]

set_option maxHeartbeats 4000000 in
set_option maxRecDepth 100000 in
theorem roffer_any (s : St) (tv cv : Value) (k x : ByteArray) (w : World) (hi : Inv s) (ht : RowT w tv s.all) (hc : RowC w cv s.cs) :
    Calls Try.prog 16 #[refV s.size tv cv s.asked, .string k, .string x] w (RefPost w tv cv (offerS s k x).1 [.bool (offerS s k x).2]) := by
  obtain ⟨ta, tc, rfl⟩ := OffRow.shape ht
  obtain ⟨ca, cc, rfl⟩ := OffRow.shape hc
  obtain ⟨i64, hi64, hz64, hs64, hb64⟩ := info_parts info64
  have h0' := box2_start s.size s.asked ht hc
  have h0 := h0'.keep ((Below.refl _ _).alloc (Nat.le_refl _) (.cells #[.string k, .string x] 64))
  have hz0 := heap_alloc_new ((w.alloc (.cells #[.int .i64 s.size, .slice ta s.all.length tc, .slice ca s.cs.length cc, .int .i64 s.asked] 30)).alloc (.cells #[.int .i64 0, .slice none 0 0, .slice none 0 0, .int .i64 0] 30 (0, 0))) (.cells #[.string k, .string x] 64)
  obtain ⟨w1, hw1⟩ : ∃ w1, w1 = ((w.alloc (.cells #[.int .i64 s.size, .slice ta s.all.length tc, .slice ca s.cs.length cc, .int .i64 s.asked] 30)).alloc (.cells #[.int .i64 0, .slice none 0 0, .slice none 0 0, .int .i64 0] 30 (0, 0))).alloc (.cells #[.string k, .string x] 64) := ⟨_, rfl⟩
  rw [← hw1] at h0 hz0
  have hz2 : w1.heap[w.heap.size + 2]? = some (.cells #[.string k, .string x] 64 (0, 0)) := by simpa using hz0
  have hz : w1.heap[w.heap.size + 1 + 1]? = some (.cells #[.string k, .string x] 64 (0, 0)) := hz2
  have D1 := rfind_any s.size s.asked (.slice ta s.all.length tc) (.slice ca s.cs.length cc) s.all k w1 h0.t (by have := hi.all_le; omega)
  obtain ⟨pl, hpl⟩ : ∃ pl, pl = placeI s.all k := ⟨_, rfl⟩
  rw [← hpl] at D1
  have HPL := Lib.hid hpl
  obtain ⟨all2, ok2, hof⟩ : ∃ all2 ok, offerS s k x = (⟨s.size, all2, s.cs, s.asked⟩, ok) := by
    by_cases hA : 0 ≤ placeI s.all k ∨ s.all.length < s.size
    · exact ⟨_, _, offerS_yes hi x hA⟩
    · by_cases hs : s.size = 0
      · exact ⟨_, _, offerS_zero hi x hA hs⟩
      · obtain ⟨q, _, hq, _⟩ := last_of hi hA hs
        by_cases ho : often s.cs k ≤ often s.cs q.1
        · exact ⟨_, _, offerS_low x hA hq ho⟩
        · exact ⟨_, _, offerS_out x hA hq ho⟩
  rw [hof]
  have HOF := Lib.hid hof
  have HI := Lib.hid hi
  have H0 := Lib.hid h0
  have HZ := Lib.hid hz
  have HW := Lib.hid hw1
  unfold refV at D1 ⊢
  have D1 := Lib.hid D1
  clear ht hc h0 h0' hz0 hz2 hw1 hi hz hpl hof
  go_enter Try.func16, Try.ntmps16
  go_upto_region 2 with fail
  rw [← HW.out]
  obtain ⟨x0, x1, x2, x3, xf⟩ := cells4 H0.out.x
  go_wp2_with fail
  refine D1.out.mono ?_
  rintro e w2 ⟨rfl, hb⟩
  have h2 := H0.out.keep hb
  have hz2 := (hb.block _ (lt_of_block HZ.out)).trans HZ.out
  have H2 := Lib.hid h2
  have HZ2 := Lib.hid hz2
  obtain ⟨z0, z1, z2, z3, zf⟩ := cells4 h2.x
  obtain ⟨t0, t1⟩ := cells64 hz2
  clear hb h2 hz2 x0 x1 x2 x3 xf H0 HZ HW D1
  by_cases hA : 0 ≤ pl ∨ s.all.length < s.size
  · have e := HOF.out.symm.trans (offerS_yes HI.out x (by rw [← HPL.out]; exact hA))
    simp only [Prod.mk.injEq, St.mk.injEq, and_true, true_and] at e
    obtain ⟨rfl, rfl⟩ := e
    have D2 := rfirst_any s.size s.asked (.slice ta s.all.length tc) (.slice ca s.cs.length cc) s.all k x w2 H2.out.t (by have := HI.out.all_le; omega) ⟨_, _, _, rfl⟩
    unfold refV at D2
    have D2 := Lib.hid D2
    by_cases hp : 0 ≤ pl
    · clear hA
      go_wp2_with fail
      refine D2.out.mono ?_
      rintro e w4 ⟨tv', rfl, hm⟩
      obtain ⟨a5, c5, rfl⟩ := OffRow.shape hm.row
      have h4 := H2.out.keep hm.below
      have HM := Lib.hid hm
      obtain ⟨d0, d1, d2, d3, df⟩ := cells4 h4.y
      clear hm h4 D2
      go_wp2_with fail
      have ⟨g2, hfin⟩ := H2.out.doneT (l' := ((k, x) :: others s.all k)) HM.out
      unfold put4 at g2 hfin
      generalize ((((World.setCell _ _ _).setCell _ _).setCell _ _).setCell _ _) = W9 at *
      obtain ⟨p0, p1, p2, p3, _⟩ := cells4 g2
      refine bodyPost_ret (v := .tuple #[.agg #[.int .i64 s.size, .slice a5 ((k, x) :: others s.all k).length c5, .slice ca s.cs.length cc, .int .i64 s.asked], .bool true]) ?_ rfl ⟨_, _, rfl, hfin⟩
      clear g2 hfin HI HPL HOF HM i64 hi64 hz64 hs64 hb64 d0 d1 d2 d3 df H2 HZ2 z0 z1 z2 z3 zf t0 t1
      simp only [results, Try.f16]
      go_simp
    · have hlt : (s.all.length : Int) < (s.size : Int) := by have := hA.resolve_left hp; omega
      clear hA
      go_wp2_with fail
      refine D2.out.mono ?_
      rintro e w4 ⟨tv', rfl, hm⟩
      obtain ⟨a5, c5, rfl⟩ := OffRow.shape hm.row
      have h4 := H2.out.keep hm.below
      have HM := Lib.hid hm
      obtain ⟨d0, d1, d2, d3, df⟩ := cells4 h4.y
      clear hm h4 D2
      go_wp2_with fail
      have ⟨g2, hfin⟩ := H2.out.doneT (l' := ((k, x) :: others s.all k)) HM.out
      unfold put4 at g2 hfin
      generalize ((((World.setCell _ _ _).setCell _ _).setCell _ _).setCell _ _) = W9 at *
      obtain ⟨p0, p1, p2, p3, _⟩ := cells4 g2
      refine bodyPost_ret (v := .tuple #[.agg #[.int .i64 s.size, .slice a5 ((k, x) :: others s.all k).length c5, .slice ca s.cs.length cc, .int .i64 s.asked], .bool true]) ?_ rfl ⟨_, _, rfl, hfin⟩
      clear g2 hfin HI HPL HOF HM i64 hi64 hz64 hs64 hb64 d0 d1 d2 d3 df H2 HZ2 z0 z1 z2 z3 zf t0 t1
      simp only [results, Try.f16]
      go_simp
  · have hp : ¬ 0 ≤ pl := fun e => hA (.inl e)
    have hlt : ¬ (s.all.length : Int) < (s.size : Int) := fun e => hA (.inr (by omega))
    have hA' : ¬ (0 ≤ placeI s.all k ∨ s.all.length < s.size) := by rw [← HPL.out]; exact hA
    by_cases hs : s.size = 0
    · have e := HOF.out.symm.trans (offerS_zero HI.out x hA' hs)
      simp only [Prod.mk.injEq, St.mk.injEq, and_true, true_and] at e
      obtain ⟨rfl, rfl⟩ := e
      have y1 : ((s.size : Int) == 0) = true := by simpa using (by omega : (s.size : Int) = 0)
      clear hA hA' hs
      go_upto_region 4 with fail
      go_quiet (fail)
      obtain ⟨d0, d1, d2, d3, df⟩ := cells4 (H2.out.drewN nq).y
      go_wp2_with fail
      have ⟨g2, hfin⟩ := (H2.out.drewN nq).same
      unfold put4 at g2 hfin
      generalize ((((World.setCell _ _ _).setCell _ _).setCell _ _).setCell _ _) = W9 at *
      obtain ⟨p0, p1, p2, p3, _⟩ := cells4 g2
      refine bodyPost_ret (v := .tuple #[.agg #[.int .i64 s.size, .slice ta s.all.length tc, .slice ca s.cs.length cc, .int .i64 s.asked], .bool false]) ?_ rfl ⟨_, _, rfl, hfin⟩
      clear g2 hfin HI HPL HOF i64 hi64 hz64 hs64 hb64 d0 d1 d2 d3 df H2 HZ2 z0 z1 z2 z3 zf t0 t1 
      simp only [results, Try.f16]
      go_simp
    · obtain ⟨q, hq, hql, hl0⟩ := last_of HI.out hA' hs
      obtain ⟨j, hj⟩ : ∃ j, j = s.all.length - 1 := ⟨_, rfl⟩
      rw [← hj] at hq
      obtain ⟨f0, f1⟩ := flatT_at _ _ _ hq
      obtain ⟨g, o, cap', hv, q0, q1⟩ := cell2 H2.out.t f0 f1
      simp only [Value.slice.injEq, true_and] at hv
      obtain ⟨rfl, rfl⟩ := hv
      have OFT : Hid (∀ (w8 : World) (t : ByteArray), Below w2.heap.size w2 w8 → Calls Try.prog 23 #[.agg #[.int .i64 s.size, .slice (some ⟨g, o, none⟩) s.all.length tc, .slice ca s.cs.length cc, .int .i64 s.asked], .string t] w8 (fun e w9 => e = .returned (.int .i64 (often s.cs t)) ∧ Below w2.heap.size w2 w9 ∧ w9.cell? ⟨w.heap.size, 0, none⟩ = some (.int .i64 s.size) ∧ w9.cell? ⟨w.heap.size, 1, none⟩ = some (.slice (some ⟨g, o, none⟩) s.all.length tc) ∧ w9.cell? ⟨w.heap.size, 2, none⟩ = some (.slice ca s.cs.length cc) ∧ w9.cell? ⟨w.heap.size, 3, none⟩ = some (.int .i64 s.asked) ∧ w9.cell? ⟨g, o + j * 2, none⟩ = some (.string q.1))) := Lib.hid fun w8 t hb => by
        refine (roften_any s.size s.asked (.slice (some ⟨g, o, none⟩) s.all.length tc) (.slice ca s.cs.length cc) s.cs t w8 (H2.out.c.below hb) (by have := HI.out.cs_le; omega)).mono ?_
        rintro e w9 ⟨rfl, hb9⟩
        have hk := hb.trans (hb9.mono hb.size)
        obtain ⟨x0, x1, x2, x3, _⟩ := cells4 (H2.out.keep hk).x
        obtain ⟨g', o', cap', hv, xq, _⟩ := cell2 (H2.out.keep hk).t f0 f1
        simp only [Value.slice.injEq, Option.some.injEq, Addr.mk.injEq, and_true, true_and] at hv
        obtain ⟨⟨rfl, rfl⟩, rfl⟩ := hv
        exact ⟨rfl, hk, x0, x1, x2, x3, xq⟩
      have kb0 : Below w2.heap.size w2 w2 := Below.refl _ _
      have kbd : Below w2.heap.size w2 w2.drew := ⟨rfl, rfl, rfl, Nat.le_refl _, fun _ _ => rfl⟩
      have hl64 := HI.out.all_le
      have hjL : (j : Int) < (s.all.length : Int) := by omega
      have hj0 : (0 : Int) ≤ (j : Int) := by omega
      have hwr : IntKind.i64.wrap ((s.all.length : Int) - 1) = (j : Int) := by rw [IntKind.wrap_i64]; omega
      have HQ := Lib.hid hq
      have HQL := Lib.hid hql
      have HJ := Lib.hid hj
      have HL0 := Lib.hid hl0
      have HAA := Lib.hid hA'
      have y1 : ((s.size : Int) == 0) = false := by simpa using (by omega : ¬ (s.size : Int) = 0)
      clear hA hA' hs hj hq hql f0 f1 q1 hl0 hl64
      by_cases ho : often s.cs k ≤ often s.cs q.1
      · have e := HOF.out.symm.trans (offerS_low x HAA.out HQL.out ho)
        simp only [Prod.mk.injEq, St.mk.injEq, and_true, true_and] at e
        obtain ⟨rfl, rfl⟩ := e
        have y2 : (often s.cs k : Int) ≤ (often s.cs q.1 : Int) := by omega
        go_upto_region 4 with fail
        go_region_held3 (fun w' => w'.cell? ⟨w.heap.size, 0, none⟩ = some (.int .i64 s.size) ∧ w'.cell? ⟨w.heap.size, 1, none⟩ = some (.slice (some ⟨g, o, none⟩) s.all.length tc) ∧ w'.cell? ⟨w.heap.size, 2, none⟩ = some (.slice ca s.cs.length cc) ∧ w'.cell? ⟨w.heap.size, 3, none⟩ = some (.int .i64 s.asked) ∧ w'.cell? ⟨g, o + j * 2, none⟩ = some (.string q.1)) (first | assumption | (refine ⟨?_, ?_, ?_, ?_, ?_⟩ <;> assumption) | go_keep)
                                  (first
                                   | (go_at_call 23;
                                      refine (OFT.out _ _ (by assumption)).mono ?_;
                                      rintro e w9 ⟨rfl, kb, x0, x1, x2, x3, xq⟩;
                                      have KB := Lib.hid kb))
        
        all_goals
          obtain ⟨d0, d1, d2, d3, df⟩ := cells4 (H2.out.keep KB.out).y
          go_wp2_with fail
          have ⟨g2, hfin⟩ := (H2.out.keep KB.out).same
          unfold put4 at g2 hfin
          generalize ((((World.setCell _ _ _).setCell _ _).setCell _ _).setCell _ _) = W9 at *
          obtain ⟨p0, p1, p2, p3, _⟩ := cells4 g2
          refine bodyPost_ret (v := .tuple #[.agg #[.int .i64 s.size, .slice (some ⟨g, o, none⟩) s.all.length tc, .slice ca s.cs.length cc, .int .i64 s.asked], .bool false]) ?_ rfl ⟨_, _, rfl, hfin⟩
          clear g2 hfin HI HPL HOF i64 hi64 hz64 hs64 hb64 d0 d1 d2 d3 df H2 HZ2 z0 z1 z2 z3 zf t0 t1 KB OFT HQ HQL HJ HL0 HAA x0 x1 x2 x3 xq
          simp only [results, Try.f16]
          go_simp
      · have e := HOF.out.symm.trans (offerS_out' x HAA.out HQL.out ho HJ.out)
        simp only [Prod.mk.injEq, St.mk.injEq, and_true, true_and] at e
        obtain ⟨rfl, rfl⟩ := e
        have y2 : ¬ (often s.cs k : Int) ≤ (often s.cs q.1 : Int) := by omega
        have hcap := RowT.cap H2.out.t
        have m2 : (j : Int) ≤ (tc : Int) := by omega
        have m7 : (s.all.length : Int) ≤ 64 := by have := HI.out.all_le; omega
        clear hcap
        go_upto_region 4 with fail
        go_cut [46] (fun s46 wx => s46 = .bool false ∧ Below w2.heap.size w2 wx)
        case first =>
          go_region_held3 (fun w' => w'.cell? ⟨w.heap.size, 0, none⟩ = some (.int .i64 s.size) ∧ w'.cell? ⟨w.heap.size, 1, none⟩ = some (.slice (some ⟨g, o, none⟩) s.all.length tc) ∧ w'.cell? ⟨w.heap.size, 2, none⟩ = some (.slice ca s.cs.length cc) ∧ w'.cell? ⟨w.heap.size, 3, none⟩ = some (.int .i64 s.asked) ∧ w'.cell? ⟨g, o + j * 2, none⟩ = some (.string q.1)) (first | assumption | (refine ⟨?_, ?_, ?_, ?_, ?_⟩ <;> assumption) | go_keep)
                                    (first
                                     | (go_at_call 23;
                                        refine (OFT.out _ _ (by assumption)).mono ?_;
                                        rintro e w9 ⟨rfl, kb, x0, x1, x2, x3, xq⟩;
                                        have KB := Lib.hid kb))
        
          all_goals
            go_wp2_with fail
            go_meet
            exact ⟨rfl, KB.out⟩
        case rest =>
          obtain ⟨rfl, hb9⟩ := hcut
          clear ho
          have h9 := H2.out.keep hb9
          have hlx := lt_of_block h9.x
          have H9 := Lib.hid h9
          have HB9 := Lib.hid hb9
          have HLX := Lib.hid hlx
          obtain ⟨x0, x1, x2, x3, xf⟩ := cells4 h9.x
          have x1' : ∀ u, (wc.alloc u).cell? ⟨w.heap.size, 1, none⟩ = some (.slice (some ⟨g, o, none⟩) s.all.length tc) := fun u => (World.cell?_of_block (w := wc) (Below.heap_alloc _ _ _ hlx)).trans x1
          clear h9 hb9 hlx z0 z1 z2 z3 zf t0 t1 q0 kb0 kbd OFT
          go_wp2_with (at_builtin; refine wpList_append_off rfl (.tmp 48) (.tmp 55) 27 27 64 rfl i64 _ 2 32 Try.underlying27 hi64 hz64 hs64 hb64 rfl (.slice (some ⟨wc.heap.size, 0, none⟩) 0 0) 0 [] rfl (by exact (made_none wc).row) j (flat ((s.all.drop 0).take j)) (src_th (by exact OffRow.kept H9.out.t fun k hk => Below.heap_alloc _ _ _ (OffRow.lt H9.out.t k hk)) 0 j tc (by omega) g o (fun _ => ⟨rfl, by omega⟩)) (.inr (by simp [Value.ownBlock])) (by unfold maxLen; omega) (by omega) ?_)
          intro v1 w3 ho1 hg1 hn1
          have hm := made_first2 (w := wc) ho1 ⟨hg1.os, hg1.tape, hg1.output, hg1.size, hg1.block⟩ (by simpa [Value.ownBlock] using hn1)
          have hl9 : (s.all.take j).length = j := by rw [List.length_take]; omega
          obtain ⟨ys, hys⟩ : ∃ ys, ys = s.all.take j := ⟨_, rfl⟩
          have hm2 : Made wc w3 64 2 v1 ys.length (flat ys) := by rw [hys, hl9]; exact hm
          obtain ⟨a6, c6, rfl⟩ := OffRow.shape hm2.row
          have h10 := H9.out.keep hm2.below
          have h11 := H9.out.set1 hm2
          have hz9 := (HB9.out.block _ (lt_of_block HZ2.out)).trans HZ2.out
          have hz10 := (hm2.below.block _ (lt_of_block hz9)).trans hz9
          have hz11 : (w3.setCell ⟨w.heap.size, 1, none⟩ (.slice a6 ys.length c6)).heap[w.heap.size + 1 + 1]? = _ := (Below.heap_setCell _ _ _ _ (by show w.heap.size + 1 + 1 ≠ w.heap.size; omega)).trans hz10
          obtain ⟨r0, r1, r2, r3, rf⟩ := cells4 h10.x
          have HYS := Lib.hid hys
          have H11 := Lib.hid h11
          have HZ11 := Lib.hid hz11
          clear ho1 hg1 hn1 hm hm2 h10 h11 hz9 hz10 hz11 hys hl9 x0 x1 x2 x3 xf x1' H9 HB9
          go_upto_region 7 with fail
          have h11 := H11.out
          have hz11 := HZ11.out
          generalize World.setCell _ _ _ = w11 at *
          have H12 := Lib.hid h11
          obtain ⟨y0, y1, y2, y3, yf⟩ := cells4 h11.x
          obtain ⟨t0, t1⟩ := cells64 hz11
          have D2 := rfirst_any s.size s.asked (.slice a6 ys.length c6) (.slice ca s.cs.length cc) ys k x w11 h11.t (by rw [HYS.out, List.length_take]; have := HI.out.all_le; omega) ⟨_, _, _, rfl⟩
          unfold refV at D2
          have D2 := Lib.hid D2
          clear h11 hz11 r0 r1 r2 r3 rf H11 HZ11
          go_wp2_with fail
          refine D2.out.mono ?_
          rintro e w4 ⟨tv', rfl, hm⟩
          rw [HYS.out] at hm
          obtain ⟨a5, c5, rfl⟩ := OffRow.shape hm.row
          have h4 := H12.out.keep hm.below
          have HM := Lib.hid hm
          obtain ⟨d0, d1, d2, d3, df⟩ := cells4 h4.y
          clear hm h4 D2
          go_wp2_with fail
          have ⟨g2, hfin⟩ := H12.out.doneT (l' := ((k, x) :: others (s.all.take j) k)) HM.out
          unfold put4 at g2 hfin
          generalize ((((World.setCell _ _ _).setCell _ _).setCell _ _).setCell _ _) = W9 at *
          obtain ⟨p0, p1, p2, p3, _⟩ := cells4 g2
          refine bodyPost_ret (v := .tuple #[.agg #[.int .i64 s.size, .slice a5 ((k, x) :: others (s.all.take j) k).length c5, .slice ca s.cs.length cc, .int .i64 s.asked], .bool true]) ?_ rfl ⟨_, _, rfl, hfin⟩
          clear g2 hfin HI HPL HOF HM i64 hi64 hz64 hs64 hb64 d0 d1 d2 d3 df H2 H12 HYS HZ2 HQ HQL HJ HL0 HAA HLX y0 y1 y2 y3 yf t0 t1
          simp only [results, Try.f16]
          go_simp
end Go.Proofs.Ytoeekjooigijbaa

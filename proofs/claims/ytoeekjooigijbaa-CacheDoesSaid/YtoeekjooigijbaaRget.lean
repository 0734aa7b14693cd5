/-
  The document's Get.
-/
import Derived.Test.YtoeekjooigijbaaRbox
namespace Go.Proofs.Ytoeekjooigijbaa
open Go.RowKit
set_option linter.unusedVariables false
set_option linter.unusedSimpArgs false

/-- The counts, and how often was asked, behind Get's first part, and behind its last. -/
def csOne (s : St) (k : ByteArray) : Cs := if s.size = 0 then s.cs else counted s.cs k
def askOne (s : St) : Nat := if s.size = 0 then s.asked else s.asked + 1
def allOne (s : St) (k : ByteArray) : List Th := match place s.all k with
  | none => s.all
  | some i => match s.all[i]? with
    | none => s.all
    | some p => (p.1, p.2) :: others s.all p.1
def valOne (s : St) (k : ByteArray) : ByteArray := match place s.all k with
  | none => ⟨#[]⟩
  | some i => match s.all[i]? with
    | none => ⟨#[]⟩
    | some p => p.2
def csTwo (s : St) (k : ByteArray) : Cs := if s.size ≠ 0 ∧ askOne s = 10 * s.size then halved (csOne s k) else csOne s k
def askTwo (s : St) : Nat := if s.size ≠ 0 ∧ askOne s = 10 * s.size then 0 else askOne s

theorem empty_of {s : St} (h : Inv s) (hs : s.size = 0) : s.all = [] := by have := h.fits; rw [hs] at this; exact List.eq_nil_of_length_eq_zero (by omega)
theorem getS_eq {s : St} (h : Inv s) (k : ByteArray) : getS s k = (⟨s.size, allOne s k, csTwo s k, askTwo s⟩, valOne s k, decide (0 ≤ placeI s.all k)) := by
  unfold getS allOne valOne csTwo askTwo csOne askOne placeI
  by_cases hs : s.size = 0
  · have he : place s.all k = none := by rw [empty_of h hs]; rfl
    obtain ⟨size, all, cs, asked⟩ := s
    simp only at hs he
    subst hs
    simp [he]
  · have ht : tick s k = ⟨s.size, s.all, if s.size ≠ 0 ∧ s.asked + 1 = 10 * s.size then halved (counted s.cs k) else counted s.cs k, if s.size ≠ 0 ∧ s.asked + 1 = 10 * s.size then 0 else s.asked + 1⟩ := by
      unfold tick
      by_cases e : s.asked + 1 = 10 * s.size <;> simp [e, hs]
    simp only [if_neg hs, ht]
    cases hp : place s.all k with
    | none => rfl
    | some i =>
      obtain ⟨p, hi, he, _⟩ := place_lt hp
      have ho := others_at h.nd hp
      subst he
      simp [hi, ho]

set_option maxHeartbeats 4000000 in
set_option maxRecDepth 100000 in
theorem rget_any (s : St) (tv cv : Value) (k : ByteArray) (w : World) (hi : Inv s) (hk : k.size ≤ maxLen) (ht : RowT w tv s.all) (hc : RowC w cv s.cs) :
    Calls Try.prog 14 #[refV s.size tv cv s.asked, .string k] w (RefPost w tv cv (getS s k).1 [.string (getS s k).2.1, .bool (getS s k).2.2]) := by
  rw [getS_eq hi]
  obtain ⟨ta, tc, rfl⟩ := OffRow.shape ht
  obtain ⟨ca, cc, rfl⟩ := OffRow.shape hc
  have h0 := box2_start s.size s.asked ht hc
  obtain ⟨X, hX⟩ : ∃ X, X = w.heap.size := ⟨_, rfl⟩
  obtain ⟨w1, hw1⟩ : ∃ w1, w1 = (w.alloc (.cells #[.int .i64 s.size, .slice ta s.all.length tc, .slice ca s.cs.length cc, .int .i64 s.asked] 30)).alloc (.cells #[.int .i64 0, .slice none 0 0, .slice none 0 0, .int .i64 0] 30 (0, 0)) := ⟨_, rfl⟩
  rw [← hw1] at h0
  have D1 := rcounted_any s.size s.asked (.slice ta s.all.length tc) (.slice ca s.cs.length cc) s.cs k w1 h0.c (by have := hi.cs_le; omega) hi.low ⟨_, _, _, rfl⟩ (by have := hi.asked_le; omega)
  have HI := Lib.hid hi
  have HK := Lib.hid hk
  obtain ⟨cs1, hcs1⟩ : ∃ cs1, cs1 = csOne s k := ⟨_, rfl⟩
  obtain ⟨ask1, hask1⟩ : ∃ ask1, ask1 = askOne s := ⟨_, rfl⟩
  have h15 : ∀ p ∈ cs1, p.2 ≤ 15 := by
    rw [hcs1]
    unfold csOne
    split
    · exact HI.out.low
    · exact fun p hp => ((good_counted HI.out.good HK.out).ok p hp).2.2
  have hl1 : cs1.length ≤ 2000 := by
    rw [hcs1]
    have := HI.out.cs_le
    have := counted_len s.cs k
    unfold csOne
    split <;> omega
  have ha1 : ask1 ≤ 641 := by
    rw [hask1]
    have := HI.out.asked_le
    unfold askOne
    split <;> omega
  obtain ⟨cs2, hcs2⟩ : ∃ cs2, cs2 = csTwo s k := ⟨_, rfl⟩
  obtain ⟨ask2, hask2⟩ : ∃ ask2, ask2 = askTwo s := ⟨_, rfl⟩
  obtain ⟨all2, hall2⟩ : ∃ all2, all2 = allOne s k := ⟨_, rfl⟩
  obtain ⟨val2, hval2⟩ : ∃ val2, val2 = valOne s k := ⟨_, rfl⟩
  obtain ⟨pl, hpl⟩ : ∃ pl, pl = placeI s.all k := ⟨_, rfl⟩
  rw [← hcs2, ← hask2, ← hall2, ← hval2, ← hpl]
  unfold csTwo at hcs2
  unfold askTwo at hask2
  rw [← hcs1, ← hask1] at hcs2
  rw [← hask1] at hask2
  have HC2 := Lib.hid hcs2
  have HA2 := Lib.hid hask2
  have HAL := Lib.hid hall2
  have HVA := Lib.hid hval2
  have HPL := Lib.hid hpl
  have H0 := Lib.hid h0
  have HW := Lib.hid hw1
  have hask : (s.asked : Int) ≤ 640 := by have := hi.asked_le; omega
  have hsz : (s.size : Int) ≤ 64 := by have := hi.hi; omega
  have ha1i : (ask1 : Int) ≤ 641 := by omega
  have H15 := Lib.hid h15
  have HL1 := Lib.hid hl1
  have HC1 := Lib.hid hcs1
  have HA1 := Lib.hid hask1
  unfold refV at D1 ⊢
  have D1 := Lib.hid D1
  clear ht hc h0 hw1 hi hk h15 hl1 hcs1 hask1 ha1 hcs2 hask2 hall2 hval2 hpl
  go_enter Try.func14, Try.ntmps14
  go_upto_region 1 with fail
  rw [← HW.out]
  obtain ⟨x0, x1, x2, x3, xf⟩ := cells4 H0.out.x
  go_upto_if 11 with fail
  go_cut [] (fun wx => ∃ cv1, RB w w.heap.size (w.heap.size + 1) wx s.size (.slice ta s.all.length tc) (.slice ca s.cs.length cc) (.slice ta s.all.length tc) cv1 s.all cs1 ask1)
  case first =>
    by_cases hs : s.size = 0
    · have y1 : ¬ 0 < s.size := by omega
      go_wp2_with fail
      go_meet
      exact ⟨_, by rw [HC1.out, HA1.out]; unfold csOne askOne; rw [if_pos hs, if_pos hs]; exact H0.out⟩
    · have y1 : 0 < s.size := by omega
      go_wp2_with fail
      refine D1.out.mono ?_
      rintro e w2 ⟨cv', rfl, hm⟩
      obtain ⟨a1, c1, rfl⟩ := OffRow.shape hm.row
      have h1 := H0.out.keep hm.below
      have h2 := H0.out.newC (s.asked + 1) hm
      obtain ⟨z0, z1, z2, z3, zf⟩ := cells4 h1.x
      have H2 := Lib.hid h2
      clear h1 h2 hm x0 x1 x2 x3 xf
      go_wp2_with fail
      go_meet
      exact ⟨_, by rw [HC1.out, HA1.out]; unfold csOne askOne; rw [if_neg hs, if_neg hs]; exact H2.out⟩
  case rest =>
    obtain ⟨cv1, h1⟩ := hcut
    obtain ⟨a1, c1, rfl⟩ := OffRow.shape h1.c
    have D2 := rfind_any s.size ask1 (.slice ta s.all.length tc) (.slice a1 cs1.length c1) s.all k wc h1.t (by have := HI.out.all_le; omega)
    have H1 := Lib.hid h1
    rw [← HPL.out] at D2
    unfold refV at D2
    have D2 := Lib.hid D2
    obtain ⟨y0, y1, y2, y3, yf⟩ := cells4 h1.x
    clear D1 h1 x0 x1 x2 x3 xf H0 HW
    go_wp2_with fail
    refine D2.out.mono ?_
    rintro e w2 ⟨rfl, hb⟩
    have h2 := H1.out.keep hb
    obtain ⟨z0, z1, z2, z3, zf⟩ := cells4 h2.x
    have H2 := Lib.hid h2
    clear D2 hb h2 H1 y0 y1 y2 y3 yf
    go_upto_if 19 with fail
    go_cut [7] (fun s7 wx => s7 = .string val2 ∧ ∃ tv1, RB w w.heap.size (w.heap.size + 1) wx s.size (.slice ta s.all.length tc) (.slice ca s.cs.length cc) tv1 (.slice a1 cs1.length c1) all2 cs1 ask1)
    case first =>
      cases hp : place s.all k with
      | none =>
        have e0 : pl = -1 := by rw [HPL.out]; unfold placeI; rw [hp]
        have e1 : val2 = ⟨#[]⟩ := by rw [HVA.out]; unfold valOne; rw [hp]
        have e2 : all2 = s.all := by rw [HAL.out]; unfold allOne; rw [hp]
        have HE := Lib.hid (And.intro e1 e2)
        have y1 : ¬ (0 ≤ pl) := by omega
        clear hp e0 e1 e2
        go_wp2_with fail
        go_meet
        exact ⟨by rw [HE.out.1], _, by rw [HE.out.2]; exact H2.out⟩
      | some i =>
        obtain ⟨p, hpi, hpk, _⟩ := place_lt hp
        have e0 : pl = i := by rw [HPL.out]; unfold placeI; rw [hp]
        have e1 : val2 = p.2 := by rw [HVA.out]; unfold valOne; rw [hp]; simp only [hpi]
        have e2 : all2 = (p.1, p.2) :: others s.all p.1 := by rw [HAL.out]; unfold allOne; rw [hp]; simp only [hpi]
        have HE := Lib.hid (And.intro e1 e2)
        subst e0
        obtain ⟨f0, f1⟩ := flatT_at _ _ _ hpi
        obtain ⟨g, o, cap', hv, q0, q1⟩ := cell2 H2.out.t f0 f1
        simp only [Value.slice.injEq, true_and] at hv
        obtain ⟨rfl, rfl⟩ := hv
        have m1 : (i : Int) < (s.all.length : Int) := by have := (List.getElem?_eq_some_iff.1 hpi).1; omega
        have m2 : (0 : Int) ≤ (i : Int) := by omega
        have D3 := rfirst_any s.size ask1 (.slice (some ⟨g, o, none⟩) s.all.length tc) (.slice a1 cs1.length c1) s.all p.1 p.2 w2.drew (RowT.below H2.out.t ⟨rfl, rfl, rfl, Nat.le_refl _, fun _ _ => rfl⟩) (by have := HI.out.all_le; omega) ⟨_, _, _, rfl⟩
        unfold refV at D3
        have D3 := Lib.hid D3
        clear hp hpi hpk e1 e2 f0 f1
        go_upto_region 7 with fail
        go_region_with (refine D3.out.mono ?_;
                                rintro e w3 ⟨tv', rfl, hm⟩;
                                obtain ⟨a3, c3, rfl⟩ := OffRow.shape hm.row;
                                have h3 := H2.out.drewN 1;
                                have h4 := h3.newT (l' := (p.1, p.2) :: others s.all p.1) hm;
                                obtain ⟨r0, r1, r2, r3, rf⟩ := cells4 (h3.keep hm.below).x;
                                have H4 := Lib.hid h4;
                                clear hm h3 h4 z0 z1 z2 z3 zf)
        all_goals
          go_wp2_with fail
          go_meet
          exact ⟨by rw [HE.out.1], _, by rw [HE.out.2]; exact H4.out⟩
    case rest =>
      obtain ⟨rfl, tv1, h3⟩ := hcut
      obtain ⟨a3, c3, rfl⟩ := OffRow.shape h3.t
      obtain ⟨y0, y1, y2, y3, yf⟩ := cells4 h3.x
      have D4 := rhalved_any s.size ask1 (.slice a3 all2.length c3) (.slice a1 cs1.length c1) cs1 wc h3.c HL1.out H15.out ⟨_, _, _, rfl⟩
      unfold refV at D4
      have D4 := Lib.hid D4
      have H3 := Lib.hid h3
      have w1 : IntKind.i64.wrap (10 * (s.size : Int)) = 10 * (s.size : Int) := by rw [IntKind.wrap_i64]; omega
      clear h3 z0 z1 z2 z3 zf H2
      by_cases hs : s.size = 0
      · have y1 : ¬ 0 < s.size := by omega
        have y2 : ¬ (0 : Int) < s.size := by omega
        have e : cs2 = cs1 ∧ ask2 = ask1 := ⟨by rw [HC2.out, if_neg (fun e => e.1 hs)], by rw [HA2.out, if_neg (fun e => e.1 hs)]⟩
        clear hs
        obtain ⟨rfl, rfl⟩ := e
        obtain ⟨d0, d1, d2, d3, df⟩ := cells4 H3.out.y
        go_wp2_with fail
        have ⟨g2, hfin⟩ := H3.out.same
        unfold put4 at g2 hfin
        generalize ((((World.setCell _ _ _).setCell _ _).setCell _ _).setCell _ _) = W9 at *
        obtain ⟨p0, p1, p2, p3, _⟩ := cells4 g2
        refine bodyPost_ret (v := .tuple #[.agg #[.int .i64 s.size, .slice a3 all2.length c3, .slice a1 cs2.length c1, .int .i64 ask2], .string val2, .bool (decide (0 ≤ pl))]) ?_ rfl ⟨_, _, rfl, hfin⟩
        clear g2 hfin HI HK H15 HL1 HC1 HA1 HC2 HA2 HAL HVA HPL H3 D1
        simp only [results, Try.f14]
        go_simp
      · have y1 : 0 < s.size := by omega
        have y2 : (0 : Int) < s.size := by omega
        by_cases ha : ask1 = 10 * s.size
        · have y3 : ((ask1 : Int) == 10 * (s.size : Int)) = true := by simpa using (by omega : (ask1 : Int) = 10 * (s.size : Int))
          have e : cs2 = halved cs1 ∧ ask2 = 0 := ⟨by rw [HC2.out, if_pos ⟨hs, ha⟩], by rw [HA2.out, if_pos ⟨hs, ha⟩]⟩
          have HE := Lib.hid e
          clear ha e
          go_wp2_with fail
          refine D4.out.mono ?_
          rintro e w5 ⟨cv', rfl, hm⟩
          rw [← HE.out.1] at hm
          obtain ⟨a5, c5, rfl⟩ := OffRow.shape hm.row
          have h4 := H3.out.keep hm.below
          have h5 := H3.out.newC 0 hm
          obtain ⟨z0, z1, z2, z3, zf⟩ := cells4 h4.x
          have H5 := Lib.hid h5
          clear h4 h5 hm y0 y1 y2 y3 yf D4
          go_upto_region 10 with fail
          have h5 := H5.out
          unfold put4 at h5
          generalize ((((World.setCell _ _ _).setCell _ _).setCell _ _).setCell _ _) = w7 at *
          have H6 := Lib.hid h5
          obtain ⟨x0, x1, x2, x3, xf⟩ := cells4 h5.x
          obtain ⟨d0, d1, d2, d3, df⟩ := cells4 h5.y
          clear h5 H5 z0 z1 z2 z3 zf
          go_wp2_with fail
          have ⟨g2, hfin⟩ := H6.out.same
          unfold put4 at g2 hfin
          generalize ((((World.setCell _ _ _).setCell _ _).setCell _ _).setCell _ _) = W9 at *
          obtain ⟨p0, p1, p2, p3, _⟩ := cells4 g2
          refine bodyPost_ret (v := .tuple #[.agg #[.int .i64 s.size, .slice a3 all2.length c3, .slice a5 cs2.length c5, .int .i64 0], .string val2, .bool (decide (0 ≤ pl))]) ?_ rfl ⟨_, _, by rw [HE.out.2]; rfl, hfin⟩
          clear g2 hfin HI HK H15 HL1 HC1 HA1 HC2 HA2 HAL HVA HPL H3 D1 H6 HE
          simp only [results, Try.f14]
          go_simp
        · have y3 : ((ask1 : Int) == 10 * (s.size : Int)) = false := by simpa using (by omega : ¬ (ask1 : Int) = 10 * (s.size : Int))
          have e : cs2 = cs1 ∧ ask2 = ask1 := ⟨by rw [HC2.out, if_neg (fun e => ha e.2)], by rw [HA2.out, if_neg (fun e => ha e.2)]⟩
          obtain ⟨rfl, rfl⟩ := e
          clear ha
          obtain ⟨d0, d1, d2, d3, df⟩ := cells4 H3.out.y
          go_wp2_with fail
          have ⟨g2, hfin⟩ := H3.out.same
          unfold put4 at g2 hfin
          generalize ((((World.setCell _ _ _).setCell _ _).setCell _ _).setCell _ _) = W9 at *
          obtain ⟨p0, p1, p2, p3, _⟩ := cells4 g2
          refine bodyPost_ret (v := .tuple #[.agg #[.int .i64 s.size, .slice a3 all2.length c3, .slice a1 cs2.length c1, .int .i64 ask2], .string val2, .bool (decide (0 ≤ pl))]) ?_ rfl ⟨_, _, rfl, hfin⟩
          clear g2 hfin HI HK H15 HL1 HC1 HA1 HC2 HA2 HAL HVA HPL H3 D1
          simp only [results, Try.f14]
          go_simp
end Go.Proofs.Ytoeekjooigijbaa

/-
  CacheDoes, proved for every input: whatever is asked for, offered, and forgotten, what it answers, what is there then, in order, and how high keys are counted, act by act, is just what the document says. No condition.
-/
import Derived.Test.YtoeekjooigijbaaBoth
import Derived.Test.YtoeekjooigijbaaRnew
import Derived.ChangeMaps5
namespace Go.Proofs.Ytoeekjooigijbaa
open Go.ChangeShapes Go.WideShapes Go.ChangeAt Go.RowKit
open Go.ChangeMaps (open_string shut_string)
set_option linter.unusedVariables false
set_option linter.unusedSimpArgs false

/-- Both in step, and the act's box: what the comparisons read. -/
def Jd (B : Nat) (w0 w : World) (cb tr ab : Nat) (s : St) (x : ActD) (tv cv : Value) : Prop := Both B w0 w cb tr s s tv cv ∧ ActBox w cb tr ab x
section
variable {B : Nat} {w0 w w' : World} {cb tr ab : Nat} {s : St} {x : ActD} {tv cv : Value}
theorem Jd.keep (h : Jd B w0 w cb tr ab s x tv cv) (hB : B ≤ w0.heap.size) (hb : Below w.heap.size w w') : Jd B w0 w' cb tr ab s x tv cv := ⟨h.1.keep hB hb, h.2.keep h.1 hb⟩
theorem Jd.drewN (h : Jd B w0 w cb tr ab s x tv cv) (hB : B ≤ w0.heap.size) (n : Nat) : Jd B w0 (w.drewN n) cb tr ab s x tv cv := h.keep hB (belowN _ _ _)
theorem Jd.loads (h : Jd B w0 w cb tr ab s x tv cv) : w.cell? ⟨tr, 0, none⟩ = some (.int .i64 s.size) ∧ w.cell? ⟨tr, 1, none⟩ = some tv ∧ w.cell? ⟨tr, 2, none⟩ = some cv ∧ w.cell? ⟨tr, 3, none⟩ = some (.int .i64 s.asked) ∧ w.cell? ⟨ab, 1, none⟩ = some (.string x.S) := by
  obtain ⟨c0, c1, c2, c3, _⟩ := cells4 h.1.x
  exact ⟨c0, c1, c2, c3, (cells33b h.2.1).2.1⟩
theorem Jd.keys (h : Jd B w0 w cb tr ab s x tv cv) (hB : B ≤ w0.heap.size) :
    Calls Try.prog 20 #[.pointer (some ⟨cb, 0, none⟩)] w fun e w' => ∃ va, e = .returned va ∧ StrsAt w' va (keysOf s) ∧ Jd B w0 w' cb tr ab s x tv cv ∧ (∀ u xs, StrsAt w u xs → StrsAt w' u xs) := by
  refine (h.1.own.keys hB).mono ?_
  rintro e w' ⟨va, rfl, hs, _, _, _, hb⟩
  exact ⟨va, rfl, hs, h.keep hB hb, fun u xs hu => hu.below (Nat.le_refl _) hb⟩
theorem Jd.rkeys (h : Jd B w0 w cb tr ab s x tv cv) (hB : B ≤ w0.heap.size) :
    Calls Try.prog 21 #[.agg #[.int .i64 s.size, tv, cv, .int .i64 s.asked]] w fun e w' => ∃ va, e = .returned va ∧ StrsAt w' va (keysOf s) ∧ Jd B w0 w' cb tr ab s x tv cv ∧ (∀ u xs, StrsAt w u xs → StrsAt w' u xs) := by
  refine (rkeys_any s.size s.asked tv cv s.all w h.1.t (by have := h.1.own.inv.all_le; omega)).mono ?_
  rintro e w' ⟨va, rfl, hm⟩
  exact ⟨va, rfl, keyVs_strs hm.row, h.keep hB hm.below, fun u xs hu => hu.below (Nat.le_refl _) hm.below⟩
theorem Jd.often (h : Jd B w0 w cb tr ab s x tv cv) {t : ByteArray} (ht : t.size ≤ maxLen) :
    Calls Try.prog 22 #[.pointer (some ⟨cb, 0, none⟩), .string t] w fun e w' => e = .returned (.int .i64 (often s.cs t)) ∧ w = w' := h.1.own.often ht
theorem Jd.roften (h : Jd B w0 w cb tr ab s x tv cv) (hB : B ≤ w0.heap.size) (t : ByteArray) :
    Calls Try.prog 23 #[.agg #[.int .i64 s.size, tv, cv, .int .i64 s.asked], .string t] w fun e w' => e = .returned (.int .i64 (Ytoeekjooigijbaa.often s.cs t)) ∧ Jd B w0 w' cb tr ab s x tv cv := by
  refine (roften_any s.size s.asked tv cv s.cs t w h.1.c (by have := h.1.own.inv.cs_le; omega)).mono ?_
  rintro e w' ⟨rfl, hb⟩
  exact ⟨rfl, h.keep hB hb⟩
theorem Jd.counted (h : Jd B w0 w cb tr ab s x tv cv) :
    Calls Try.prog 24 #[.pointer (some ⟨cb, 0, none⟩)] w fun e w' => e = .returned (.int .i64 s.cs.length) ∧ w = w' := h.1.own.counted
end

set_option maxHeartbeats 8000000 in
set_option maxRecDepth 100000 in
theorem does_any (size : Int) (l : List ActD) (v : Value) (key : ByteArray) (w : World) (h1 : -9223372036854775808 ≤ size) (h2 : size ≤ 9223372036854775807) (h : ActsAt w v l) (hm : l.length ≤ maxLen) (hks : key.size ≤ maxLen) :
    Calls Try.prog 3 #[.int .i64 size, v, .string key] w (BelowPost w (.bool true)) := by
  have hB := Nat.le_refl w.heap.size
  have DF := fun (w' : World) (ha : ActsAt w' v l) => few_any w' v l ha hm
  unfold maxLen at hm
  have HA := Lib.hid (fun (w' : World) (hb : Below w.heap.size w w') => acts_below h hb)
  obtain ⟨a, cap, rfl, hc⟩ := h
  obtain ⟨m, hmm⟩ : ∃ m, m = l.length := ⟨_, rfl⟩
  rw [← hmm] at HA DF ⊢
  have HC := Lib.hid hc
  have HN := Lib.hid hmm
  have HF := Lib.hid DF
  have HKS := Lib.hid hks
  have hm' : m ≤ 9223372036854775807 := by omega
  clear hm hc hmm DF
  have D0 := Lib.hid (works_any w)
  go_enter Try.func3, Try.ntmps3
  go_wp2_with fail
  refine D0.out.mono ?_
  rintro e w1 ⟨rfl, hb1⟩
  have D1 := Lib.hid (new_any size w1 h1 h2)
  have HB1 := Lib.hid hb1
  have hs1 := hb1.size
  clear hb1
  go_wp2_with fail
  refine D1.out.mono ?_
  rintro e w2 ⟨rfl, hc2, hb2⟩
  obtain ⟨sz, hsz⟩ : ∃ sz, sz = sizeI size := ⟨_, rfl⟩
  rw [← hsz] at hc2
  have hsz64 : sz ≤ 64 := by have := sizeI_three size; omega
  have H2 : Hid (Own w.heap.size w w2 (w1.heap.size + 1) (emptyS sz)) := Lib.hid (own_new hsz64 hs1 HB1.out hc2 hb2)
  obtain ⟨cb, hcb⟩ : ∃ cb, cb = w1.heap.size + 1 := ⟨_, rfl⟩
  rw [← hcb] at H2 ⊢
  have DFe := HF.out w2 (HA.out w2 H2.out.below)
  have DR := rnew_any size w2 h1 h2
  rw [← hsz] at DR
  unfold refV at DR
  have DR := Lib.hid DR
  clear hc2 hb2 hcb hsz
  go_wp2_with fail
  refine DFe.mono ?_
  rintro e w' ⟨bf, rfl, hlen, hww⟩
  have hww' := hww.symm
  subst hww'
  clear DFe hww
  cases bf with
  | false =>
    clear hlen
    go_wp2_with fail
    go_ret
    exact ⟨rfl, H2.out.below⟩
  | true =>
    have hfew := hlen rfl
    have hle : m ≤ 200 := by rw [HN.out]; exact hfew.1
    have HFEW := Lib.hid hfew
    clear hlen hfew
    by_cases hsk : key.size ≤ 50
    · have hsk' : ¬ (50 : Int) < (key.size : Int) := by omega
      have hsk2 : decide (50 < key.size) = false := decide_eq_false (by omega)
      go_wp2_with fail
      refine DR.out.mono ?_
      rintro e w3 ⟨rfl, hb3⟩
      go_upto_region 9 with fail
      obtain ⟨w4, hw4⟩ : ∃ w4, w4 = w3.alloc (.cells #[.int .i64 sz, .slice none 0 0, .slice none 0 0, .int .i64 0] 30) := ⟨_, rfl⟩
      obtain ⟨tr, htr⟩ : ∃ tr, tr = w3.heap.size := ⟨_, rfl⟩
      rw [← hw4, ← htr]
      have HBO : Hid (Both w.heap.size w w4 cb tr (emptyS sz) (emptyS sz) (.slice none 0 0) (.slice none 0 0)) := Lib.hid (by rw [hw4, htr]; exact Both.start (H2.out.keep hB hb3) hB rfl)
      clear hw4 htr hb3 H2 DR
      go_wp2_with fail
      go_loopw [11] (fun i wr => ∃ (k : Nat) (s : St) (tv cv : Value), k ≤ m ∧ i = .int .i64 k ∧ Both w.heap.size w wr cb tr s s tv cv) (fun i _ => m - (intOf i).toNat)
      case atStart => exact ⟨0, _, _, _, Nat.zero_le _, rfl, HBO.out⟩
      case round =>
        obtain ⟨k, s, tv, cv, hk, rfl, hbo⟩ := hrel
        clear HBO
        by_cases hkn : k < m
        · obtain ⟨x, hx⟩ : ∃ x, l[k]? = some x := ⟨_, List.getElem?_eq_getElem (by rw [← HN.out]; exact hkn)⟩
          obtain ⟨b, o, rfl, q⟩ := HC.out k x hx
          obtain ⟨q0, q1, q2⟩ := act_cells hbo.own.below q
          have hxs := HFEW.out.2 x (List.mem_of_getElem? hx)
          have hxm : x.S.size ≤ maxLen := by unfold maxLen; omega
          have b1 : (k : Int) < (m : Int) := by omega
          obtain ⟨ab, hab⟩ : ∃ ab, ab = wr.heap.size := ⟨_, rfl⟩
          obtain ⟨w5, hw5⟩ : ∃ w5, w5 = wr.alloc (.cells #[.int .i64 x.K, .string x.S, .string x.V] 33) := ⟨_, rfl⟩
          have hb5 : Below wr.heap.size wr w5 := by rw [hw5]; exact (Below.refl _ wr).alloc (Nat.le_refl _) _
          have hJ := hbo.keep hB hb5
          have hAB : ActBox w5 cb tr ab x := ⟨by rw [hw5, hab]; exact heap_alloc_new wr _, hbo.own.fresh (by omega) hb5 (by rw [hw5, hab]; simp)⟩
          have HXM := Lib.hid hxm
          have HJ := Lib.hid hJ
          have HAB := Lib.hid hAB
          clear hx q hxs hxm hbo hb5 hJ hAB
          go_upto_region 13 with fail
          rw [← hw5, ← hab]
          clear hw5 hab q0 q1 q2
          obtain ⟨p0, p1, p2⟩ := cells33b HAB.out.1
          go_upto_if 54 with fail
          go_cut [13, 14, 15, 16] (fun s13 s14 s15 s16 wx => ∃ (s' : St) (vv : ByteArray) (ok : Bool) (tv' cv' : Value), s13 = .string vv ∧ s14 = .bool ok ∧ s15 = .string vv ∧ s16 = .bool ok ∧ Both w.heap.size w wx cb tr s' s' tv' cv' ∧ ActBox wx cb tr ab x)
          case first =>
            by_cases c0 : x.K = 0
            · have y0 : (x.K == 0) = true := by rw [c0]; rfl
              have D5 := Lib.hid (HJ.out.own.get hB HXM.out)
              obtain ⟨s', hs'⟩ : ∃ s', s' = (getS s x.S).1 := ⟨_, rfl⟩
              obtain ⟨vv, hvv⟩ : ∃ vv, vv = (getS s x.S).2.1 := ⟨_, rfl⟩
              obtain ⟨ok, hok⟩ : ∃ ok, ok = (getS s x.S).2.2 := ⟨_, rfl⟩
              have DG := Lib.hid (fun (w6 : World) (ht : RowT w6 tv s.all) (hc : RowC w6 cv s.cs) => rget_any s tv cv x.S w6 HJ.out.own.inv HXM.out ht hc)
              rw [← hs', ← hvv, ← hok] at D5 DG
              clear c0 hs' hvv hok
              go_wp2_with fail
              refine D5.out.mono ?_
              rintro e w6 ⟨rfl, ho6, hk6⟩
              have hJ6 := HJ.out.step ho6 hk6
              have hA6 := HAB.out.step hk6
              have DG6 := DG.out w6 hJ6.t hJ6.c
              obtain ⟨ta, tc, hta⟩ := OffRow.shape hJ6.t
              obtain ⟨ca, cc, hca⟩ := OffRow.shape hJ6.c
              subst hta
              subst hca
              unfold refV at DG6
              have DG6 := Lib.hid DG6
              obtain ⟨t0, t1, t2, t3, tf⟩ := cells4 hJ6.x
              clear p0 p1 p2
              obtain ⟨p0, p1, p2⟩ := cells33b hA6.1
              have HJ6 := Lib.hid hJ6
              have HA6 := Lib.hid hA6
              clear ho6 hk6 hJ6 hA6 DG D5
              go_wp2_with fail
              refine DG6.out.mono ?_
              rintro e w7 ⟨tv', cv', rfl, hr7⟩
              obtain ⟨ta', tc', rfl⟩ := OffRow.shape hr7.t
              obtain ⟨ca', cc', rfl⟩ := OffRow.shape hr7.c
              have HP := Lib.hid (And.intro (HJ6.out.put hB hr7) (HA6.out.put HJ6.out hB hr7.below (.int .i64 s'.size) (.slice ta' s'.all.length tc') (.slice ca' s'.cs.length cc') (.int .i64 s'.asked)))
              clear t0 t1 t2 t3 tf p0 p1 p2
              obtain ⟨t0, t1, t2, t3, tf⟩ := cells4 (HJ6.out.keep hB hr7.below).x
              unfold refV
              clear hr7 DG6
              go_wp2_with fail
              go_meet
              have hP := HP.out
              unfold put4 at hP
              exact ⟨s', vv, ok, _, _, rfl, rfl, rfl, rfl, hP.1, hP.2⟩
            · by_cases c1 : x.K = 1
              · have y0 : (x.K == 0) = false := by simpa using c0
                have y1 : (x.K == 1) = true := by rw [c1]; rfl
                have D5 := Lib.hid (HJ.out.own.offer hB x.V HXM.out)
                obtain ⟨s', hs'⟩ : ∃ s', s' = (offerS s x.S x.V).1 := ⟨_, rfl⟩
                obtain ⟨ok, hok⟩ : ∃ ok, ok = (offerS s x.S x.V).2 := ⟨_, rfl⟩
                have DG := Lib.hid (fun (w6 : World) (ht : RowT w6 tv s.all) (hc : RowC w6 cv s.cs) => roffer_any s tv cv x.S x.V w6 HJ.out.own.inv ht hc)
                rw [← hs', ← hok] at D5 DG
                clear c0 c1 hs' hok
                go_wp2_with fail
                refine D5.out.mono ?_
                rintro e w6 ⟨rfl, ho6, hk6⟩
                have hJ6 := HJ.out.step ho6 hk6
                have hA6 := HAB.out.step hk6
                have DG6 := DG.out w6 hJ6.t hJ6.c
                obtain ⟨ta, tc, hta⟩ := OffRow.shape hJ6.t
                obtain ⟨ca, cc, hca⟩ := OffRow.shape hJ6.c
                subst hta
                subst hca
                unfold refV at DG6
                have DG6 := Lib.hid DG6
                obtain ⟨t0, t1, t2, t3, tf⟩ := cells4 hJ6.x
                clear p0 p1 p2
                obtain ⟨p0, p1, p2⟩ := cells33b hA6.1
                have HJ6 := Lib.hid hJ6
                have HA6 := Lib.hid hA6
                clear ho6 hk6 hJ6 hA6 DG D5
                go_wp2_with fail
                refine DG6.out.mono ?_
                rintro e w7 ⟨tv', cv', rfl, hr7⟩
                obtain ⟨ta', tc', rfl⟩ := OffRow.shape hr7.t
                obtain ⟨ca', cc', rfl⟩ := OffRow.shape hr7.c
                have HP := Lib.hid (And.intro (HJ6.out.put hB hr7) (HA6.out.put HJ6.out hB hr7.below (.int .i64 s'.size) (.slice ta' s'.all.length tc') (.slice ca' s'.cs.length cc') (.int .i64 s'.asked)))
                clear t0 t1 t2 t3 tf p0 p1 p2
                obtain ⟨t0, t1, t2, t3, tf⟩ := cells4 (HJ6.out.keep hB hr7.below).x
                unfold refV
                clear hr7 DG6
                go_wp2_with fail
                go_meet
                have hP := HP.out
                unfold put4 at hP
                exact ⟨s', ⟨#[]⟩, ok, _, _, rfl, rfl, rfl, rfl, hP.1, hP.2⟩
              · have y0 : (x.K == 0) = false := by simpa using c0
                have y1 : (x.K == 1) = false := by simpa using c1
                have D5 := Lib.hid (HJ.out.own.forget hB x.S)
                obtain ⟨s', hs'⟩ : ∃ s', s' = (forgetS s x.S).1 := ⟨_, rfl⟩
                obtain ⟨ok, hok⟩ : ∃ ok, ok = (forgetS s x.S).2 := ⟨_, rfl⟩
                have DG := Lib.hid (fun (w6 : World) (ht : RowT w6 tv s.all) (hc : RowC w6 cv s.cs) => rforget_any s tv cv x.S w6 HJ.out.own.inv ht hc)
                rw [← hs', ← hok] at D5 DG
                clear c0 c1 hs' hok
                go_wp2_with fail
                refine D5.out.mono ?_
                rintro e w6 ⟨rfl, ho6, hk6⟩
                have hJ6 := HJ.out.step ho6 hk6
                have hA6 := HAB.out.step hk6
                have DG6 := DG.out w6 hJ6.t hJ6.c
                obtain ⟨ta, tc, hta⟩ := OffRow.shape hJ6.t
                obtain ⟨ca, cc, hca⟩ := OffRow.shape hJ6.c
                subst hta
                subst hca
                unfold refV at DG6
                have DG6 := Lib.hid DG6
                obtain ⟨t0, t1, t2, t3, tf⟩ := cells4 hJ6.x
                clear p0 p1 p2
                obtain ⟨p0, p1, p2⟩ := cells33b hA6.1
                have HJ6 := Lib.hid hJ6
                have HA6 := Lib.hid hA6
                clear ho6 hk6 hJ6 hA6 DG D5
                go_wp2_with fail
                refine DG6.out.mono ?_
                rintro e w7 ⟨tv', cv', rfl, hr7⟩
                obtain ⟨ta', tc', rfl⟩ := OffRow.shape hr7.t
                obtain ⟨ca', cc', rfl⟩ := OffRow.shape hr7.c
                have HP := Lib.hid (And.intro (HJ6.out.put hB hr7) (HA6.out.put HJ6.out hB hr7.below (.int .i64 s'.size) (.slice ta' s'.all.length tc') (.slice ca' s'.cs.length cc') (.int .i64 s'.asked)))
                clear t0 t1 t2 t3 tf p0 p1 p2
                obtain ⟨t0, t1, t2, t3, tf⟩ := cells4 (HJ6.out.keep hB hr7.below).x
                unfold refV
                clear hr7 DG6
                go_wp2_with fail
                go_meet
                have hP := HP.out
                unfold put4 at hP
                exact ⟨s', ⟨#[]⟩, ok, _, _, rfl, rfl, rfl, rfl, hP.1, hP.2⟩
          case rest =>
            obtain ⟨s', vv, ok, tv', cv', rfl, rfl, rfl, rfl, hJ, hA⟩ := hcut
            obtain ⟨ta, tc, rfl⟩ := OffRow.shape hJ.t
            obtain ⟨ca, cc, rfl⟩ := OffRow.shape hJ.c
            have jd0 : Jd w.heap.size w wc cb tr ab s' x (.slice ta s'.all.length tc) (.slice ca s'.cs.length cc) := ⟨hJ, hA⟩
            clear hJ hA HJ HAB p0 p1 p2
            go_upto_region 25 with fail
            go_cut [142] (fun s142 wx => s142 = .bool false ∧ Jd w.heap.size w wx cb tr ab s' x (.slice ta s'.all.length tc) (.slice ca s'.cs.length cc))
            case first =>
              have jdd : Jd w.heap.size w wc.drew cb tr ab s' x (.slice ta s'.all.length tc) (.slice ca s'.cs.length cc) := jd0.keep hB ⟨rfl, rfl, rfl, Nat.le_refl _, fun _ _ => rfl⟩
              obtain ⟨c0, c1, c2, c3, ck⟩ := jd0.loads
              have SAME := Lib.hid (fun (w8 : World) (va vb : Value) (ha : StrsAt w8 va (keysOf s')) (hb : StrsAt w8 vb (keysOf s')) => same_true w8 va vb (keysOf s') ha hb (by unfold keysOf; rw [List.length_map]; have := jd0.1.own.inv.all_le; unfold maxLen; omega))
              go_region_held3 (fun w' => w'.cell? ⟨tr, 0, none⟩ = some (.int .i64 s'.size) ∧ w'.cell? ⟨tr, 1, none⟩ = some (.slice ta s'.all.length tc) ∧ w'.cell? ⟨tr, 2, none⟩ = some (.slice ca s'.cs.length cc) ∧ w'.cell? ⟨tr, 3, none⟩ = some (.int .i64 s'.asked) ∧ w'.cell? ⟨ab, 1, none⟩ = some (.string x.S)) (first | assumption | (refine ⟨?_, ?_, ?_, ?_, ?_⟩ <;> assumption) | go_keep)
                                    (first
                                     | (go_at_call 20;
                                        refine (Jd.keys (s := s') (x := x) (tr := tr) (ab := ab) (tv := .slice ta s'.all.length tc) (cv := .slice ca s'.cs.length cc) (by assumption) hB).mono ?_;
                                        rintro e w9 ⟨va, rfl, hva, jd, trr⟩;
                                        obtain ⟨c0, c1, c2, c3, ck⟩ := jd.loads;
                                        have KA := Lib.hid hva;
                                        have TR := Lib.hid trr;
                                        clear hva trr)
                                     | (go_at_call 21;
                                        refine (Jd.rkeys (s := s') (x := x) (tr := tr) (cb := cb) (ab := ab) (by assumption) hB).mono ?_;
                                        rintro e w9 ⟨vb, rfl, hvb, jd, trr⟩;
                                        obtain ⟨c0, c1, c2, c3, ck⟩ := jd.loads;
                                        have KB := Lib.hid hvb;
                                        have TR := Lib.hid trr;
                                        clear hvb trr)
                                     | (go_at_call 19;
                                        refine (SAME.out _ _ _ (by first | exact KA.out | exact TR.out _ _ KA.out) (by first | exact KB.out | exact TR.out _ _ KB.out)).mono ?_;
                                        rintro e w9 ⟨rfl, qn, hw9⟩;
                                        have jd : Jd w.heap.size w w9 cb tr ab s' x (.slice ta s'.all.length tc) (.slice ca s'.cs.length cc) := by (rw [hw9]; exact Jd.drewN (by assumption) hB qn);
                                        obtain ⟨c0, c1, c2, c3, ck⟩ := jd.loads;
                                        clear hw9)
                                     | (go_at_call 22;
                                        refine (Jd.often (s := s') (x := x) (tr := tr) (ab := ab) (tv := .slice ta s'.all.length tc) (cv := .slice ca s'.cs.length cc) (by assumption) (by first | exact HXM.out | exact HKS.out)).mono ?_;
                                        rintro e w9 ⟨rfl, hw9⟩;
                                        have hw9' := hw9.symm;
                                        subst hw9';
                                        clear hw9)
                                     | (go_at_call 23;
                                        refine (Jd.roften (s := s') (x := x) (tr := tr) (cb := cb) (ab := ab) (by assumption) hB _).mono ?_;
                                        rintro e w9 ⟨rfl, jd⟩;
                                        obtain ⟨c0, c1, c2, c3, ck⟩ := jd.loads)
                                     | (go_at_call 24;
                                        refine (Jd.counted (s := s') (x := x) (tr := tr) (ab := ab) (tv := .slice ta s'.all.length tc) (cv := .slice ca s'.cs.length cc) (by assumption)).mono ?_;
                                        rintro e w9 ⟨rfl, hw9⟩;
                                        have hw9' := hw9.symm;
                                        subst hw9';
                                        clear hw9))
              all_goals
                go_wp2_with fail
                go_meet
                exact ⟨rfl, by assumption⟩
            case rest =>
              obtain ⟨rfl, hj⟩ := hcut
              have HJ2 := Lib.hid hj
              clear hj jd0
              go_wp2_with fail
              exact ⟨⟨k + 1, s', _, _, by omega, by go_num, HJ2.out.1⟩, by simp [intOf]; omega⟩
        · have b1 : ¬ (k : Int) < (m : Int) := by omega
          go_wp2_with fail
          go_ret
          exact ⟨rfl, hbo.own.below⟩
    · have hsk' : (50 : Int) < (key.size : Int) := by omega
      have hsk2 : decide (50 < key.size) = true := decide_eq_true (by omega)
      go_wp2_with fail
      go_ret
      exact ⟨rfl, H2.out.below⟩

set_option maxRecDepth 100000 in
theorem cacheDoes_lifted (os : Os) (started : os.Started) (H : Type) (enc : TypeId × Value → H) :
    ReturnsInHanded {} Try.checked os 3 .any (Rows.cacheDoesSpec.pre6 enc Try.prog Try.f3 Rows.cacheDoesRow.domain false) (Rows.cacheDoesSpec.post enc Try.prog Try.f3 false true false false) := by
  refine returnsInHanded_of_change (C := Try.checked) own started (by kernel_rfl) Try.func3
    (ChangeSpec.witness6 (enc := enc) (C := Try.checked) false ⟨#[], #[.int .i64 0, .slice none 0 0, .string .empty], []⟩ 8 (by kernel_rfl) (by kernel_rfl) (by kernel_rfl) (by kernel_rfl)) ?_
  intro W base args ds gs before hval0 hW hcnd _
  have hval : ∀ (j : Nat) t v, Try.f3.params[j]? = some t → args[j]? = some v → Value.okWide Try.prog W .any base t v := hval0
  have hW' := hW
  obtain ⟨p, q, hA0, hV, rfl, hfz, hnd⟩ := hW
  have hA : DataW.TrodAll enc Try.prog W 0 (fun _ => true) true Try.f3.params.toList args.toList ds p := hA0
  rw [Try.params3] at hA hval
  obtain ⟨v0, vs0, d0, ds0, p0, q0, hargs, rfl, rfl, h0, r0⟩ := trodAll_cons hA
  obtain ⟨v1, vs1, d1, ds1, p1, q1, rfl, rfl, rfl, h1, r1⟩ := trodAll_cons r0
  obtain ⟨v2, vs2, d2, ds2, p2, q2, rfl, rfl, rfl, h2, r2⟩ := trodAll_cons r1
  obtain ⟨rfl, rfl, rfl⟩ := trodAll_nil r2
  obtain rfl : args = #[v0, v1, v2] := by cases args; simp_all
  obtain ⟨rfl, rfl⟩ := trodVars_none hV
  obtain ⟨size, rfl, rfl, rfl, w0⟩ := open_int Try.underlying3 (hval 0 3 v0 rfl rfl) h0
  have b0 := Go.bounds_i64 w0
  obtain ⟨a1, len1, cap1, rfl⟩ := okWide_slice Try.underlying22 (hval 1 22 v1 rfl rfl)
  have k1 := h1
  have lt1 : ∀ x ∈ p1, x.block < W.heap.size := by obtain ⟨m, hm⟩ := k1; exact DataW.trod_lt m _ _ _ hm
  obtain ⟨l, hs1, hlen1⟩ : ∃ l, ActsAt W (.slice a1 len1 cap1) l ∧ l.length ≤ maxLen := by
    obtain ⟨fuel, hf⟩ := h1
    obtain ⟨v, xs, hv, h2, h3⟩ := acts_of hf
    simp [Value.cells] at hv
    subst hv
    exact ⟨xs, h2, h3⟩
  obtain ⟨key, rfl, rfl, rfl, w2⟩ := open_string Try.underlying9 (hval 2 9 v2 rfl rfl) h2
  clear hA0 hval0
  refine (does_any size l _ key W b0.1 b0.2 hs1 hlen1 w2).mono fun e W' ⟨he, bel⟩ => ?_
  subst he
  exact ⟨_, rfl, _, _, _, [], _, [], hW', trodAll_mk1 (shut_bool Try.underlying4 _), (trodAll_cons_mk (shut_int Try.underlying3 w0) (trodAll_cons_mk (Below.trod laidOut (by kernel_rfl) (of_decide_eq_true (by kernel_rfl)) k1 bel lt1) (trodAll_cons_mk (shut_string Try.underlying9 w2) trodAll_mk0))), rfl, bel.frame _, fun h => by cases h⟩

theorem cacheDoes_holds : Rows.CacheDoesSaid :=
  OpenClaim.holds_of_wide 3 Try.f3 rfl rfl rfl rfl rfl rfl rfl ⟨rfl, rfl, rfl, rfl, rfl⟩ rfl rfl rfl rfl rfl (by kernel_rfl) Try.func3 (by kernel_rfl)
    (of_decide_eq_true (by kernel_rfl)) (by unfold Func.isWrapper; first | (rw [if_pos (by decide +kernel)]; kernel_rfl) | (rw [if_neg (by decide +kernel)]; exact ⟨rfl, rfl⟩))
    (fun os started H enc _ => cacheDoes_lifted os started H enc)
#print axioms cacheDoes_holds
end Go.Proofs.Ytoeekjooigijbaa

/-
  CacheRoom, proved for every input: never more things than its size, never more counted keys than twenty times that; what is there was offered. No condition.
-/
import Derived.Test.YtoeekjooigijbaaSrc
import Derived.Deep.DeepCutAuto
namespace Go.Proofs.Ytoeekjooigijbaa
open Go.ChangeShapes Go.WideShapes Go.ChangeAt Go.RowKit
set_option linter.unusedVariables false
set_option linter.unusedSimpArgs false

/-- Is a thing among those that were offered? -/
def mt (l : List ActD) (k x : ByteArray) : Bool := l.any fun a => decide (a.K = 1) && decide (a.S = k) && decide (a.V = x)
theorem mt_snoc (l : List ActD) (a : ActD) (k x : ByteArray) : mt (l ++ [a]) k x = (mt l k x || (decide (a.K = 1) && decide (a.S = k) && decide (a.V = x))) := by unfold mt; simp
def stepS (s : St) (a : ActD) : St := if a.K = 0 then (getS s a.S).1 else if a.K = 1 then (offerS s a.S a.V).1 else (forgetS s a.S).1
def Off (l : List ActD) (s : St) : Prop := ∀ p ∈ s.all, mt l p.1 p.2 = true

theorem get_mem (s : St) (k : ByteArray) : ∀ p ∈ (getS s k).1.all, p ∈ s.all := by
  unfold getS
  split
  · exact fun p hp => hp
  · split
    · intro p hp; rw [tick_all] at hp; exact hp
    · rename_i i hi
      obtain ⟨q, hq, _, _⟩ := place_lt hi
      rw [hq]
      intro p hp
      rcases List.mem_cons.1 hp with rfl | hp
      · exact List.mem_of_getElem? hq
      · exact erase_mem hp
theorem offer_mem (s : St) (k x : ByteArray) : ∀ p ∈ (offerS s k x).1.all, p = (k, x) ∨ p ∈ s.all := by
  unfold offerS
  split
  · intro p hp
    rcases List.mem_cons.1 hp with rfl | hp
    · exact .inl rfl
    · exact .inr (erase_mem hp)
  · split
    · intro p hp
      rcases List.mem_cons.1 hp with rfl | hp
      · exact .inl rfl
      · exact .inr hp
    · split
      · exact fun p hp => .inr hp
      · split
        · exact fun p hp => .inr hp
        · intro p hp
          rcases List.mem_cons.1 hp with rfl | hp
          · exact .inl rfl
          · exact .inr (erase_mem hp)
theorem forget_mem (s : St) (k : ByteArray) : ∀ p ∈ (forgetS s k).1.all, p ∈ s.all := by
  unfold forgetS
  split
  · exact fun p hp => erase_mem hp
  · exact fun p hp => hp
theorem off_step {l : List ActD} {s : St} (h : Off l s) (a : ActD) : Off (l ++ [a]) (stepS s a) := fun p hp => by
  rw [mt_snoc, Bool.or_eq_true]
  unfold stepS at hp
  by_cases k0 : a.K = 0
  · rw [if_pos k0] at hp
    exact .inl (h p (get_mem s _ p hp))
  · rw [if_neg k0] at hp
    by_cases k1 : a.K = 1
    · rw [if_pos k1] at hp
      rcases offer_mem s _ _ p hp with rfl | hp
      · exact .inr (by simp [k1])
      · exact .inl (h p hp)
    · rw [if_neg k1] at hp
      exact .inl (h p (forget_mem s _ p hp))
theorem step_size (s : St) (a : ActD) : (stepS s a).size = s.size := by
  unfold stepS
  split
  · exact get_size _ _
  · split
    · exact offer_size _ _ _
    · exact forget_size _ _
theorem get_told {l : List ActD} {s : St} (h : Off l s) (k : ByteArray) :
    ((getS s k).2.2 = true → mt l k (getS s k).2.1 = true) ∧ ((getS s k).2.2 = false → (getS s k).2.1 = ⟨#[]⟩) := by
  unfold getS
  split
  · exact ⟨(fun h => by cases h), fun _ => rfl⟩
  · split
    · exact ⟨(fun h => by cases h), fun _ => rfl⟩
    · rename_i i hi
      obtain ⟨q, hq, hqk, _⟩ := place_lt hi
      rw [hq]
      exact ⟨fun _ => by rw [← hqk]; exact h q (List.mem_of_getElem? hq), (fun h => by cases h)⟩
def lastS (b : Bool) (v : ByteArray) : ByteArray := if b then v else ⟨#[]⟩

set_option maxHeartbeats 8000000 in
set_option maxRecDepth 100000 in
theorem room_any (size : Int) (l : List ActD) (v : Value) (w : World) (h1 : -9223372036854775808 ≤ size) (h2 : size ≤ 9223372036854775807) (h : ActsAt w v l) (hm : l.length ≤ maxLen) :
    Calls Try.prog 4 #[.int .i64 size, v] w (BelowPost w (.bool true)) := by
  have hB := Nat.le_refl w.heap.size
  have DF := fun (w' : World) (ha : ActsAt w' v l) => few_any w' v l ha hm
  unfold maxLen at hm
  have HA := Lib.hid (fun (w' : World) (hb : Below w.heap.size w w') => acts_below h hb)
  obtain ⟨a, cap, rfl, hc⟩ := h
  obtain ⟨m, hmm⟩ : ∃ m, m = l.length := ⟨_, rfl⟩
  rw [← hmm] at HA DF ⊢
  have HC := Lib.hid hc
  have HN := Lib.hid hmm
  have HF := Lib.hid DF
  have hm' : m ≤ 9223372036854775807 := by omega
  clear hm hc hmm DF
  have D0 := Lib.hid (works_any w)
  go_enter Try.func4, Try.ntmps4
  go_wp2_with fail
  refine D0.out.mono ?_
  rintro e w1 ⟨rfl, hb1⟩
  have D1 := Lib.hid (new_any size w1 h1 h2)
  have HB1 := Lib.hid hb1
  have hs1 := hb1.size
  clear hb1
  go_wp2_with fail
  refine D1.out.mono ?_
  rintro e w2 ⟨rfl, hc2, hb2⟩
  have h3s := sizeI_three size
  obtain ⟨sz, hsz⟩ : ∃ sz, sz = sizeI size := ⟨_, rfl⟩
  rw [← hsz] at hc2 h3s
  have hsz64 : sz ≤ 64 := by omega
  have H2 : Hid (Own w.heap.size w w2 (w1.heap.size + 1) (emptyS sz)) := Lib.hid (own_new hsz64 hs1 HB1.out hc2 hb2)
  obtain ⟨cb, hcb⟩ : ∃ cb, cb = w1.heap.size + 1 := ⟨_, rfl⟩
  rw [← hcb] at H2 ⊢
  have H3 := Lib.hid h3s
  clear hc2 hb2 hcb hsz h3s
  have DFe := HF.out w2 (HA.out w2 H2.out.below)
  go_wp2_with fail
  refine DFe.mono ?_
  rintro e w' ⟨bf, rfl, hlen, rfl⟩
  clear DFe
  cases bf with
  | false =>
    clear hlen
    go_wp2_with fail
    go_ret
    exact ⟨rfl, H2.out.below⟩
  | true =>
    have hfew := hlen rfl
    have hle : m ≤ 200 := by rw [HN.out]; exact hfew.1
    have HFEW := Lib.hid hfew.2
    clear hlen hfew
    go_upto_region 8 with fail
    go_cut [8] (fun s8 wx => s8 = .int .i64 (sz : Int) ∧ wx = w2)
    case first =>
      rcases H3.out with ⟨r1, r2⟩ | ⟨r1, r2⟩ | ⟨r1, r2, r3⟩
      · subst r2
        go_wp2_with fail
        go_meet
        exact ⟨rfl, rfl⟩
      · subst r2
        have r2 : (0 : Int) ≤ size := by omega
        go_wp2_with fail
        go_meet
        exact ⟨rfl, rfl⟩
      · have HR := Lib.hid r3
        clear r3
        go_wp2_with fail
        go_meet
        exact ⟨by rw [HR.out], rfl⟩
    case rest =>
      obtain ⟨rfl, hw⟩ := hcut
      have hw' := hw.symm
      subst hw'
      clear hw
      go_wp2_with fail
      go_loopw [9] (fun i wr => ∃ k : Nat, k ≤ m ∧ i = .int .i64 k ∧ ∃ s, s.size = sz ∧ Off (l.take k) s ∧ Own w.heap.size w wr cb s) (fun i _ => m - (intOf i).toNat)
      case atStart => exact ⟨0, Nat.zero_le _, rfl, emptyS sz, rfl, fun p hp => by simp [emptyS] at hp, H2.out⟩
      case round =>
        obtain ⟨k, hk, rfl, s, hss, hoff, hown⟩ := hrel
        have HSS := Lib.hid hss
        have HO := Lib.hid hown
        have HOFF := Lib.hid hoff
        by_cases hkn : k < m
        · obtain ⟨x, hx⟩ : ∃ x, l[k]? = some x := ⟨_, List.getElem?_eq_getElem (by rw [← HN.out]; exact hkn)⟩
          obtain ⟨b, o, rfl, q⟩ := HC.out k x hx
          obtain ⟨q0, q1, q2⟩ := act_cells hown.below q
          have hxs : x.S.size ≤ maxLen := by have := (HFEW.out x (List.mem_of_getElem? hx)).1; unfold maxLen; omega
          have hts : l.take (k + 1) = l.take k ++ [x] := by rw [List.take_add_one, hx]; rfl
          have hos := off_step hoff x
          rw [← hts] at hos
          have hssz := (step_size s x).trans hss
          have HTS := Lib.hid hts
          have HOS := Lib.hid hos
          have HSSZ := Lib.hid hssz
          obtain ⟨K, S, V⟩ := x
          dsimp only at q0 q1 q2 hxs
          have b1 : (k : Int) < (m : Int) := by omega
          have HB0 := Lib.hid hown.below
          have hA := hown.alloc hB (.cells #[.int .i64 K, .string S, .string V] 33)
          have hxb := heap_alloc_new wr (.cells #[.int .i64 K, .string S, .string V] 33)
          have hxa : Apart (wr.alloc (.cells #[.int .i64 K, .string S, .string V] 33)) cb wr.heap.size := hown.fresh (Nat.le_refl _) ((Below.refl _ wr).alloc (Nat.le_refl _) _) (by simp)
          obtain ⟨s', hs'⟩ : ∃ s', s' = stepS s ⟨K, S, V⟩ := ⟨_, rfl⟩
          rw [← hs'] at HOS HSSZ
          have HS' := Lib.hid hs'
          obtain ⟨ab, hab⟩ : ∃ ab, ab = wr.heap.size := ⟨_, rfl⟩
          obtain ⟨wa, hwa⟩ : ∃ wa, wa = wr.alloc (.cells #[.int .i64 K, .string S, .string V] 33) := ⟨_, rfl⟩
          rw [← hwa] at hA hxb hxa
          rw [← hab] at hxb hxa
          have HA2 := Lib.hid hA
          have HXB := Lib.hid hxb
          have HXA := Lib.hid hxa
          have a0 : wa.cell? ⟨ab, 0, none⟩ = some (.int .i64 K) := by simp [World.cell?, hxb]
          have a1 : wa.cell? ⟨ab, 1, none⟩ = some (.string S) := by simp [World.cell?, hxb]
          have a2 : wa.cell? ⟨ab, 2, none⟩ = some (.string V) := by simp [World.cell?, hxb]
          clear q hown hx hss hoff hts hos hssz hA hxb hxa hs'
          go_upto_region 13 with fail
          rw [← hab, ← hwa]
          have HAB := Lib.hid hab
          have HWA := Lib.hid hwa
          clear hab hwa
          go_upto_if 48 with fail
          go_cut [] (fun wx => Own w.heap.size w wx cb s' ∧ wx.heap[ab]? = some (.cells #[.int .i64 K, .string S, .string V] 33 (0, 0)))
          case first =>
            by_cases k0 : K = 0
            · have b0 : (K == 0) = true := by rw [beq_iff_eq]; exact k0
              have e1 : s' = (getS s S).1 := by rw [HS'.out]; unfold stepS; rw [if_pos k0]
              have D := Lib.hid (HA2.out.get hB hxs)
              rw [← e1] at D
              obtain ⟨t1, t2⟩ := get_told HOFF.out S
              obtain ⟨gv, hgv⟩ : ∃ gv, gv = (getS s S).2.1 := ⟨_, rfl⟩
              obtain ⟨ok, hok⟩ : ∃ ok, ok = (getS s S).2.2 := ⟨_, rfl⟩
              rw [← hgv, ← hok] at D t1 t2
              have HT1 := Lib.hid t1
              have HT2 := Lib.hid t2
              clear k0 e1 t1 t2 hgv hok
              go_wp2_with fail
              refine D.out.mono ?_
              rintro e w4 ⟨rfl, h4, hk4⟩
              obtain ⟨e4, hx4⟩ := hk4 ab HXA.out
              have a1' : w4.cell? ⟨ab, 1, none⟩ = some (.string S) := (World.cell?_of_block (a := ⟨ab, 1, none⟩) e4).trans a1
              have H4 := Lib.hid h4
              have E4 := Lib.hid (e4.trans HXB.out)
              clear h4 hk4 e4 hx4
              go_wp2_with fail
              go_loopw [13, 14] (fun u i wr' => ∃ t : Nat, t ≤ k ∧ i = .int .i64 t ∧ u = .string (lastS (mt (l.take t) S gv) gv) ∧ ∃ q, wr' = w4.drewN q) (fun _ i _ => k - (intOf i).toNat)
              case atStart => exact ⟨0, Nat.zero_le _, rfl, rfl, 0, rfl⟩
              case round =>
                obtain ⟨t, ht, rfl, rfl, q, rfl⟩ := hrel
                by_cases htk : t < k
                · obtain ⟨y, hy⟩ : ∃ y, l[t]? = some y := ⟨_, List.getElem?_eq_getElem (by rw [← HN.out]; omega)⟩
                  obtain ⟨b5, o5, e5, p⟩ := HC.out t y hy
                  simp only [Option.some.injEq, Addr.mk.injEq, and_true] at e5
                  obtain ⟨rfl, rfl⟩ := e5
                  obtain ⟨p0, p1, p2⟩ := act_cells H4.out.below p
                  have hts : l.take (t + 1) = l.take t ++ [y] := by rw [List.take_add_one, hy]; rfl
                  have hsn := mt_snoc (l.take t) y S gv
                  rw [← hts] at hsn
                  obtain ⟨K2, S2, V2⟩ := y
                  dsimp only at p0 p1 p2 hsn
                  obtain ⟨mm, hmm⟩ : ∃ mm, mm = mt (l.take t) S gv := ⟨_, rfl⟩
                  rw [← hmm] at hsn ⊢
                  have HSN := Lib.hid hsn
                  have c1 : (t : Int) < (k : Int) := by omega
                  have c2 : (t : Int) < (m : Int) := by omega
                  clear p hy hts hsn hmm
                  obtain ⟨ls, hls⟩ : ∃ ls, ls = lastS mm gv := ⟨_, rfl⟩
                  rw [← hls]
                  have HLS := Lib.hid hls
                  clear hls
                  by_cases k1 : K2 = 1
                  · have d1 : (K2 == 1) = true := by rw [beq_iff_eq]; exact k1
                    by_cases k2 : S2 = S
                    · have d2 : (S2.toList == S.toList) = true := by rw [str_beq]; exact decide_eq_true k2
                      by_cases k3 : V2 = gv
                      · have d3 : (V2.toList == gv.toList) = true := by rw [str_beq]; exact decide_eq_true k3
                        have HE : Hid ((decide (K2 = 1) && decide (S2 = S) && decide (V2 = gv)) = true) := Lib.hid (by rw [decide_eq_true k1, decide_eq_true k2, decide_eq_true k3]; rfl)
                        clear k1 k2 k3
                        go_wp2_with fail
                        go_quiet (fail)
                        go_wp2_with fail
                        refine ⟨⟨t + 1, by omega, by go_num, ?_, _, rfl⟩, by simp [intOf]; omega⟩
                        rw [HSN.out, HE.out]
                        unfold lastS
                        simp
                      · have d3 : (V2.toList == gv.toList) = false := by rw [str_beq]; exact decide_eq_false k3
                        have HE : Hid ((decide (K2 = 1) && decide (S2 = S) && decide (V2 = gv)) = false) := Lib.hid (by rw [decide_eq_false k3]; simp)
                        clear k1 k2 k3
                        go_wp2_with fail
                        go_quiet (fail)
                        go_wp2_with fail
                        refine ⟨⟨t + 1, by omega, by go_num, ?_, _, rfl⟩, by simp [intOf]; omega⟩
                        rw [HSN.out, HE.out, Bool.or_false, HLS.out]
                    · have d2 : (S2.toList == S.toList) = false := by rw [str_beq]; exact decide_eq_false k2
                      have HE : Hid ((decide (K2 = 1) && decide (S2 = S) && decide (V2 = gv)) = false) := Lib.hid (by rw [decide_eq_false k2]; simp)
                      clear k1 k2
                      go_wp2_with fail
                      go_quiet (fail)
                      go_wp2_with fail
                      refine ⟨⟨t + 1, by omega, by go_num, ?_, _, rfl⟩, by simp [intOf]; omega⟩
                      rw [HSN.out, HE.out, Bool.or_false, HLS.out]
                  · have d1 : (K2 == 1) = false := by rw [beq_eq_false_iff_ne]; exact k1
                    have HE : Hid ((decide (K2 = 1) && decide (S2 = S) && decide (V2 = gv)) = false) := Lib.hid (by rw [decide_eq_false k1]; simp)
                    clear k1
                    go_wp2_with fail
                    go_quiet (fail)
                    go_wp2_with fail
                    refine ⟨⟨t + 1, by omega, by go_num, ?_, _, rfl⟩, by simp [intOf]; omega⟩
                    rw [HSN.out, HE.out, Bool.or_false, HLS.out]
                · have c1 : ¬ (t : Int) < (k : Int) := by omega
                  have htk' : t = k := by omega
                  have htt : mt (l.take t) S gv = mt (l.take k) S gv := by rw [htk']
                  rw [htt]
                  clear htt htk' htk
                  cases ok with
                  | true =>
                    have e6 : lastS (mt (l.take k) S gv) gv = gv := by rw [HT1.out rfl]; rfl
                    rw [e6]
                    have d3 : (gv.toList == gv.toList) = true := by rw [str_beq]; exact decide_eq_true rfl
                    clear e6
                    go_wp2_with fail
                    go_meet
                    exact ⟨H4.out.drewN q, E4.out⟩
                  | false =>
                    have e6 := HT2.out rfl
                    subst e6
                    go_wp2_with fail
                    go_meet
                    exact ⟨H4.out.drewN q, E4.out⟩
            · by_cases k1 : K = 1
              · have e1 : s' = (offerS s S V).1 := by rw [HS'.out]; unfold stepS; rw [if_neg k0, if_pos k1]
                have b0 : (K == 0) = false := by rw [beq_eq_false_iff_ne]; exact k0
                have b1' : (K == 1) = true := by rw [beq_iff_eq]; exact k1
                have D := Lib.hid (HA2.out.offer hB V hxs)
                rw [← e1] at D
                clear k0 k1 e1
                go_wp2_with fail
                refine D.out.mono ?_
                rintro e w4 ⟨rfl, h4, hk4⟩
                have e4 := (hk4 ab HXA.out).1
                have H4 := Lib.hid h4
                have E4 := Lib.hid (e4.trans HXB.out)
                clear h4 hk4 e4
                go_wp2_with fail
                go_meet
                exact ⟨H4.out, E4.out⟩
              · have e1 : s' = (forgetS s S).1 := by rw [HS'.out]; unfold stepS; rw [if_neg k0, if_neg k1]
                have b0 : (K == 0) = false := by rw [beq_eq_false_iff_ne]; exact k0
                have b1' : (K == 1) = false := by rw [beq_eq_false_iff_ne]; exact k1
                have D := Lib.hid (HA2.out.forget hB S)
                rw [← e1] at D
                clear k0 k1 e1
                go_wp2_with fail
                refine D.out.mono ?_
                rintro e w4 ⟨rfl, h4, hk4⟩
                have e4 := (hk4 ab HXA.out).1
                have H4 := Lib.hid h4
                have E4 := Lib.hid (e4.trans HXB.out)
                clear h4 hk4 e4
                go_wp2_with fail
                go_meet
                exact ⟨H4.out, E4.out⟩
          case rest =>
            obtain ⟨h6, e6⟩ := hcut
            have D7 := Lib.hid (h6.keys hB)
            have hfit : (keysOf s').length ≤ sz := by unfold keysOf; rw [List.length_map]; have := h6.inv.fits; rw [HSSZ.out] at this; exact this
            have hcnt : s'.cs.length ≤ 20 * sz := by have := h6.inv.few; rw [HSSZ.out] at this; exact this
            have hoft := often_le h6.inv.good S
            have H6 := Lib.hid h6
            have E6 := Lib.hid e6
            clear h6 e6 a0 a1 a2 q0 q1 q2
            go_wp2_with fail
            refine D7.out.mono ?_
            rintro e w7 ⟨va7, rfl, _, ⟨a7, c7, rfl⟩, h7, _, hb7⟩
            have e7 : w7.heap[ab]? = some (.cells #[.int .i64 K, .string S, .string V] 33 (0, 0)) := (hb7.block ab (lt_of_block E6.out)).trans E6.out
            have a1 : w7.cell? ⟨ab, 1, none⟩ = some (.string S) := by simp [World.cell?, e7]
            have D8 := Lib.hid h7.counted
            have D9 := Lib.hid (h7.often hxs)
            have H7 := Lib.hid h7
            obtain ⟨c1, hc1⟩ : ∃ c, c = (keysOf s').length := ⟨_, rfl⟩
            obtain ⟨c2, hc2⟩ : ∃ c, c = s'.cs.length := ⟨_, rfl⟩
            obtain ⟨c3, hc3⟩ : ∃ c, c = often s'.cs S := ⟨_, rfl⟩
            rw [← hc1] at hfit ⊢
            rw [← hc2] at hcnt D8
            rw [← hc3] at hoft D9
            have x1 : ¬ (sz : Int) < (c1 : Int) := by omega
            have x2 : decide ((sz : Int) < (c1 : Int)) = false := decide_eq_false x1
            have x2' : decide (sz < c1) = false := decide_eq_false (by omega)
            have x3 : IntKind.i64.wrap (20 * (sz : Int)) = 20 * (sz : Int) := by rw [IntKind.wrap_i64]; omega
            have x4 : ¬ 20 * (sz : Int) < (c2 : Int) := by omega
            have x5 : decide (20 * (sz : Int) < (c2 : Int)) = false := decide_eq_false x4
            have x6 : ¬ (15 : Int) < (c3 : Int) := by omega
            have x7 : decide ((15 : Int) < (c3 : Int)) = false := decide_eq_false x6
            clear h7 hb7 e7 hc1 hc2 hc3
            go_wp2_with fail
            refine D8.out.mono ?_
            rintro e w' ⟨rfl, rfl⟩
            go_wp2_with fail
            refine D9.out.mono ?_
            rintro e w' ⟨rfl, rfl⟩
            go_wp2_with fail
            exact ⟨⟨k + 1, by omega, by go_num, s', HSSZ.out, HOS.out, H7.out⟩, by simp [intOf]; omega⟩
        · have b1 : ¬ (k : Int) < (m : Int) := by omega
          clear hown hss hoff
          go_wp2_with fail
          go_ret
          exact ⟨rfl, HO.out.below⟩

set_option maxRecDepth 100000 in
theorem cacheRoom_lifted (os : Os) (started : os.Started) (H : Type) (enc : TypeId × Value → H) :
    ReturnsInHanded {} Try.checked os 4 .any (Rows.cacheRoomSpec.pre6 enc Try.prog Try.f4 Rows.cacheRoomRow.domain false) (Rows.cacheRoomSpec.post enc Try.prog Try.f4 false true false false) := by
  refine returnsInHanded_of_change (C := Try.checked) own started (by kernel_rfl) Try.func4
    (ChangeSpec.witness6 (enc := enc) (C := Try.checked) false ⟨#[], #[.int .i64 0, .slice none 0 0], []⟩ 8 (by kernel_rfl) (by kernel_rfl) (by kernel_rfl) (by kernel_rfl)) ?_
  intro W base args ds gs before hval0 hW hcnd _
  have hval : ∀ (j : Nat) t v, Try.f4.params[j]? = some t → args[j]? = some v → Value.okWide Try.prog W .any base t v := hval0
  have hW' := hW
  obtain ⟨p, q, hA0, hV, rfl, hfz, hnd⟩ := hW
  have hA : DataW.TrodAll enc Try.prog W 0 (fun _ => true) true Try.f4.params.toList args.toList ds p := hA0
  rw [Try.params4] at hA hval
  obtain ⟨v0, vs0, d0, ds0, p0, q0, hargs, rfl, rfl, h0, r0⟩ := trodAll_cons hA
  obtain ⟨v1, vs1, d1, ds1, p1, q1, rfl, rfl, rfl, h1, r1⟩ := trodAll_cons r0
  obtain ⟨rfl, rfl, rfl⟩ := trodAll_nil r1
  obtain rfl : args = #[v0, v1] := by cases args; simp_all
  obtain ⟨rfl, rfl⟩ := trodVars_none hV
  obtain ⟨size, rfl, rfl, rfl, w0⟩ := open_int Try.underlying3 (hval 0 3 v0 rfl rfl) h0
  have b0 := Go.bounds_i64 w0
  obtain ⟨a1, len1, cap1, rfl⟩ := okWide_slice Try.underlying22 (hval 1 22 v1 rfl rfl)
  have k1 := h1
  have lt1 : ∀ x ∈ p1, x.block < W.heap.size := by obtain ⟨m, hm⟩ := k1; exact DataW.trod_lt m _ _ _ hm
  obtain ⟨l, hs1, hlen1⟩ : ∃ l, ActsAt W (.slice a1 len1 cap1) l ∧ l.length ≤ maxLen := by
    obtain ⟨fuel, hf⟩ := h1
    obtain ⟨v, xs, hv, h2, h3⟩ := acts_of hf
    simp [Value.cells] at hv
    subst hv
    exact ⟨xs, h2, h3⟩
  clear hA0 hval0
  refine (room_any size l _ W b0.1 b0.2 hs1 hlen1).mono fun e W' ⟨he, bel⟩ => ?_
  subst he
  exact ⟨_, rfl, _, _, _, [], _, [], hW', trodAll_mk1 (shut_bool Try.underlying4 _), (trodAll_cons_mk (shut_int Try.underlying3 w0) (trodAll_cons_mk (Below.trod laidOut (by kernel_rfl) (of_decide_eq_true (by kernel_rfl)) k1 bel lt1) trodAll_mk0)), rfl, bel.frame _, fun h => by cases h⟩

theorem cacheRoom_holds : Rows.CacheRoomSaid :=
  OpenClaim.holds_of_wide 4 Try.f4 rfl rfl rfl rfl rfl rfl rfl ⟨rfl, rfl, rfl, rfl, rfl⟩ rfl rfl rfl rfl rfl (by kernel_rfl) Try.func4 (by kernel_rfl)
    (of_decide_eq_true (by kernel_rfl)) (by unfold Func.isWrapper; first | (rw [if_pos (by decide +kernel)]; kernel_rfl) | (rw [if_neg (by decide +kernel)]; exact ⟨rfl, rfl⟩))
    (fun os started H enc _ => cacheRoom_lifted os started H enc)
#print axioms cacheRoom_holds
end Go.Proofs.Ytoeekjooigijbaa

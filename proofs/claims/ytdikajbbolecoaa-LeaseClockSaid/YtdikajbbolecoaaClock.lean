/-
  LeaseClock, proved for every input: what is expired stays so as the clock goes on; what is not is found at any clock ahead. No condition.
-/
import Derived.Test.YtdikajbbolecoaaOpen
import Derived.WalkMore
import Derived.ScopeJumps
import Derived.Deep.CutBlock
import Derived.Deep.DeepCutAuto
namespace Go.Proofs.Ytdikajbbolecoaa
open Go.ChangeShapes Go.WideShapes Go.ChangeAt Go.RowKit
open Go.ChangeMaps (open_string shut_string)
set_option linter.unusedVariables false
set_option linter.unusedSimpArgs false

theorem clock_plain (t : Tb) (id a b : Int) (h : a ≤ b) : (findC t id a = 5 ∧ findC t id b = 5) ∨ (findC t id a = 0 ∧ findC t id b = 0) ∨ (findC t id a = 0 ∧ findC t id b = 6) ∨ (findC t id a = 6 ∧ findC t id b = 6) := by
  unfold findC liveS
  cases hf : findI t.l id with
  | none =>
    simp only
    cases t.ended.any (fun e => decide (e = id)) <;> simp
  | some i =>
    obtain ⟨x, hx, _⟩ := findI_lt hf
    simp only [hx]
    by_cases h1 : a < x.dead
    · by_cases h2 : b < x.dead
      · simp [h1, h2]
      · simp [h1, h2]
    · have h2 : ¬ b < x.dead := by omega
      simp [h1, h2]

set_option maxHeartbeats 4000000 in
set_option maxRecDepth 100000 in
theorem clock_any (most term : Int) (l : List ActD) (v : Value) (id a b : Int) (w : World) (hmost1 : -9223372036854775808 ≤ most) (hmost2 : most ≤ 9223372036854775807) (hterm1 : -9223372036854775808 ≤ term) (hterm2 : term ≤ 9223372036854775807) (h : ActsAt w v l) (hm : l.length ≤ maxLen) (hid1 : -9223372036854775808 ≤ id) (hid2 : id ≤ 9223372036854775807) (ha1 : -9223372036854775808 ≤ a) (ha2 : a ≤ 9223372036854775807) (hb1 : -9223372036854775808 ≤ b) (hb2 : b ≤ 9223372036854775807) :
    Calls Try.prog 5 #[.int .i64 most, .int .i64 term, v, .int .i64 id, .int .i64 a, .int .i64 b] w (BelowPost w (.bool true)) := by
  have hB := Nat.le_refl w.heap.size
  have DF := fun (w' : World) (ha : ActsAt w' v l) => few_any w' v l ha hm
  unfold maxLen at hm
  have HA := Lib.hid (fun (w' : World) (hb : Below w.heap.size w w') => acts_below h hb)
  obtain ⟨a0, cap, rfl, hc⟩ := h
  obtain ⟨n, hmm⟩ : ∃ n, n = l.length := ⟨_, rfl⟩
  rw [← hmm] at HA DF ⊢
  have HN := Lib.hid hmm
  have HF := Lib.hid DF
  have hm' : n ≤ 9223372036854775807 := by omega
  have D0 := Lib.hid (works_any w)
  clear hm hc hmm DF
  go_enter Try.func5, Try.ntmps5
  go_wp2_with fail
  refine D0.out.mono ?_
  rintro e w1 ⟨rfl, hb1⟩
  have DN := Lib.hid (new_any most term w1 hmost1 hmost2 hterm1 hterm2)
  have hs1 := hb1.size
  have HB1 := Lib.hid hb1
  clear hb1 D0
  go_wp2_with fail
  refine DN.out.mono ?_
  rintro e w2 ⟨rfl, hT, hb2⟩
  have hO : Own w.heap.size w w2 w1.heap.size emptyM (emptyT (mostI most) (termI term)) := own_new hT hb2 (by unfold mostI; omega) (by unfold termI; omega) (by unfold termI; omega) hs1 HB1.out
  have ha := HA.out w2 hO.below
  obtain ⟨tb, htb⟩ : ∃ tb, tb = w1.heap.size := ⟨_, rfl⟩
  rw [← htb] at hO ⊢
  have HO := Lib.hid hO
  have DFW := Lib.hid (HF.out _ ha)
  clear hO hT hb2 htb DN ha HF
  go_wp2_with fail
  refine DFW.out.mono ?_
  rintro e w3 ⟨ok, rfl, hok, hw⟩
  have hw' := hw.symm
  subst hw'
  clear hw DFW
  cases ok with
  | false =>
    clear hok
    go_wp2_with fail
    go_ret
    exact ⟨rfl, HO.out.below⟩
  | true =>
    obtain ⟨hn60, hfit⟩ := hok rfl
    rw [← HN.out] at hn60
    have HFIT := Lib.hid hfit
    clear hok hfit
    by_cases g0 : a < 0
    · skip
      have gd0 : decide (a < 0) = true := decide_eq_true g0
      go_wp2_with fail
      go_ret
      exact ⟨rfl, HO.out.below⟩
    by_cases g1 : b < a
    · skip
      have gd0 : decide (a < 0) = false := decide_eq_false g0
      have gd1 : decide (b < a) = true := decide_eq_true g1
      go_wp2_with fail
      go_ret
      exact ⟨rfl, HO.out.below⟩
    by_cases g2 : 1000000 < b
    · skip
      have gd0 : decide (a < 0) = false := decide_eq_false g0
      have gd1 : decide (b < a) = false := decide_eq_false g1
      have gd2 : decide (1000000 < b) = true := decide_eq_true g2
      go_wp2_with fail
      go_ret
      exact ⟨rfl, HO.out.below⟩
    have gd0 : decide (a < 0) = false := decide_eq_false g0
    have gd1 : decide (b < a) = false := decide_eq_false g1
    have gd2 : decide (1000000 < b) = false := decide_eq_false g2
    go_wp2_with fail
    go_loopw [16] (fun si wr => ∃ (k : Nat) (m : Mem) (t' : Tb), k ≤ n ∧ si = .int .i64 k ∧ Own w.heap.size w wr tb m t' ∧ t'.opened ≤ k) (fun si _ => n - (intOf si).toNat)
    case atStart => exact ⟨0, _, _, Nat.zero_le _, rfl, HO.out, Nat.le_refl _⟩
    case round =>
      obtain ⟨k, m, t', hk, rfl, hO, hop⟩ := hrel
      clear HO
      by_cases hkn : k < n
      · obtain ⟨x, hx⟩ : ∃ x, l[k]? = some x := ⟨_, List.getElem?_eq_getElem (by rw [← HN.out]; exact hkn)⟩
        obtain ⟨a', cap', hv, hcells⟩ := HA.out wr hO.below
        obtain ⟨b, o, rfl, q0, q1, q2, q3, q4, q5⟩ := hcells k x hx
        simp only [Value.slice.injEq] at hv
        obtain ⟨rfl, hnl0, rfl⟩ := hv
        clear hnl0
        have D := do_any w.heap.size w wr tb m t' x hO hB (HFIT.out x (List.mem_of_getElem? hx))
        unfold ActD.val at D
        have D := Lib.hid D
        have y1 : (k : Int) < (n : Int) := by omega
        have HOP : Hid ((doT t' x).opened ≤ k + 1) := Lib.hid (doT_opened t' x k hop)
        clear hx hcells hO
        go_wp2_with fail
        refine D.out.mono ?_
        rintro e w5 ⟨E, N, s, S0, S1, S2, S3, all, rfl, _, _, m', hO', _, _⟩
        have HO' := Lib.hid hO'
        clear hO'
        go_wp2_with fail
        exact ⟨⟨k + 1, m', doT t' x, by omega, by go_num, HO'.out, HOP.out⟩, by simp [intOf]; omega⟩
      · have y1 : ¬ (k : Int) < (n : Int) := by omega
        obtain ⟨f0, f1, f2, f3, hfa⟩ := findR_code t' id a
        have DA := hO.find id a
        have DB := Lib.hid (fun (w6 : World) (hb : Below wr.heap.size wr w6) => (hO.keep hB hb).find id b)
        rw [hfa] at DA
        have DA := Lib.hid DA
        obtain ⟨k0, k1, k2, k3, hfb⟩ := findR_code t' id b
        rw [hfb] at DB
        have hpl := clock_plain t' id a b (by omega)
        generalize findC t' id a = ca at *
        generalize findC t' id b = cb at *
        have HBL := Lib.hid hO.below
        clear hfa hfb hO hop g0 g1 g2
        rcases hpl with ⟨rfl, rfl⟩ | ⟨rfl, rfl⟩ | ⟨rfl, rfl⟩ | ⟨rfl, rfl⟩
        all_goals
          go_wp2_with fail
          refine DA.out.mono ?_
          rintro e w5 ⟨rfl, hb5⟩
          have HB5 := Lib.hid hb5
          have DB2 := Lib.hid (DB.out _ (hb5.alloc hb5.size (.cells #[.int .i64 f0, .int .i64 f1, .int .i64 f2, .int .i64 f3] 29)))
          clear hb5
          go_wp2_with fail
          refine DB2.out.mono ?_
          rintro e w6 ⟨rfl, hb6⟩
          have HB6 := Lib.hid hb6
          clear hb6
          go_wp2_with fail
          go_ret
          refine ⟨rfl, ?_⟩
          have h5 := HB5.out.mono HBL.out.size
          have h6 := h5.alloc (Nat.le_trans HBL.out.size HB5.out.size) (.cells #[.int .i64 f0, .int .i64 f1, .int .i64 f2, .int .i64 f3] 29)
          have h7 := h6.trans (HB6.out.mono (Nat.le_trans HBL.out.size h6.size))
          exact HBL.out.trans (h7.alloc (Nat.le_trans HBL.out.size h7.size) _)

set_option maxRecDepth 100000 in
theorem leaseClock_lifted (os : Os) (started : os.Started) (H : Type) (enc : TypeId × Value → H) :
    ReturnsInHanded {} Try.checked os 5 .any (Rows.leaseClockSpec.pre6 enc Try.prog Try.f5 Rows.leaseClockRow.domain false) (Rows.leaseClockSpec.post enc Try.prog Try.f5 false true false false) := by
  refine returnsInHanded_of_change (C := Try.checked) own started (by kernel_rfl) Try.func5
    (ChangeSpec.witness6 (enc := enc) (C := Try.checked) false ⟨#[], #[.int .i64 0, .int .i64 0, .slice none 0 0, .int .i64 0, .int .i64 0, .int .i64 0], []⟩ 8 (by kernel_rfl) (by kernel_rfl) (by kernel_rfl) (by kernel_rfl)) ?_
  intro W base args ds gs before hval0 hW hcnd _
  have hval : ∀ (j : Nat) t v, Try.f5.params[j]? = some t → args[j]? = some v → Value.okWide Try.prog W .any base t v := hval0
  have hW' := hW
  obtain ⟨p, q, hA0, hV, rfl, hfz, hnd⟩ := hW
  have hA : DataW.TrodAll enc Try.prog W 0 (fun _ => true) true Try.f5.params.toList args.toList ds p := hA0
  rw [Try.params5] at hA hval
  obtain ⟨v0, vs0, d0, ds0, p0, q0, hargs, rfl, rfl, h0, r0⟩ := trodAll_cons hA
  obtain ⟨v1, vs1, d1, ds1, p1, q1, rfl, rfl, rfl, h1, r1⟩ := trodAll_cons r0
  obtain ⟨v2, vs2, d2, ds2, p2, q2, rfl, rfl, rfl, h2, r2⟩ := trodAll_cons r1
  obtain ⟨v3, vs3, d3, ds3, p3, q3, rfl, rfl, rfl, h3, r3⟩ := trodAll_cons r2
  obtain ⟨v4, vs4, d4, ds4, p4, q4, rfl, rfl, rfl, h4, r4⟩ := trodAll_cons r3
  obtain ⟨v5, vs5, d5, ds5, p5, q5, rfl, rfl, rfl, h5, r5⟩ := trodAll_cons r4
  obtain ⟨rfl, rfl, rfl⟩ := trodAll_nil r5
  obtain rfl : args = #[v0, v1, v2, v3, v4, v5] := by cases args; simp_all
  obtain ⟨rfl, rfl⟩ := trodVars_none hV
  obtain ⟨most, rfl, rfl, rfl, w0⟩ := open_int Try.underlying3 (hval 0 3 v0 rfl rfl) h0
  have b0 := Go.bounds_i64 w0
  obtain ⟨term, rfl, rfl, rfl, w1⟩ := open_int Try.underlying3 (hval 1 3 v1 rfl rfl) h1
  have b1 := Go.bounds_i64 w1
  obtain ⟨a2, len2, cap2, rfl⟩ := okWide_slice Try.underlying22 (hval 2 22 v2 rfl rfl)
  have k2 := h2
  have lt2 : ∀ x ∈ p2, x.block < W.heap.size := by obtain ⟨m, hm⟩ := k2; exact DataW.trod_lt m _ _ _ hm
  obtain ⟨l, hs2, hlen2⟩ : ∃ l, ActsAt W (.slice a2 len2 cap2) l ∧ l.length ≤ maxLen := by
    obtain ⟨fuel, hf⟩ := h2
    obtain ⟨v, xs, hv, h2, h3⟩ := acts_of hf
    simp [Value.cells] at hv
    subst hv
    exact ⟨xs, h2, h3⟩
  obtain ⟨id, rfl, rfl, rfl, w3⟩ := open_int Try.underlying3 (hval 3 3 v3 rfl rfl) h3
  have b3 := Go.bounds_i64 w3
  obtain ⟨a, rfl, rfl, rfl, w4⟩ := open_int Try.underlying3 (hval 4 3 v4 rfl rfl) h4
  have b4 := Go.bounds_i64 w4
  obtain ⟨b, rfl, rfl, rfl, w5⟩ := open_int Try.underlying3 (hval 5 3 v5 rfl rfl) h5
  have b5 := Go.bounds_i64 w5
  clear hA0 hval0
  refine (clock_any most term l _ id a b W b0.1 b0.2 b1.1 b1.2 hs2 hlen2 b3.1 b3.2 b4.1 b4.2 b5.1 b5.2).mono fun e W' ⟨he, bel⟩ => ?_
  subst he
  exact ⟨_, rfl, _, _, _, [], _, [], hW', trodAll_mk1 (shut_bool Try.underlying4 _), (trodAll_cons_mk (shut_int Try.underlying3 w0) (trodAll_cons_mk (shut_int Try.underlying3 w1) (trodAll_cons_mk (Below.trod laidOut (by kernel_rfl) (of_decide_eq_true (by kernel_rfl)) k2 bel lt2) (trodAll_cons_mk (shut_int Try.underlying3 w3) (trodAll_cons_mk (shut_int Try.underlying3 w4) (trodAll_cons_mk (shut_int Try.underlying3 w5) trodAll_mk0)))))), rfl, bel.frame _, fun h => by cases h⟩

theorem leaseClock_holds : Rows.LeaseClockSaid :=
  OpenClaim.holds_of_wide 5 Try.f5 rfl rfl rfl rfl rfl rfl rfl ⟨rfl, rfl, rfl, rfl, rfl⟩ rfl rfl rfl rfl rfl (by kernel_rfl) Try.func5 (by kernel_rfl)
    (of_decide_eq_true (by kernel_rfl)) (by unfold Func.isWrapper; first | (rw [if_pos (by decide +kernel)]; kernel_rfl) | (rw [if_neg (by decide +kernel)]; exact ⟨rfl, rfl⟩))
    (fun os started H enc _ => leaseClock_lifted os started H enc)
#print axioms leaseClock_holds
end Go.Proofs.Ytdikajbbolecoaa

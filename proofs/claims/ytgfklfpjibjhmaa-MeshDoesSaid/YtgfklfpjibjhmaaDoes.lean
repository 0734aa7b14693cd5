/-
  MeshDoes, proved for every input: whatever is sent, taken, dropped, doubled, and moved, its answers, and what is on its way, act by act, is just what the document says. No condition.
-/
import Derived.Test.YtgfklfpjibjhmaaRby
import Derived.ChangeMaps5
namespace Go.Proofs.Ytgfklfpjibjhmaa
open Go.ChangeShapes Go.WideShapes Go.ChangeAt Go.RowKit
open Go.ChangeMaps (open_string shut_string)
set_option linter.unusedVariables false
set_option linter.unusedSimpArgs false

/-- The mesh, and the document's mesh beside it. -/
structure Both (B : Nat) (w0 w : World) (mb tr r : Nat) (xs : List ByteArray) : Prop where
  ex : ∃ v sv, MeshAt w mb v r xs ∧ (∀ q, v.ownBlock = some q → B ≤ q) ∧ w.heap[tr]? = some (.cells #[.int .i64 r, sv] 29 (0, 0)) ∧ RowS w sv xs ∧ (∀ q, sv.ownBlock = some q → B ≤ q ∧ v.ownBlock ≠ some q)
  mb : B ≤ mb
  tr : B ≤ tr
  below : Below B w0 w

theorem mesh_own_ne {w : World} {mb : Nat} {v : Value} {r : Nat} {xs : List ByteArray} (h : MeshAt w mb v r xs) {k : Nat} {cur : Array Value} {e' : TypeId} (hk : w.heap[k]? = some (.cells cur e' (0, 0))) (he : e' ≠ 9) : v.ownBlock ≠ some k := fun e1 => by
  rcases h.own.2 with ⟨rfl, _⟩ | ⟨g, cap, cur', rfl, _, hg, _⟩
  · simp [Value.ownBlock] at e1
  · simp only [Value.ownBlock, Option.some.injEq] at e1
    rw [e1, hk] at hg
    simp at hg
    exact he hg.2
theorem mb_ne {w : World} {mb : Nat} {v : Value} {r : Nat} {xs : List ByteArray} (h : MeshAt w mb v r xs) {k : Nat} {cur : Array Value} {e' : TypeId} (hk : w.heap[k]? = some (.cells cur e' (0, 0))) (he : e' ≠ 50) : k ≠ mb := fun e1 => by
  have := h.box
  rw [← e1, hk] at this
  simp at this
  exact he this.2

set_option maxHeartbeats 8000000 in
set_option maxRecDepth 100000 in
theorem does_any (room : Int) (l : List ActD) (v : Value) (s : ByteArray) (w : World) (h1 : -9223372036854775808 ≤ room) (h2 : room ≤ 9223372036854775807) (h : ActsAt w v l) (hm : l.length ≤ maxLen) (hss : s.size ≤ maxLen) :
    Calls Try.prog 3 #[.int .i64 room, v, .string s] w (BelowPost w (.bool true)) := by
  have hB := Nat.le_refl w.heap.size
  have DF := fun (w' : World) (hb : Below w.heap.size w w') (ha : ActsAt w' v l) => few_any w' v l ha hm
  unfold maxLen at hm
  obtain ⟨a, cap, rfl, hc⟩ := h
  have HA : Hid (∀ w', Below w.heap.size w w' → ActsAt w' (.slice a l.length cap) l) := Lib.hid fun w' hb => by
    refine ⟨a, cap, rfl, fun i x hx => ?_⟩
    obtain ⟨b, o, e, hq⟩ := hc i x hx
    exact ⟨b, o, e, act_cells hb hq⟩
  obtain ⟨m, hmm⟩ : ∃ m, m = l.length := ⟨_, rfl⟩
  rw [← hmm] at HA DF ⊢
  have HC := Lib.hid hc
  have HN := Lib.hid hmm
  have HF := Lib.hid DF
  have hm' : m ≤ 9223372036854775807 := by omega
  clear hm hc hmm DF
  have D0 := Lib.hid (works_any w)
  go_enter Try.func3, Try.ntmps3
  go_wp2_with fail
  refine D0.out.mono ?_
  rintro e w1 ⟨rfl, hb1⟩
  have D1 := Lib.hid (new_any room w1 h1 h2)
  have HB1 := Lib.hid hb1
  have hs1 := hb1.size
  clear hb1
  go_wp2_with fail
  refine D1.out.mono ?_
  rintro e w2 ⟨rfl, hm2, hb2⟩
  obtain ⟨mb, hmb⟩ : ∃ mb, mb = w1.heap.size := ⟨_, rfl⟩
  obtain ⟨r, hr⟩ : ∃ r, r = roomOf room := ⟨_, rfl⟩
  rw [← hmb, ← hr] at hm2
  rw [← hmb]
  have HM2 := Lib.hid hm2
  have HB2 := Lib.hid (HB1.out.trans (hb2.mono hs1))
  have DFe := HF.out w2 HB2.out (HA.out w2 HB2.out)
  have DR := rnew_any room w2 h1 h2
  rw [← hr] at DR
  unfold refV at DR
  have DR := Lib.hid DR
  have hmbB : w.heap.size ≤ mb := by omega
  clear hm2 hb2 hmb hr
  go_wp2_with fail
  refine DFe.mono ?_
  rintro e w' ⟨bf, rfl, hlen, hww⟩
  have hww' := hww.symm
  subst hww'
  clear DFe hww
  cases bf with
  | false =>
    clear hlen
    go_wp2_with fail
    go_ret
    exact ⟨rfl, HB2.out⟩
  | true =>
    have hle : m ≤ 100 := by rw [HN.out]; exact hlen rfl
    clear hlen
    by_cases hsz : s.size ≤ 100
    · have hsz' : ¬ (100 : Int) < (s.size : Int) := by omega
      have hsz2 : decide (100 < s.size) = false := decide_eq_false (by omega)
      go_wp2_with fail
      refine DR.out.mono ?_
      rintro e w3 ⟨rfl, hb3⟩
      go_upto_region 9 with fail
      obtain ⟨w4, hw4⟩ : ∃ w4, w4 = w3.alloc (.cells #[.int .i64 r, .slice none 0 0] 29) := ⟨_, rfl⟩
      obtain ⟨tr, htr⟩ : ∃ tr, tr = w3.heap.size := ⟨_, rfl⟩
      rw [← hw4, ← htr]
      have hboth : Both w.heap.size w w4 mb tr r [] := by
        have hb4 : Below w'.heap.size w' w4 := by rw [hw4]; exact hb3.alloc hb3.size _
        have hs2 := HB2.out.size
        refine ⟨⟨_, .slice none 0 0, HM2.out.below hb4, fun q hq => by simp [Value.ownBlock] at hq, by rw [hw4, htr]; exact heap_alloc_new w3 _, OffRow.nil _ _ _, fun q hq => by simp [Value.ownBlock] at hq⟩, hmbB, by have := hb3.size; omega, HB2.out.trans (hb4.mono hs2)⟩
      have HBO := Lib.hid hboth
      clear hboth hw4 htr hb3 HM2 HB2 DR
      go_wp2_with fail
      go_loopw [11] (fun i wr => ∃ (k : Nat) (xs : List ByteArray), k ≤ m ∧ i = .int .i64 k ∧ Both w.heap.size w wr mb tr r xs) (fun i _ => m - (intOf i).toNat)
      case atStart => exact ⟨0, [], Nat.zero_le _, rfl, HBO.out⟩
      case round =>
        obtain ⟨k, xs, hk, rfl, hbo⟩ := hrel
        clear HBO
        by_cases hkn : k < m
        · obtain ⟨x, hx⟩ : ∃ x, l[k]? = some x := ⟨_, List.getElem?_eq_getElem (by rw [← HN.out]; exact hkn)⟩
          obtain ⟨b, o, rfl, q⟩ := HC.out k x hx
          have AC := Lib.hid (fun (w' : World) (hb : Below w.heap.size w w') => act_cells hb q)
          obtain ⟨q0, q1, q2, q3⟩ := act_cells hbo.below q
          have b1 : (k : Int) < (m : Int) := by omega
          obtain ⟨⟨v, sv, hM, hvB, hT, hR, hsv⟩, _, htB, hbel⟩ := hbo
          have hxl : xs.length ≤ 64 := Nat.le_trans hM.fits hM.hi
          have D4 := do_all mb v r xs wr hM x
          obtain ⟨ys, hys⟩ : ∃ ys, ys = (doM r xs x).1 := ⟨_, rfl⟩
          obtain ⟨fs, hfs⟩ : ∃ fs, fs = (doM r xs x).2.1 := ⟨_, rfl⟩
          obtain ⟨ok, hok⟩ : ∃ ok, ok = (doM r xs x).2.2 := ⟨_, rfl⟩
          have DBY := Lib.hid (fun (w' : World) (hr' : RowS w' sv xs) => rby_any r sv xs x w' hr' hxl)
          rw [← hys, ← hfs, ← hok] at D4 DBY
          unfold ActD.val at D4
          unfold ActD.val refV at DBY
          have D4 := Lib.hid D4
          have HH := Lib.hid (And.intro hM (And.intro hvB (And.intro hT (And.intro hR (And.intro hsv hbel)))))
          obtain ⟨K, S, N, T⟩ := x
          dsimp only at q0 q1 q2 q3 D4 DBY AC
          clear hM hvB hT hR hsv hbel hx q hys hfs hok
          go_wp2_with fail
          refine D4.out.mono ?_
          rintro e w5 ⟨rfl, v5, hM5, ht5⟩
          obtain ⟨hM, hvB, hT, hR, hsv, hbel⟩ := HH.out
          have hs5 := hbel.size
          have hb5 : Below w.heap.size w w5 := hbel.trans (ht5.below hs5 hmbB hvB)
          have hT5 := (ht5.block tr (lt_of_block hT) (mb_ne hM hT (by decide)) (mesh_own_ne hM hT (by decide))).trans hT
          have hR5 : RowS w5 sv xs := RowS.kept hR fun k hk => ht5.block k (RowS.lt hR k hk) (by rintro rfl; exact row_ne hR hM.box (by decide) hk) (hsv k hk).2
          have hsv5 : ∀ q, sv.ownBlock = some q → w.heap.size ≤ q ∧ v5.ownBlock ≠ some q := fun q hq => ⟨(hsv q hq).1, fun e => (ht5.own q e).elim (hsv q hq).2 (fun e2 => by have := RowS.lt hR q hq; omega)⟩
          have hvB5 : ∀ q, v5.ownBlock = some q → w.heap.size ≤ q := fun q hq => (ht5.own q hq).elim (hvB q) (fun e => by omega)
          obtain ⟨q0, q1, q2, q3⟩ := AC.out w5 hb5
          obtain ⟨t0, t1, tf⟩ := cells2 hT5
          have H5 := Lib.hid (And.intro hM5 (And.intro hvB5 (And.intro hT5 (And.intro hR5 (And.intro hsv5 hb5)))))
          have htlt : tr < w5.heap.size := lt_of_block hT5
          have hyl : ys.length ≤ 64 := Nat.le_trans hM5.fits hM5.hi
          clear hM hvB hT hR hsv hbel hM5 ht5 hb5 hT5 hR5 hsv5 hvB5 HH D4 hs5
          go_upto_region 13 with fail
          go_cut [14, 15, 16] (fun s14 s15 s16 wx => ∃ t14 a6 c6, s14 = .pointer (some ⟨t14, 0, none⟩) ∧ s15 = .string fs ∧ s16 = .bool ok ∧ wx.heap[t14]? = some (.cells #[.int .i64 r, .slice a6 ys.length c6] 29 (0, 0)) ∧ w5.heap.size ≤ t14 ∧ RowS wx (.slice a6 ys.length c6) ys ∧ (∀ q, (Value.slice a6 ys.length c6).ownBlock = some q → sv.ownBlock = some q ∨ w5.heap.size ≤ q) ∧ Below w5.heap.size w5 wx)
          case first =>
            obtain ⟨hM5, hvB5, hT5, hR5, hsv5, hb5⟩ := H5.out
            have DB := Lib.hid (DBY.out w5.drew (RowS.kept hR5 fun _ _ => rfl))
            have DB2 := Lib.hid (DBY.out (w5.alloc (.cells #[.int .i64 0, .slice none 0 0] 29)).drew (RowS.kept hR5 fun k hk => Below.heap_alloc _ _ _ (RowS.lt hR5 k hk)))
            have al : ∀ (o : Obj) (p : Addr) (u : Value), w5.cell? p = some u → (w5.alloc o).cell? p = some u := fun o p u hu => by rw [World.cell?_alloc_some _ _ _ (by simp [hu])]; exact hu
            have q0' := fun o => al o _ _ q0
            have q1' := fun o => al o _ _ q1
            have q2' := fun o => al o _ _ q2
            have q3' := fun o => al o _ _ q3
            have t0' := fun o => al o _ _ t0
            have t1' := fun o => al o _ _ t1
            have HZ := Lib.hid (heap_alloc_new w5 (.cells #[.int .i64 0, .slice none 0 0] 29))
            clear hM5 hvB5 hT5 hR5 hsv5 hb5 al
            go_region_with (first
                                     | (refine DB.out.mono ?_;
                                        rintro e w6 ⟨v', rfl, hr6, ho6, ⟨a6, c6, rfl⟩, hb6⟩;
                                        have H6a := Lib.hid (And.intro hr6 (And.intro ho6 hb6));
                                        unfold refV;
                                        clear hr6 ho6 hb6)
                                     | (refine DB2.out.mono ?_;
                                        rintro e w6 ⟨v', rfl, hr6, ho6, ⟨a6, c6, rfl⟩, hb6⟩;
                                        have e6 : w6.heap[w5.heap.size]? = some (.cells #[.int .i64 0, .slice none 0 0] 29 (0, 0)) := (hb6.block w5.heap.size (by show w5.heap.size < (w5.alloc _).heap.size; simp)).trans HZ.out;
                                        obtain ⟨z0, z1, zf⟩ := cells2 e6;
                                        have H6b := Lib.hid (And.intro hr6 (And.intro ho6 (And.intro hb6 e6)));
                                        unfold refV;
                                        clear hr6 ho6 hb6 e6))
            all_goals
              go_wp2_with fail
              go_meet
              first
                | (obtain ⟨hr6, ho6, hb6⟩ := H6a.out
                   have hb6' : Below w5.heap.size w5 w6 := ⟨hb6.os, hb6.tape, hb6.output, hb6.size, hb6.block⟩
                   exact ⟨w6.heap.size, a6, c6, rfl, rfl, rfl, heap_alloc_new w6 _, hb6'.size, RowS.below hr6 ((Below.refl _ w6).alloc (Nat.le_refl _) _), ho6, hb6'.alloc hb6'.size _⟩)
                | (obtain ⟨hr6, ho6, hb6, e6⟩ := H6b.out
                   have hb6' : Below w5.heap.size w5 w6 := ((Below.refl _ w5).alloc (Nat.le_refl _) _).trans (Below.mono (B := (w5.alloc (.cells #[.int .i64 0, .slice none 0 0] 29)).heap.size) ⟨hb6.os, hb6.tape, hb6.output, hb6.size, hb6.block⟩ (by simp))
                   refine ⟨w5.heap.size, a6, c6, rfl, rfl, rfl, set2 e6 _ _, Nat.le_refl _, RowS.kept hr6 fun k hk => (Below.heap_setCell _ _ _ _ (by show k ≠ w5.heap.size; rintro rfl; exact row_ne hr6 e6 (by decide) hk)).trans (Below.heap_setCell _ _ _ _ (by show k ≠ w5.heap.size; rintro rfl; exact row_ne hr6 e6 (by decide) hk)), fun q hq => (ho6 q hq).imp id (fun e2 => Nat.le_trans (by show w5.heap.size ≤ (w5.alloc _).heap.size; simp) e2), below_sets hb6' (Nat.le_refl _) _ _⟩)
          case rest =>
            obtain ⟨t14, a6, c6, rfl, rfl, rfl, e14, h14, hr6, ho6, hb6⟩ := hcut
            obtain ⟨hM5, hvB5, hT5, hR5, hsv5, hb5⟩ := H5.out
            have hT6 := (hb6.block tr htlt).trans hT5
            clear t0 t1 tf
            obtain ⟨t0, t1, tf⟩ := cells2 hT6
            obtain ⟨p0, p1, _⟩ := cells2 e14
            have hne : t14 ≠ tr := by omega
            have hM6 := hM5.below hb6
            have htm : tr ≠ mb := mb_ne hM6 hT6 (by decide)
            have hvt : v5.ownBlock ≠ some tr := mesh_own_ne hM6 hT6 (by decide)
            have hM7 := (hM6.setCell (a := ⟨tr, 0, none⟩) (.int .i64 r) htm hvt).setCell (a := ⟨tr, 1, none⟩) (.slice a6 ys.length c6) htm hvt
            have hT7 := set2 hT6 (.int .i64 r) (.slice a6 ys.length c6)
            have hR7 : RowS ((wc.setCell ⟨tr, 0, none⟩ (.int .i64 r)).setCell ⟨tr, 1, none⟩ (.slice a6 ys.length c6)) (.slice a6 ys.length c6) ys :=
              RowS.kept hr6 fun k hk => (Below.heap_setCell _ _ _ _ (by show k ≠ tr; rintro rfl; exact row_ne hr6 hT6 (by decide) hk)).trans (Below.heap_setCell _ _ _ _ (by show k ≠ tr; rintro rfl; exact row_ne hr6 hT6 (by decide) hk))
            have hs5 := hb5.size
            have hb7 : Below w.heap.size w ((wc.setCell ⟨tr, 0, none⟩ (.int .i64 r)).setCell ⟨tr, 1, none⟩ (.slice a6 ys.length c6)) := below_sets (hb5.trans (hb6.mono hs5)) htB _ _
            have hsv7 : ∀ q, (Value.slice a6 ys.length c6).ownBlock = some q → w.heap.size ≤ q ∧ v5.ownBlock ≠ some q := fun q hq => by
              rcases ho6 q hq with e | e
              · exact hsv5 q e
              · exact ⟨by omega, fun e2 => by have := hM5.own_lt q e2; omega⟩
            have H7 := Lib.hid (And.intro hM7 (And.intro hT7 (And.intro hR7 (And.intro hb7 (And.intro hsv7 hvB5)))))
            clear e14 hr6 ho6 hb6 hM5 hvB5 hT5 hR5 hsv5 hb5 hT6 hM6 htm hvt hM7 hT7 hR7 hs5 hb7 hsv7 q0 q1 q2 q3 H5 DBY
            go_upto_region 15 with fail
            obtain ⟨w7, hw7⟩ : ∃ w7, w7 = (wc.setCell ⟨tr, 0, none⟩ (.int .i64 r)).setCell ⟨tr, 1, none⟩ (.slice a6 ys.length c6) := ⟨_, rfl⟩
            rw [← hw7] at H7 ⊢
            obtain ⟨hM7, hT7, hR7, hb7, hsv7, hvB7⟩ := H7.out
            clear t0 t1 tf p0 p1 hw7
            obtain ⟨t0, t1, _⟩ := cells2 hT7
            have DA := Lib.hid (all_any mb v5 r ys w7.drew (hM7.kept rfl (fun _ _ => rfl)))
            have HBO := Lib.hid (fun (w8 : World) (hb8 : Below w7.heap.size w7 w8) => (⟨⟨v5, .slice a6 ys.length c6, hM7.below hb8, hvB7, (hb8.block tr (lt_of_block hT7)).trans hT7, RowS.below hR7 hb8, hsv7⟩, hmbB, htB, hb7.trans (hb8.mono hb7.size)⟩ : Both w.heap.size w w8 mb tr r ys))
            have HM7 := Lib.hid hM7
            have HR7 := Lib.hid hR7
            have HT7 := Lib.hid hT7
            have hcl := countOf_le s ys
            have hcl2 : (countOf s ys : Int) ≤ 64 := by omega
            clear hM7 hT7 hR7 hb7 hsv7 hvB7 H7
            go_cut [93] (fun s93 wx => s93 = .bool false ∧ Both w.heap.size w wx mb tr r ys)
            case first =>
              go_region_held3 (fun w' => w'.cell? ⟨tr, 1, none⟩ = some (.slice a6 ys.length c6)) (first | assumption | go_keep)
                                    (first
                                     | (go_at_call 15;
                                        refine DA.out.mono ?_;
                                        rintro e w8 ⟨va, rfl, hva, hE, hb8⟩;
                                        have hva0 := hE.out;
                                        have hb8' : Below w7.heap.size w7 w8 := ⟨hb8.os, hb8.tape, hb8.output, hb8.size, hb8.block⟩;
                                        have T8 : w8.cell? ⟨tr, 1, none⟩ = some (.slice a6 ys.length c6) := (cells2 ((hb8'.block tr (lt_of_block HT7.out)).trans HT7.out)).2.1;
                                        have DS := Lib.hid (same_true w8 va (.slice a6 ys.length c6) ys hva (RowS.strs (RowS.below HR7.out hb8')) (by unfold maxLen; omega));
                                        have DC := Lib.hid (fun n => count_any mb v5 r ys s (w8.drewN n) ((HM7.out.below hb8').drewN n));
                                        have DCR := Lib.hid (fun n => rcount_any (.slice a6 ys.length c6) ys s (w8.drewN n) (RowS.kept (RowS.below HR7.out hb8') fun _ _ => rfl) hyl);
                                        have HB8 := Lib.hid (fun n => HBO.out (w8.drewN n) (hb8'.trans (belowN _ _ n)));
                                        subst hva0;
                                        clear hva hE hb8 hb8')
                                     | (go_at_call 14;
                                        refine DS.out.mono ?_;
                                        rintro e w9 ⟨rfl, qn, rfl⟩)
                                     | (go_at_call 16;
                                        refine (DC.out _).mono ?_;
                                        rintro e w9 ⟨rfl, hw9⟩;
                                        have hw9' := hw9.symm;
                                        subst hw9';
                                        clear hw9)
                                     | (go_at_call 17;
                                        refine (DCR.out _).mono ?_;
                                        rintro e w9 ⟨rfl, hw9⟩;
                                        subst hw9))
              all_goals
                go_wp2_with fail
                go_meet
                exact ⟨rfl, HB8.out _⟩
            case rest =>
              obtain ⟨rfl, hbo⟩ := hcut
              have HBR := Lib.hid hbo
              clear hbo DA HBO t0 t1
              go_wp2_with fail
              exact ⟨⟨k + 1, ys, by omega, by go_num, HBR.out⟩, by simp [intOf]; omega⟩
        · have b1 : ¬ (k : Int) < (m : Int) := by omega
          go_wp2_with fail
          go_ret
          exact ⟨rfl, hbo.below⟩
    · have hsz' : (100 : Int) < (s.size : Int) := by omega
      have hsz2 : decide (100 < s.size) = true := decide_eq_true (by omega)
      go_wp2_with fail
      go_ret
      exact ⟨rfl, HB2.out⟩

set_option maxRecDepth 100000 in
theorem meshDoes_lifted (os : Os) (started : os.Started) (H : Type) (enc : TypeId × Value → H) :
    ReturnsInHanded {} Try.checked os 3 .any (Rows.meshDoesSpec.pre6 enc Try.prog Try.f3 Rows.meshDoesRow.domain false) (Rows.meshDoesSpec.post enc Try.prog Try.f3 false true false false) := by
  refine returnsInHanded_of_change (C := Try.checked) own started (by kernel_rfl) Try.func3
    (ChangeSpec.witness6 (enc := enc) (C := Try.checked) false ⟨#[], #[.int .i64 0, .slice none 0 0, .string .empty], []⟩ 8 (by kernel_rfl) (by kernel_rfl) (by kernel_rfl) (by kernel_rfl)) ?_
  intro W base args ds gs before hval0 hW hcnd _
  have hval : ∀ (j : Nat) t v, Try.f3.params[j]? = some t → args[j]? = some v → Value.okWide Try.prog W .any base t v := hval0
  have hW' := hW
  obtain ⟨p, q, hA0, hV, rfl, hfz, hnd⟩ := hW
  have hA : DataW.TrodAll enc Try.prog W 0 (fun _ => true) true Try.f3.params.toList args.toList ds p := hA0
  rw [Try.params3] at hA hval
  obtain ⟨v0, vs0, d0, ds0, p0, q0, hargs, rfl, rfl, h0, r0⟩ := trodAll_cons hA
  obtain ⟨v1, vs1, d1, ds1, p1, q1, rfl, rfl, rfl, h1, r1⟩ := trodAll_cons r0
  obtain ⟨v2, vs2, d2, ds2, p2, q2, rfl, rfl, rfl, h2, r2⟩ := trodAll_cons r1
  obtain ⟨rfl, rfl, rfl⟩ := trodAll_nil r2
  obtain rfl : args = #[v0, v1, v2] := by cases args; simp_all
  obtain ⟨rfl, rfl⟩ := trodVars_none hV
  obtain ⟨room, rfl, rfl, rfl, w0⟩ := open_int Try.underlying3 (hval 0 3 v0 rfl rfl) h0
  have b0 := Go.bounds_i64 w0
  obtain ⟨a1, len1, cap1, rfl⟩ := okWide_slice Try.underlying22 (hval 1 22 v1 rfl rfl)
  have k1 := h1
  have lt1 : ∀ x ∈ p1, x.block < W.heap.size := by obtain ⟨m, hm⟩ := k1; exact DataW.trod_lt m _ _ _ hm
  obtain ⟨l, hs1, hlen1⟩ : ∃ l, ActsAt W (.slice a1 len1 cap1) l ∧ l.length ≤ maxLen := by
    obtain ⟨fuel, hf⟩ := h1
    obtain ⟨v, xs, hv, h2, h3⟩ := acts_of hf
    simp [Value.cells] at hv
    subst hv
    exact ⟨xs, h2, h3⟩
  obtain ⟨s, rfl, rfl, rfl, w2⟩ := open_string Try.underlying9 (hval 2 9 v2 rfl rfl) h2
  clear hA0 hval0
  refine (does_any room l _ s W b0.1 b0.2 hs1 hlen1 w2).mono fun e W' ⟨he, bel⟩ => ?_
  subst he
  exact ⟨_, rfl, _, _, _, [], _, [], hW', trodAll_mk1 (shut_bool Try.underlying4 _), (trodAll_cons_mk (shut_int Try.underlying3 w0) (trodAll_cons_mk (Below.trod laidOut (by kernel_rfl) (of_decide_eq_true (by kernel_rfl)) k1 bel lt1) (trodAll_cons_mk (shut_string Try.underlying9 w2) trodAll_mk0))), rfl, bel.frame _, fun h => by cases h⟩

theorem meshDoes_holds : Rows.MeshDoesSaid :=
  OpenClaim.holds_of_wide 3 Try.f3 rfl rfl rfl rfl rfl rfl rfl ⟨rfl, rfl, rfl, rfl, rfl⟩ rfl rfl rfl rfl rfl (by kernel_rfl) Try.func3 (by kernel_rfl)
    (of_decide_eq_true (by kernel_rfl)) (by unfold Func.isWrapper; first | (rw [if_pos (by decide +kernel)]; kernel_rfl) | (rw [if_neg (by decide +kernel)]; exact ⟨rfl, rfl⟩))
    (fun os started H enc _ => meshDoes_lifted os started H enc)
#print axioms meshDoes_holds
end Go.Proofs.Ytgfklfpjibjhmaa

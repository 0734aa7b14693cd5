/-
  Expire: the walk.
-/
import Derived.Test.YtdikajbbolecoaaExpiry
import Derived.BigRegion
namespace Go.Proofs.Ytdikajbbolecoaa
open Go.RowKit
set_option linter.unusedVariables false
set_option linter.unusedSimpArgs false

def ExpPost (w : World) (tb : Nat) (m : Mem) (t' : Tb) (l : List Sess) (e : Ending) (w' : World) : Prop :=
  ∃ sv, e = .returned sv ∧ OffRow w' 29 4 sv l.length (flatS l) ∧ (∀ k, sv.ownBlock = some k → w.heap.size ≤ k) ∧ ∃ m', TableAt w' tb m' t' ∧ Turned w.heap.size w w' tb m m' ∧ ∀ k, sv.ownBlock = some k → ¬ Mine tb m' k

theorem TableAt.setEnded {w : World} {tb B : Nat} {m : Mem} {t : Tb} {ev' : Value} {es : List Int} (h : TableAt w tb m t) (hr : OffRow w 3 1 ev' es.length (flatE es)) (own : ∀ k, ev'.ownBlock = some k → m.ev.ownBlock = some k) :
    TableAt (w.setCell ⟨tb, 8, none⟩ ev') tb { m with ev := ev' } { t with ended := es } ∧ Turned B w (w.setCell ⟨tb, 8, none⟩ ev') tb m { m with ev := ev' } := by
  have keep : ∀ k, k ≠ tb → (w.setCell ⟨tb, 8, none⟩ ev').heap[k]? = w.heap[k]? := fun k hk => Below.heap_setCell _ _ _ _ hk
  refine ⟨{ box := ?_, lb := h.lb, lk := h.lk, fits := h.fits, hi := h.hi, nd := h.nd, nk := h.nk, slot := fun i b kv x hb hkv hx => ?_, ended := hr.kept fun k hk => keep k (fun e => offRow_ne hr h.box (by decide) (e ▸ hk)) }, ⟨rfl, rfl, rfl, by simp, fun k _ hm => keep k (fun e => hm (.inl e)), fun k hk => ?_⟩⟩
  · simp only [World.setCell, Array.getElem?_modify, if_pos rfl, h.box]
    rfl
  · have hs := h.slot i b kv x hb hkv hx
    exact hs.kept (keep b (h.slot_ne hb).1) fun k hk => keep k (fun e => offRow_ne hs.row h.box (by decide) (e ▸ hk))
  · rcases hk with e | e | ⟨kv, hkv, e⟩ | e
    · exact .inl (.inl e)
    · exact .inl (.inr (.inl e))
    · exact .inl (.inr (.inr (.inl ⟨kv, hkv, e⟩)))
    · exact .inl (.inr (.inr (.inr (own k e))))

theorem TableAt.not_mine {w : World} {tb : Nat} {m : Mem} {t : Tb} (h : TableAt w tb m t) {sv : Value} {n : Nat} {xs : List Value} (hr : OffRow w 29 4 sv n xs) {k : Nat} (hk : sv.ownBlock = some k) : ¬ Mine tb m k := by
  rintro (e | e | ⟨kv, hkv, e⟩ | e)
  · exact offRow_ne hr h.box (by decide) (e ▸ hk)
  · obtain ⟨i, hi⟩ := List.getElem?_of_mem e
    have hil := (List.getElem?_eq_some_iff.1 hi).1
    obtain ⟨x, hx⟩ : ∃ x, t.l[i]? = some x := ⟨_, List.getElem?_eq_getElem (by rw [← h.lb]; exact hil)⟩
    obtain ⟨b, kv, hb, hkv, hs⟩ := h.at_ hx
    rw [hi] at hb
    cases hb
    exact offRow_ne hr hs.box (by decide) hk
  · obtain ⟨i, hi⟩ := List.getElem?_of_mem hkv
    have hil := (List.getElem?_eq_some_iff.1 hi).1
    obtain ⟨x, hx⟩ : ∃ x, t.l[i]? = some x := ⟨_, List.getElem?_eq_getElem (by rw [← h.lk]; exact hil)⟩
    obtain ⟨b, kv', hb, hkv', hs⟩ := h.at_ hx
    rw [hi] at hkv'
    cases hkv'
    exact offRow_apart hr hs.row (by decide) k e hk
  · exact offRow_apart hr h.ended (by decide) k e hk

set_option maxHeartbeats 2000000 in
theorem expire_any (tb : Nat) (m : Mem) (t : Tb) (clock : Int) (w : World) (h : TableAt w tb m t) (he8 : t.ended.length ≤ 90) :
    Calls Try.prog 13 #[.pointer (some ⟨tb, 0, none⟩), .int .i64 clock] w (ExpPost w tb m (expireS t clock).1 (expireS t clock).2) := by
  have hlt := h.lt
  have hmine := h.mine_lt
  have D : ∀ w1 : World, Below w.heap.size w w1 → w.heap.size + 3 ≤ w1.heap.size → w1.heap[w.heap.size]? = some (.cells #[.pointer (some ⟨tb, 0, none⟩)] 24 (0, 0)) → w1.heap[w.heap.size + 1]? = some (.cells #[.int .i64 clock] 3 (0, 0)) → w1.heap[w.heap.size + 2]? = some (.cells #[.slice none 0 0] 30 (0, 0)) →
      Calls Try.prog 22 #[.pointer (some ⟨tb, 0, none⟩), .func (.func 23) #[] #[.pointer (some ⟨w.heap.size + 1, 0, none⟩), .pointer (some ⟨w.heap.size + 2, 0, none⟩), .pointer (some ⟨w.heap.size, 0, none⟩)]] w1 (DropPost tb t.l.length m.bs t.l (over clock) (Ending_ w1 tb m t clock (w.heap.size + 2))) := by
    intro w1 hb1 hs1 c0 c1 c2
    have h1 := h.below hb1
    have hm : ∀ k, w.heap.size ≤ k → ¬ Mine tb m k := fun k hk e => by have := hmine k e; omega
    refine drop_any 23 #[.pointer (some ⟨w.heap.size + 1, 0, none⟩), .pointer (some ⟨w.heap.size + 2, 0, none⟩), .pointer (some ⟨w.heap.size, 0, none⟩)] (fun b => #[.pointer (some ⟨b, 0, none⟩), .pointer (some ⟨w.heap.size + 1, 0, none⟩), .pointer (some ⟨w.heap.size + 2, 0, none⟩), .pointer (some ⟨w.heap.size, 0, none⟩)]) tb t.l.length m.bs t.l _ _ w1 (fun _ => rfl) (fun b w => by kernel_rfl) h.lb rfl (Nat.le_trans h.fits h.hi) ?_
      (fun i w k u hk h2 => h2.set (by omega) hk u) (fun i w h2 => ?_) (fun k hk => h1.cptr hk) (fun i b x w2 hb hx h2 => ending_step h1 he8 h2 (hm _ (by omega)) c1 c0 ⟨hm _ (by omega), by omega⟩ ⟨hm _ (by omega), by omega⟩ hb hx)
    · exact ⟨m.ev, .slice none 0 0, by simpa [gone] using Dropping.start h1, c2, by simpa [gone, flatS] using OffRow.nil w1 29 4, fun k hk => by simp [Value.ownBlock] at hk⟩
    · obtain ⟨ev, sv, h3, _⟩ := h2
      obtain ⟨p0, p1, p2, p3, hbx⟩ := h3.box
      exact ⟨_, _, _, _, _, _, _, _, hbx⟩
  have HH := Lib.hid h
  have D := Lib.hid D
  have HM := Lib.hid hmine
  obtain ⟨w1, hw1⟩ : ∃ w1, w1 = (((w.alloc (.cells #[.pointer (some ⟨tb, 0, none⟩)] 24)).alloc (.cells #[.int .i64 clock] 3)).alloc (.cells #[.slice none 0 0] 30)) := ⟨_, rfl⟩
  have hB1 : Below w.heap.size w w1 := by
    rw [hw1]
    exact (((Below.refl _ w).alloc (Nat.le_refl _) _).alloc (by simp) _).alloc (by simp; omega) _
  have e0 : w1.heap[w.heap.size]? = some (.cells #[.pointer (some ⟨tb, 0, none⟩)] 24 (0, 0)) := by
    rw [hw1, Below.heap_alloc _ _ _ (by simp; omega), Below.heap_alloc _ _ _ (by simp)]
    exact heap_alloc_new w _
  have e1 : w1.heap[w.heap.size + 1]? = some (.cells #[.int .i64 clock] 3 (0, 0)) := by
    rw [hw1, Below.heap_alloc _ _ _ (by simp)]
    simpa using heap_alloc_new (w.alloc (.cells #[.pointer (some ⟨tb, 0, none⟩)] 24)) (.cells #[.int .i64 clock] 3)
  have e2 : w1.heap[w.heap.size + 2]? = some (.cells #[.slice none 0 0] 30 (0, 0)) := by
    rw [hw1]
    simpa using heap_alloc_new ((w.alloc (.cells #[.pointer (some ⟨tb, 0, none⟩)] 24)).alloc (.cells #[.int .i64 clock] 3)) (.cells #[.slice none 0 0] 30)
  have hs1 : w.heap.size + 3 ≤ w1.heap.size := by rw [hw1]; simp
  have E0 := Lib.hid e0
  have E1 := Lib.hid e1
  have E2 := Lib.hid e2
  have HW1 := Lib.hid hw1
  have HB1 := Lib.hid hB1
  have HS1 := Lib.hid hs1
  clear h hmine e0 e1 e2 hw1 hB1 hs1
  go_enter Try.func13, Try.ntmps13
  go_wp2_with fail
  rw [← HW1.out]
  refine (D.out _ HB1.out HS1.out E0.out E1.out E2.out).mono ?_
  rintro e w' ⟨rfl, w2, ⟨ev, sv, hd, hcl, hso, hsv⟩, hc, rfl⟩
  have hT := HH.out.below HB1.out
  have hmi : ∀ k, w.heap.size ≤ k → ¬ Mine tb m k := fun k hk e => by have := HM.out k e; omega
  rw [stay_pick HH.out.lb rfl] at hc ⊢
  have hdone := hd.done (over clock) hT (fun k hk e => hmi (w.heap.size + 2) (by omega) (e ▸ hk)) hc
  have htur := hd.turned (over clock) hT (.int .i64 (pick (over clock) t.l m.bs).length) (B := w.heap.size) HB1.out.size (fun k e => by omega)
  obtain ⟨w3, hw3⟩ : ∃ w3, w3 = w2.setCell ⟨tb, 4, none⟩ (.int .i64 (pick (over clock) t.l m.bs).length) := ⟨_, rfl⟩
  rw [← hw3] at hdone htur ⊢
  have far : ∀ k, k ≠ tb → w3.heap[k]? = w2.heap[k]? := fun k hk => by rw [hw3]; exact Below.heap_setCell _ _ _ _ hk
  have q0 := cell_of_one ((far w.heap.size (by omega)).trans ((hd.block w.heap.size (by have := HS1.out; omega) (by omega) (fun e => hmi w.heap.size (by omega) (.inr (.inr (.inr e)))) (by omega)).trans E0.out))
  have q2 : w3.cell? ⟨w.heap.size + 1 + 1, 0, none⟩ = some sv := cell_of_one ((far (w.heap.size + 2) (by omega)).trans hcl)
  have hsv3 : OffRow w3 29 4 sv (gone t clock t.l.length).length (flatS (gone t clock t.l.length)) := hso.kept fun k hk => far k (fun e => by have := hsv k hk; have := HS1.out; omega)
  have q8 := hdone.cended
  have f8 := hdone.f 8
  have hmr := hdone.ended
  obtain ⟨a, cap, rfl⟩ := hmr.shape
  obtain ⟨n, hn⟩ : ∃ n, n = (t.ended ++ (gone t clock t.l.length).map (·.id)).length := ⟨_, rfl⟩
  simp only [← hn] at q8
  rw [← hn] at htur
  have hgl := gone_le t clock t.l.length
  have h5 := HH.out.fits
  have h6 := HH.out.hi
  have y0 : (n : Int) ≤ 100 := by rw [hn, List.length_append, List.length_map]; omega
  clear hgl h5 h6
  have HT := Lib.hid hdone
  have HU := Lib.hid htur
  have HSV := Lib.hid hsv3
  have HSN := Lib.hid hsv
  have HN := Lib.hid hn
  clear hT hd hcl hso hsv hc hw3 far hmr hn hdone htur hsv3
  by_cases h8 : n ≤ 8
  · have y1 : (n : Int) - 8 ≤ 0 := by omega
    have y2 : ¬ (0 : Int) < (n : Int) - 8 := by omega
    have z2 : ∀ u, (w3.setCell ⟨tb, 8, none⟩ u).drew.cell? ⟨w.heap.size + 1 + 1, 0, none⟩ = some sv := fun u => by
      have : (w3.setCell ⟨tb, 8, none⟩ u).cell? ⟨w.heap.size + 1 + 1, 0, none⟩ = w3.cell? ⟨w.heap.size + 1 + 1, 0, none⟩ := World.cell?_setCell_far _ _ _ _ (by show tb ≠ w.heap.size + 1 + 1; omega)
      exact this.trans q2
    go_upto_region 3 with fail
    go_region
    go_wp2_with fail
    go_ret
    have hle : lastEight (t.ended ++ (gone t clock t.l.length).map (·.id)) = t.ended ++ (gone t clock t.l.length).map (·.id) := by
      unfold lastEight
      rw [← HN.out, show n - 8 = 0 by omega, List.drop_zero]
    have hx : expireS t clock = ({ t with l := t.l.filter fun x => !over clock x, ended := t.ended ++ (gone t clock t.l.length).map (·.id) }, gone t clock t.l.length) := by
      unfold expireS
      rw [← gone_all, hle]
    rw [hx]
    have hse := (HT.out.setEnded (B := w.heap.size) HT.out.ended (fun _ h => h))
    rw [← HN.out] at hse
    have hrow : OffRow (w3.setCell ⟨tb, 8, none⟩ (.slice a n cap)).drew 29 4 sv (gone t clock t.l.length).length (flatS (gone t clock t.l.length)) := HSV.out.kept fun k hk => Below.heap_setCell _ _ _ _ (by show k ≠ tb; have := HSN.out k hk; have := HB1.out.size; omega)
    have hta := hse.1.kept (w' := (w3.setCell ⟨tb, 8, none⟩ (.slice a n cap)).drew) fun _ _ => rfl
    exact ⟨sv, rfl, hrow, fun k hk => Nat.le_trans HB1.out.size (HSN.out k hk), _, hta, (((Turned.of_below HB1.out tb m).trans HU.out).trans hse.2).trans (Turned.drewN _ _ 1 _ _), fun k hk => hta.not_mine hrow hk⟩
  · obtain ⟨hrl, ⟨hr1, hr2⟩ | ⟨g, o, cap', cur, hv, hg, hr1, hr2, hr3, hr4⟩⟩ := HT.out.ended
    · rw [← HN.out] at hr2
      omega
    rw [← HN.out] at hr1
    simp only [Value.slice.injEq] at hv
    obtain ⟨rfl, _, rfl⟩ := hv
    have y1 : ¬ (n : Int) - 8 ≤ 0 := by omega
    have y2 : (0 : Int) < (n : Int) - 8 := by omega
    have y3 : (n : Int) - 8 ≤ (n : Int) := by omega
    have y4 : (n : Int) ≤ (cap : Int) := by omega
    have y5 : n ≤ cap := hr1
    have y6 : ((n : Int) - 8).toNat = n - 8 := by omega
    have z2 : ∀ u, (w3.setCell ⟨tb, 8, none⟩ u).drew.cell? ⟨w.heap.size + 1 + 1, 0, none⟩ = some sv := fun u => by
      have : (w3.setCell ⟨tb, 8, none⟩ u).cell? ⟨w.heap.size + 1 + 1, 0, none⟩ = w3.cell? ⟨w.heap.size + 1 + 1, 0, none⟩ := World.cell?_setCell_far _ _ _ _ (by show tb ≠ w.heap.size + 1 + 1; omega)
      exact this.trans q2
    have HR1 := Lib.hid hr1
    clear hr1 hr2 hr3 hr4 hg hrl
    go_upto_region 3 with fail
    go_region
    go_wp2_with fail
    go_ret
    have hfr := HT.out.ended
    simp only [← HN.out] at hfr
    have hfr2 := hfr.from (k := n - 8) (by omega)
    rw [if_neg (by have := HR1.out; omega), Nat.mul_one] at hfr2
    have hfl : (flatE (t.ended ++ (gone t clock t.l.length).map (·.id))).drop (n - 8) = flatE (lastEight (t.ended ++ (gone t clock t.l.length).map (·.id))) := by
      unfold lastEight flatE
      rw [List.map_drop, ← HN.out]
    have hll : (lastEight (t.ended ++ (gone t clock t.l.length).map (·.id))).length = n - (n - 8) := by
      unfold lastEight
      rw [List.length_drop, ← HN.out]
    rw [hfl, ← hll] at hfr2
    have hx : expireS t clock = ({ t with l := t.l.filter fun x => !over clock x, ended := lastEight (t.ended ++ (gone t clock t.l.length).map (·.id)) }, gone t clock t.l.length) := by
      unfold expireS
      rw [← gone_all]
    rw [hx]
    have hse := (HT.out.setEnded (B := w.heap.size) hfr2 (fun k hk => by rw [← hk]; rfl))
    rw [hll] at hse
    have hse2 := hse.2
    simp only [← HN.out] at hse2
    have hrow : OffRow (w3.setCell ⟨tb, 8, none⟩ (.slice (some ⟨g, o + (n - 8), none⟩) (n - (n - 8)) (cap - (n - 8)))).drew 29 4 sv (gone t clock t.l.length).length (flatS (gone t clock t.l.length)) := HSV.out.kept fun k hk => Below.heap_setCell _ _ _ _ (by show k ≠ tb; have := HSN.out k hk; have := HB1.out.size; omega)
    have hta := hse.1.kept (w' := (w3.setCell ⟨tb, 8, none⟩ (.slice (some ⟨g, o + (n - 8), none⟩) (n - (n - 8)) (cap - (n - 8)))).drew) fun _ _ => rfl
    exact ⟨sv, rfl, hrow, fun k hk => Nat.le_trans HB1.out.size (HSN.out k hk), _, hta, (((Turned.of_below HB1.out tb m).trans HU.out).trans hse2).trans (Turned.drewN _ _ 1 _ _), fun k hk => hta.not_mine hrow hk⟩
end Go.Proofs.Ytdikajbbolecoaa

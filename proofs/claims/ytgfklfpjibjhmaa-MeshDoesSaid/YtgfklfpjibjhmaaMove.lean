/-
  The mesh's methods, further: Drop, Double, Move.
-/
import Derived.Test.YtgfklfpjibjhmaaMesh
import Derived.Deep.RegionHeld3
namespace Go.Proofs.Ytgfklfpjibjhmaa
open Go.RowKit
set_option linter.unusedVariables false
set_option linter.unusedSimpArgs false

set_option maxHeartbeats 400000 in
theorem drop_no (mb : Nat) (v : Value) (room : Nat) (xs : List ByteArray) (n : Int) (w : World) (h : MeshAt w mb v room xs) (hn : n < 0 ∨ (xs.length : Int) ≤ n) :
    Calls Try.prog 22 #[.pointer (some ⟨mb, 0, none⟩), .int .i64 n] w (MeshPost w mb v room xs (.bool false)) := by
  have D := Lib.hid (take_no mb v room xs n w h hn)
  clear h hn
  go_enter Try.func22, Try.ntmps22
  go_wp2_with fail
  refine D.out.mono ?_
  rintro e w' ⟨rfl, hx⟩
  have HX := Lib.hid hx
  clear hx
  go_wp2_with fail
  go_ret
  exact ⟨rfl, HX.out⟩

set_option maxHeartbeats 400000 in
theorem drop_yes (mb : Nat) (v : Value) (room : Nat) (xs : List ByteArray) (n : Nat) (w : World) (h : MeshAt w mb v room xs) (hn : n < xs.length) :
    Calls Try.prog 22 #[.pointer (some ⟨mb, 0, none⟩), .int .i64 n] w (MeshPost w mb v room (xs.eraseIdx n) (.bool true)) := by
  have D := Lib.hid (take_yes mb v room xs n w h hn)
  clear h
  go_enter Try.func22, Try.ntmps22
  go_wp2_with fail
  refine D.out.mono ?_
  rintro e w' ⟨rfl, hx⟩
  have HX := Lib.hid hx
  clear hx
  go_wp2_with fail
  go_ret
  exact ⟨rfl, HX.out⟩

set_option maxHeartbeats 400000 in
theorem double_no (mb : Nat) (v : Value) (room : Nat) (xs : List ByteArray) (n : Int) (w : World) (h : MeshAt w mb v room xs) (hn : n < 0 ∨ (xs.length : Int) ≤ n) :
    Calls Try.prog 21 #[.pointer (some ⟨mb, 0, none⟩), .int .i64 n] w (MeshPost w mb v room xs (.bool false)) := by
  have D := Lib.hid (at_no mb v room xs n w h hn)
  have H := Lib.hid h
  clear h hn
  go_enter Try.func21, Try.ntmps21
  go_wp2_with fail
  refine (D.out _).mono ?_
  rintro e w' ⟨rfl, rfl⟩
  go_wp2_with fail
  go_ret
  exact ⟨rfl, v, H.out, .refl _ _ _ _⟩

set_option maxHeartbeats 400000 in
theorem double_yes (mb : Nat) (v : Value) (room : Nat) (xs : List ByteArray) (n : Nat) (w : World) (h : MeshAt w mb v room xs) (hn : n < xs.length) (hr : xs.length < room) :
    Calls Try.prog 21 #[.pointer (some ⟨mb, 0, none⟩), .int .i64 n] w (MeshPost w mb v room (xs ++ [xs[n]]) (.bool true)) := by
  have E := at_yes mb v room xs n w h hn 18 #[.pointer (some ⟨mb, 0, none⟩)] #[] _ (fun b w' => b = true ∧ ∃ v', MeshAt w' mb v' room (xs ++ [xs[n]]) ∧ Turned w.heap.size w w' mb v v') rfl (enters_fn Try.func18 (by kernel_rfl) rfl _)
    ((send_yes mb v room xs xs[n] w h hr).mono fun e w' ⟨he, hx⟩ => ⟨true, he, rfl, hx⟩)
  have D := Lib.hid E
  clear h E
  go_enter Try.func21, Try.ntmps21
  go_wp2_with fail
  refine D.out.mono ?_
  rintro e w' ⟨b, rfl, rfl, hx⟩
  have HX := Lib.hid hx
  clear hx
  go_wp2_with fail
  go_ret
  exact ⟨rfl, HX.out⟩

set_option maxHeartbeats 400000 in
theorem double_full (mb : Nat) (v : Value) (room : Nat) (xs : List ByteArray) (n : Nat) (w : World) (h : MeshAt w mb v room xs) (hn : n < xs.length) (hr : xs.length = room) :
    Calls Try.prog 21 #[.pointer (some ⟨mb, 0, none⟩), .int .i64 n] w (MeshPost w mb v room xs (.bool false)) := by
  have E := at_yes mb v room xs n w h hn 18 #[.pointer (some ⟨mb, 0, none⟩)] #[] _ (fun b w' => b = false ∧ ∃ v', MeshAt w' mb v' room xs ∧ Turned w.heap.size w w' mb v v') rfl (enters_fn Try.func18 (by kernel_rfl) rfl _)
    ((send_no mb v room xs xs[n] w h hr).mono fun e w' ⟨he, hx⟩ => ⟨false, he, rfl, hx⟩)
  have D := Lib.hid E
  clear h E hr
  go_enter Try.func21, Try.ntmps21
  go_wp2_with fail
  refine D.out.mono ?_
  rintro e w' ⟨b, rfl, rfl, hx⟩
  have HX := Lib.hid hx
  clear hx
  go_wp2_with fail
  go_ret
  exact ⟨rfl, HX.out⟩

/-- Where the one that was at n is at 'to'. -/
def moved (xs : List ByteArray) (n to : Nat) (s : ByteArray) : List ByteArray := (xs.eraseIdx n).take to ++ [s] ++ (xs.eraseIdx n).drop to

set_option maxHeartbeats 400000 in
theorem move11_any (mb : Nat) (v : Value) (room : Nat) (xs : List ByteArray) (n to : Nat) (s t : ByteArray) (bm bn bto bs : Nat) (w : World) (h : MeshAt w mb v room xs) (hn : n < xs.length) (hto : to < xs.length)
    (km : w.heap[bm]? = some (.cells #[.pointer (some ⟨mb, 0, none⟩)] 24 (0, 0))) (kn : w.heap[bn]? = some (.cells #[.int .i64 n] 3 (0, 0))) (kt : w.heap[bto]? = some (.cells #[.int .i64 to] 3 (0, 0)))
    (ks : w.heap[bs]? = some (.cells #[.string s] 9 (0, 0))) (hmm : bm ≠ mb) (hmn : bn ≠ mb) (hmt : bto ≠ mb) (hms : bs ≠ mb)
    (vm : v.ownBlock ≠ some bm) (vn : v.ownBlock ≠ some bn) (vt : v.ownBlock ≠ some bto) (vs : v.ownBlock ≠ some bs) :
    Calls Try.prog 29 #[.string t, .pointer (some ⟨bm, 0, none⟩), .pointer (some ⟨bn, 0, none⟩), .pointer (some ⟨bto, 0, none⟩), .pointer (some ⟨bs, 0, none⟩)] w
      (MeshPost w mb v room (moved xs n to s) (.bool true)) := by
  have cm := cell_of_one km
  have cn := cell_of_one kn
  have D := Lib.hid (out_row mb v room xs n w h hn)
  have lm := lt_of_block km
  have lt := lt_of_block kt
  have ls := lt_of_block ks
  have H := Lib.hid h
  have KM := Lib.hid km
  have KT := Lib.hid kt
  have KS := Lib.hid ks
  clear h km kn kt ks hmn vn
  have HH := Lib.hid (And.intro hmm (And.intro hmt (And.intro hms (And.intro vm (And.intro vt vs)))))
  clear hmm hmt hms vm vt vs
  go_enter Try.func29, Try.ntmps29
  go_wp2_with fail
  refine D.out.mono ?_
  rintro e w1 ⟨rfl, g, cap, hcap, hm1, ht1⟩
  have km1 : w1.heap[bm]? = some (.cells #[.pointer (some ⟨mb, 0, none⟩)] 24 (0, 0)) := (ht1.block bm lm HH.out.1 HH.out.2.2.2.1).trans KM.out
  have kt1 : w1.heap[bto]? = some (.cells #[.int .i64 to] 3 (0, 0)) := (ht1.block bto lt HH.out.2.1 HH.out.2.2.2.2.1).trans KT.out
  have ks1 : w1.heap[bs]? = some (.cells #[.string s] 9 (0, 0)) := (ht1.block bs ls HH.out.2.2.1 HH.out.2.2.2.2.2).trans KS.out
  have h := H.out
  obtain ⟨cur, hg1, hsz1, hl1, hmx1, htk1, hgm1⟩ := hm1.cells
  have hl : (xs.eraseIdx n).length = xs.length - 1 := List.length_eraseIdx_of_lt hn
  have hne1 : w1.heap.size ≠ g := by have := lt_of_block hg1; omega
  have D2 := Lib.hid (insert_any g (xs.length - 1) cap to w1.heap.size cur (.string s) (w1.alloc (.cells #[.string s] 9)).drew ((Below.heap_alloc w1 _ g (lt_of_block hg1)).trans hg1) hsz1 (by omega) (by omega) hmx1
    (by rw [hl1, htk1]; exact cells_one) (heap_alloc_new w1 _) rfl hne1)
  have hx : bm ≠ g ∧ bto ≠ g ∧ bs ≠ g := by
    have ha : ∀ k, k < w.heap.size → v.ownBlock ≠ some k → k ≠ g := fun k hk hv e => by
      rcases ht1.own k (by rw [e]; rfl) with e' | e'
      · exact hv e'
      · omega
    exact ⟨ha _ lm HH.out.2.2.2.1, ha _ lt HH.out.2.2.2.2.1, ha _ ls HH.out.2.2.2.2.2⟩
  have hfin : ∀ (w2 : World) (cur' : Array Value), w2.heap[g]? = some (.cells cur' 9 (0, 0)) → cur'.size = cur.size → cur'.toList.take (xs.length - 1 + 1) = cur.toList.take to ++ [.string s] ++ (cur.toList.take (xs.length - 1)).drop to →
      SameBut g (w1.alloc (.cells #[.string s] 9)).drew w2 → MeshPost w mb v room (moved xs n to s) (.bool true) (.returned (.bool true)) (w2.setCell ⟨mb, 1, none⟩ (.slice (some ⟨g, 0, none⟩) (xs.length - 1 + 1) cap)) := by
    intro w2 cur' hg2 hs2 ht2 hb2
    have hk2 : w2.heap[mb]? = w1.heap[mb]? := (hb2.block mb (Ne.symm hgm1)).trans (Below.heap_alloc w1 _ mb hm1.lt)
    have hlm : (moved xs n to s).length = xs.length := by simp [moved, hl]; omega
    have hne : (Value.slice (some ⟨g, 0, none⟩) (xs.length - 1 + 1) cap).ownBlock ≠ some mb := by simpa [Value.ownBlock] using hgm1
    have e1 : xs.length - 1 + 1 = xs.length := by omega
    refine ⟨rfl, _, ⟨box_set (hk2.trans hm1.box), ?_, hne, hm1.lo, hm1.hi, by have := h.fits; omega⟩, ?_⟩
    · rw [hlm]
      refine ownsRow_setCell_other (a := ⟨mb, 1, none⟩) ?_ hne _
      refine ⟨by simp [hlm], .inr ⟨g, cap, cur', by rw [e1], Nat.zero_le _, hg2, hcap, hmx1, by omega, ?_⟩⟩
      rw [Nat.mul_one, ← e1, ht2, hl1, htk1]
      simp only [moved, List.map_append, List.map_take, List.map_drop, ← htk1, List.take_take]
      congr 3
      omega
    · refine ht1.trans ⟨hb2.os, hb2.tape, hb2.output, ?_, ?_, ?_⟩
      · have := hb2.size; simp at this ⊢; omega
      · intro k hk hkm hkv
        have hkg : k ≠ g := fun e => hkv (by rw [e]; rfl)
        rw [Below.heap_setCell _ _ _ _ hkm, hb2.block k hkg]
        exact Below.heap_alloc w1 _ k (by have := ht1.size; omega)
      · intro k hk
        exact .inl hk
  have HF := Lib.hid hfin
  have HX := Lib.hid hx
  have HGM := Lib.hid hgm1
  have HL := Lib.hid hm1.lt
  clear hg1 hsz1 hl1 hmx1 htk1 hgm1 hl hne1 hx hfin
  clear h
  have HM1 := Lib.hid hm1
  have HT1 := Lib.hid ht1
  have c1 := hm1.c1
  have f1 := hm1.f 1
  clear cm cn ht1 hm1
  have cm := cell_of_one km1
  have ct := cell_of_one kt1
  have cs := cell_of_one ks1
  clear km1 kt1 ks1
  go_wp2_with fail
  refine wp_region_held_drew (S := fun w' : World => w'.cell? ⟨bm, 0, none⟩ = some (.pointer (some ⟨mb, 0, none⟩)) ∧ w'.cell? ⟨bto, 0, none⟩ = some (.int .i64 to) ∧ w'.cell? ⟨bs, 0, none⟩ = some (.string s)) (by kernel_rfl) ⟨cm, ct, cs⟩ (fun hH => ?_)
  refine wpAnyH_take (i := 0) (v := .pointer (some ⟨mb, 0, none⟩)) rfl (by kernel_rfl) (by kernel_rfl) (by kernel_rfl) (fun _ _ _ h => h) (Or.inl ⟨by rfl, ?_⟩) hH ?_
  · rintro w ⟨q1, q2, q3⟩
    go_simp
  simp only [Act.put, List.setIfInBounds_toArray, List.set_cons_zero, List.set_cons_succ]
  refine wpAnyH_take (i := 1) (v := .pointer (some ⟨mb, 0, none⟩)) rfl (by kernel_rfl) (by kernel_rfl) (by kernel_rfl) (fun _ _ _ h => h) (Or.inl ⟨by rfl, ?_⟩) hH ?_
  · rintro w ⟨q1, q2, q3⟩
    go_simp
  simp only [Act.put, List.setIfInBounds_toArray, List.set_cons_zero, List.set_cons_succ]
  refine wpAnyH_take (i := 2) (v := .pointer (some ⟨mb, 0, none⟩)) rfl (by kernel_rfl) (by kernel_rfl) (by kernel_rfl) (fun _ _ _ h => h) (Or.inl ⟨by rfl, ?_⟩) hH ?_
  · rintro w ⟨q1, q2, q3⟩
    go_simp
  simp only [Act.put, List.setIfInBounds_toArray, List.set_cons_zero, List.set_cons_succ]
  refine wpAnyH_take (i := 3) (v := .pointer (some ⟨mb, 1, none⟩)) rfl (by kernel_rfl) (by kernel_rfl) (by kernel_rfl) (fun _ _ _ h => h) (Or.inl ⟨by rfl, ?_⟩) hH ?_
  · rintro w ⟨q1, q2, q3⟩
    go_simp
  simp only [Act.put, List.setIfInBounds_toArray, List.set_cons_zero, List.set_cons_succ]
  refine wpAnyH_take (i := 5) (v := .int .i64 to) rfl (by kernel_rfl) (by kernel_rfl) (by kernel_rfl) (fun _ _ _ h => h) (Or.inl ⟨by rfl, ?_⟩) hH ?_
  · rintro w ⟨q1, q2, q3⟩
    go_simp
  simp only [Act.put, List.setIfInBounds_toArray, List.set_cons_zero, List.set_cons_succ]
  refine wpAnyH_take (i := 6) (v := .string s) rfl (by kernel_rfl) (by kernel_rfl) (by kernel_rfl) (fun _ _ _ h => h) (Or.inl ⟨by rfl, ?_⟩) hH ?_
  · rintro w ⟨q1, q2, q3⟩
    go_simp
  simp only [Act.put, List.setIfInBounds_toArray, List.set_cons_zero, List.set_cons_succ]

  have keepA : ∀ (W : World) (o : Obj), (W.cell? ⟨bm, 0, none⟩ = some (.pointer (some ⟨mb, 0, none⟩)) ∧ W.cell? ⟨bto, 0, none⟩ = some (.int .i64 to) ∧ W.cell? ⟨bs, 0, none⟩ = some (.string s)) →
      ((W.alloc o).cell? ⟨bm, 0, none⟩ = some (.pointer (some ⟨mb, 0, none⟩)) ∧ (W.alloc o).cell? ⟨bto, 0, none⟩ = some (.int .i64 to) ∧ (W.alloc o).cell? ⟨bs, 0, none⟩ = some (.string s)) := by
    rintro W o ⟨q1, q2, q3⟩
    exact ⟨by rw [World.cell?_alloc_some _ _ _ (by simp [q1])]; exact q1, by rw [World.cell?_alloc_some _ _ _ (by simp [q2])]; exact q2, by rw [World.cell?_alloc_some _ _ _ (by simp [q3])]; exact q3⟩
  have KA := Lib.hid keepA
  clear keepA
  have HhH := Lib.hid hH
  refine wpAnyH_ready (rs := [4, 7]) (by kernel_rfl) (by simp) ?_
  refine AllReadyH.cons rfl (fun K' hK => ?_) (AllReadyH.cons rfl (fun K' hK => ?_) AllReadyH.nil)
  · go_simp
    refine hK.out _ _ HhH.out (fun hHeld => ?_)
    clear hK K' hHeld hH
    try simp only [Act.put, List.setIfInBounds_toArray, List.set_cons_zero, List.set_cons_succ]
    refine wpAnyH_ready (rs := [7]) (by kernel_rfl) (by simp) ?_
    refine AllReadyH.cons rfl (fun K' hK => ?_) AllReadyH.nil
    go_simp
    refine hK.out _ _ (KA.out _ _ HhH.out) (fun hHeld => ?_)
    clear hK K'
    try simp only [Act.put, List.setIfInBounds_toArray, List.set_cons_zero, List.set_cons_succ]
    refine wpAnyH_ready (rs := [8]) (by kernel_rfl) (by simp) ?_
    refine AllReadyH.cons rfl (fun K' hK => ?_) AllReadyH.nil
    go_simp
    clear hHeld
    refine D2.out.mono ?_
    rintro e w2 ⟨rfl, cur', hg2, hs2, ht2, hb2⟩
    have hk2 : w2.heap[mb]? = w1.heap[mb]? := (hb2.block mb (Ne.symm HGM.out)).trans (Below.heap_alloc w1 _ mb HL.out)
    have c1' : w2.cell? ⟨mb, 1, none⟩ = some (.slice (some ⟨g, 0, none⟩) (xs.length - 1) cap) := by rw [World.cell?_of_block (w := w1) hk2]; exact c1
    have f1' : w2.frozen? ⟨mb, 1, none⟩ = false := by rw [World.frozen?_of_block (w := w1) hk2]; exact f1
    have hH : w2.cell? ⟨bm, 0, none⟩ = some (.pointer (some ⟨mb, 0, none⟩)) ∧ w2.cell? ⟨bto, 0, none⟩ = some (.int .i64 to) ∧ w2.cell? ⟨bs, 0, none⟩ = some (.string s) := by
      have q := KA.out _ (.cells #[.string s] 9) HhH.out
      exact ⟨(World.cell?_of_block (hb2.block bm HX.out.1)).trans q.1, (World.cell?_of_block (hb2.block bto HX.out.2.1)).trans q.2.1, (World.cell?_of_block (hb2.block bs HX.out.2.2)).trans q.2.2⟩
    have HG2 := Lib.hid hg2
    have HS2 := Lib.hid hs2
    have HT2 := Lib.hid ht2
    have HB2 := Lib.hid hb2
    have HK2 := Lib.hid hk2
    clear hg2 hs2 ht2 hb2 hk2
    refine hK.out _ _ hH (fun _ => ?_)
    clear hK K'
    try simp only [Act.put, List.setIfInBounds_toArray, List.set_cons_zero, List.set_cons_succ]
    refine wpAnyH_take (i := 9) (v := .pointer (some ⟨mb, 0, none⟩)) rfl (by kernel_rfl) (by kernel_rfl) (by kernel_rfl) (fun _ _ _ h => h) (Or.inl ⟨by rfl, ?_⟩) hH ?_
    · rintro w ⟨q1, q2, q3⟩
      go_simp
    try simp only [Act.put, List.setIfInBounds_toArray, List.set_cons_zero, List.set_cons_succ]
    refine wpAnyH_take (i := 10) (v := .pointer (some ⟨mb, 1, none⟩)) rfl (by kernel_rfl) (by kernel_rfl) (by kernel_rfl) (fun _ _ _ h => h) (Or.inl ⟨by rfl, ?_⟩) hH ?_
    · rintro w ⟨q1, q2, q3⟩
      go_simp
    try simp only [Act.put, List.setIfInBounds_toArray, List.set_cons_zero, List.set_cons_succ]
    refine wpAnyH_ready (rs := [11]) (by kernel_rfl) (by simp) ?_
    refine AllReadyH.cons rfl (fun K' hK => ?_) AllReadyH.nil
    have keepS : Hid (∀ u, (w2.setCell ⟨mb, 1, none⟩ u).cell? ⟨bm, 0, none⟩ = some (.pointer (some ⟨mb, 0, none⟩)) ∧ (w2.setCell ⟨mb, 1, none⟩ u).cell? ⟨bto, 0, none⟩ = some (.int .i64 to) ∧ (w2.setCell ⟨mb, 1, none⟩ u).cell? ⟨bs, 0, none⟩ = some (.string s)) := Lib.hid (fun u =>
      ⟨by rw [World.cell?_setCell_far _ _ _ _ (Ne.symm HH.out.1)]; exact hH.1, by rw [World.cell?_setCell_far _ _ _ _ (Ne.symm HH.out.2.1)]; exact hH.2.1, by rw [World.cell?_setCell_far _ _ _ _ (Ne.symm HH.out.2.2.1)]; exact hH.2.2⟩)
    clear hH
    go_simp
    refine hK.out _ _ (keepS.out _) (fun _ => ?_)
    clear hK K' keepS
    refine wpAnyH_done (by kernel_rfl) ?_ _
    try simp only [Act.put, List.setIfInBounds_toArray, List.set_cons_zero, List.set_cons_succ]
    go_wp2_with fail
    go_ret
    exact HF.out w2 cur' HG2.out HS2.out HT2.out HB2.out
  · go_simp
    refine hK.out _ _ (KA.out _ _ HhH.out) (fun hHeld => ?_)
    clear hK K' hHeld hH
    try simp only [Act.put, List.setIfInBounds_toArray, List.set_cons_zero, List.set_cons_succ]
    refine wpAnyH_ready (rs := [4]) (by kernel_rfl) (by simp) ?_
    refine AllReadyH.cons rfl (fun K' hK => ?_) AllReadyH.nil
    have c1A : (w1.alloc (.cells #[.string s] 9)).cell? ⟨mb, 1, none⟩ = some (.slice (some ⟨g, 0, none⟩) (xs.length - 1) cap) := by rw [World.cell?_alloc_some _ _ _ (by simp [c1])]; exact c1
    go_simp
    clear c1A
    refine hK.out _ _ (KA.out _ _ HhH.out) (fun hHeld => ?_)
    clear hK K'
    try simp only [Act.put, List.setIfInBounds_toArray, List.set_cons_zero, List.set_cons_succ]
    refine wpAnyH_ready (rs := [8]) (by kernel_rfl) (by simp) ?_
    refine AllReadyH.cons rfl (fun K' hK => ?_) AllReadyH.nil
    go_simp
    clear hHeld
    refine D2.out.mono ?_
    rintro e w2 ⟨rfl, cur', hg2, hs2, ht2, hb2⟩
    have hk2 : w2.heap[mb]? = w1.heap[mb]? := (hb2.block mb (Ne.symm HGM.out)).trans (Below.heap_alloc w1 _ mb HL.out)
    have c1' : w2.cell? ⟨mb, 1, none⟩ = some (.slice (some ⟨g, 0, none⟩) (xs.length - 1) cap) := by rw [World.cell?_of_block (w := w1) hk2]; exact c1
    have f1' : w2.frozen? ⟨mb, 1, none⟩ = false := by rw [World.frozen?_of_block (w := w1) hk2]; exact f1
    have hH : w2.cell? ⟨bm, 0, none⟩ = some (.pointer (some ⟨mb, 0, none⟩)) ∧ w2.cell? ⟨bto, 0, none⟩ = some (.int .i64 to) ∧ w2.cell? ⟨bs, 0, none⟩ = some (.string s) := by
      have q := KA.out _ (.cells #[.string s] 9) HhH.out
      exact ⟨(World.cell?_of_block (hb2.block bm HX.out.1)).trans q.1, (World.cell?_of_block (hb2.block bto HX.out.2.1)).trans q.2.1, (World.cell?_of_block (hb2.block bs HX.out.2.2)).trans q.2.2⟩
    have HG2 := Lib.hid hg2
    have HS2 := Lib.hid hs2
    have HT2 := Lib.hid ht2
    have HB2 := Lib.hid hb2
    have HK2 := Lib.hid hk2
    clear hg2 hs2 ht2 hb2 hk2
    refine hK.out _ _ hH (fun _ => ?_)
    clear hK K'
    try simp only [Act.put, List.setIfInBounds_toArray, List.set_cons_zero, List.set_cons_succ]
    refine wpAnyH_take (i := 9) (v := .pointer (some ⟨mb, 0, none⟩)) rfl (by kernel_rfl) (by kernel_rfl) (by kernel_rfl) (fun _ _ _ h => h) (Or.inl ⟨by rfl, ?_⟩) hH ?_
    · rintro w ⟨q1, q2, q3⟩
      go_simp
    try simp only [Act.put, List.setIfInBounds_toArray, List.set_cons_zero, List.set_cons_succ]
    refine wpAnyH_take (i := 10) (v := .pointer (some ⟨mb, 1, none⟩)) rfl (by kernel_rfl) (by kernel_rfl) (by kernel_rfl) (fun _ _ _ h => h) (Or.inl ⟨by rfl, ?_⟩) hH ?_
    · rintro w ⟨q1, q2, q3⟩
      go_simp
    try simp only [Act.put, List.setIfInBounds_toArray, List.set_cons_zero, List.set_cons_succ]
    refine wpAnyH_ready (rs := [11]) (by kernel_rfl) (by simp) ?_
    refine AllReadyH.cons rfl (fun K' hK => ?_) AllReadyH.nil
    have keepS : Hid (∀ u, (w2.setCell ⟨mb, 1, none⟩ u).cell? ⟨bm, 0, none⟩ = some (.pointer (some ⟨mb, 0, none⟩)) ∧ (w2.setCell ⟨mb, 1, none⟩ u).cell? ⟨bto, 0, none⟩ = some (.int .i64 to) ∧ (w2.setCell ⟨mb, 1, none⟩ u).cell? ⟨bs, 0, none⟩ = some (.string s)) := Lib.hid (fun u =>
      ⟨by rw [World.cell?_setCell_far _ _ _ _ (Ne.symm HH.out.1)]; exact hH.1, by rw [World.cell?_setCell_far _ _ _ _ (Ne.symm HH.out.2.1)]; exact hH.2.1, by rw [World.cell?_setCell_far _ _ _ _ (Ne.symm HH.out.2.2.1)]; exact hH.2.2⟩)
    clear hH
    go_simp
    refine hK.out _ _ (keepS.out _) (fun _ => ?_)
    clear hK K' keepS
    refine wpAnyH_done (by kernel_rfl) ?_ _
    try simp only [Act.put, List.setIfInBounds_toArray, List.set_cons_zero, List.set_cons_succ]
    go_wp2_with fail
    go_ret
    exact HF.out w2 cur' HG2.out HS2.out HT2.out HB2.out

set_option maxHeartbeats 400000 in
theorem move1_yes (mb : Nat) (v : Value) (room : Nat) (xs : List ByteArray) (n to : Nat) (s : ByteArray) (bm bn bto : Nat) (w : World) (h : MeshAt w mb v room xs) (hn : n < xs.length) (hto : to < xs.length)
    (km : w.heap[bm]? = some (.cells #[.pointer (some ⟨mb, 0, none⟩)] 24 (0, 0))) (kn : w.heap[bn]? = some (.cells #[.int .i64 n] 3 (0, 0))) (kt : w.heap[bto]? = some (.cells #[.int .i64 to] 3 (0, 0)))
    (hmm : bm ≠ mb) (hmn : bn ≠ mb) (hmt : bto ≠ mb) (vm : v.ownBlock ≠ some bm) (vn : v.ownBlock ≠ some bn) (vt : v.ownBlock ≠ some bto) :
    Calls Try.prog 28 #[.string s, .pointer (some ⟨bm, 0, none⟩), .pointer (some ⟨bto, 0, none⟩), .pointer (some ⟨bn, 0, none⟩)] w
      (MeshPost w mb v room (moved xs n to s) (.bool true)) := by
  have cm := cell_of_one km
  have ct := cell_of_one kt
  have lm := lt_of_block km
  have ln := lt_of_block kn
  have lt := lt_of_block kt
  have hA := h.alloc (.cells #[.string s] 9)
  have D := move11_any mb v room xs n to s xs[to] bm bn bto w.heap.size (w.alloc (.cells #[.string s] 9)) hA hn hto
    ((Below.heap_alloc w _ bm lm).trans km) ((Below.heap_alloc w _ bn ln).trans kn) ((Below.heap_alloc w _ bto lt).trans kt) (heap_alloc_new w _) hmm hmn hmt (by have := h.lt; omega) vm vn vt (fun e => by have := h.own_lt _ e; omega)
  have E := at_yes mb v room xs to (w.alloc (.cells #[.string s] 9)) hA hto 29 #[] #[.pointer (some ⟨bm, 0, none⟩), .pointer (some ⟨bn, 0, none⟩), .pointer (some ⟨bto, 0, none⟩), .pointer (some ⟨w.heap.size, 0, none⟩)] _
    (fun b w' => b = true ∧ ∃ v', MeshAt w' mb v' room (moved xs n to s) ∧ Turned (w.alloc (.cells #[.string s] 9)).heap.size (w.alloc (.cells #[.string s] 9)) w' mb v v') rfl (enters_fn Try.func29 (by kernel_rfl) rfl _)
    (D.mono fun e w' ⟨he, hx⟩ => ⟨true, he, rfl, hx⟩)
  have HE := Lib.hid E
  have cm1 : (w.alloc (.cells #[.string s] 9)).cell? ⟨bm, 0, none⟩ = some (.pointer (some ⟨mb, 0, none⟩)) := by rw [World.cell?_alloc_lt _ _ _ lm]; exact cm
  have ct1 : (w.alloc (.cells #[.string s] 9)).cell? ⟨bto, 0, none⟩ = some (.int .i64 to) := by rw [World.cell?_alloc_lt _ _ _ lt]; exact ct
  have HL := Lib.hid h.lt
  clear h D E km kn kt hmm hmn hmt vm vn vt hA
  go_enter Try.func28, Try.ntmps28
  go_wp2_with fail
  refine HE.out.mono ?_
  rintro e w' ⟨b, rfl, rfl, v', hm', ht'⟩
  have HM := Lib.hid hm'
  have HT := Lib.hid ht'
  clear hm' ht'
  go_wp2_with fail
  go_ret
  exact ⟨rfl, v', HM.out, (Turned.alloc w.heap.size w _ (Nat.le_refl _) mb v).trans (HT.out.mono (by simp))⟩

set_option maxHeartbeats 400000 in
theorem move1_no (mb : Nat) (v : Value) (room : Nat) (xs : List ByteArray) (to : Int) (s : ByteArray) (bm bn bto : Nat) (w : World) (h : MeshAt w mb v room xs) (hto : to < 0 ∨ (xs.length : Int) ≤ to)
    (km : w.heap[bm]? = some (.cells #[.pointer (some ⟨mb, 0, none⟩)] 24 (0, 0))) (kt : w.heap[bto]? = some (.cells #[.int .i64 to] 3 (0, 0))) :
    Calls Try.prog 28 #[.string s, .pointer (some ⟨bm, 0, none⟩), .pointer (some ⟨bto, 0, none⟩), .pointer (some ⟨bn, 0, none⟩)] w
      (MeshPost w mb v room xs (.bool false)) := by
  have cm := cell_of_one km
  have ct := cell_of_one kt
  have lm := lt_of_block km
  have lt := lt_of_block kt
  have hA := h.alloc (.cells #[.string s] 9)
  have HE := Lib.hid (at_no mb v room xs to (w.alloc (.cells #[.string s] 9)) hA hto)
  have cm1 : (w.alloc (.cells #[.string s] 9)).cell? ⟨bm, 0, none⟩ = some (.pointer (some ⟨mb, 0, none⟩)) := by rw [World.cell?_alloc_lt _ _ _ lm]; exact cm
  have ct1 : (w.alloc (.cells #[.string s] 9)).cell? ⟨bto, 0, none⟩ = some (.int .i64 to) := by rw [World.cell?_alloc_lt _ _ _ lt]; exact ct
  have HA := Lib.hid hA
  clear h km kt hA hto
  go_enter Try.func28, Try.ntmps28
  go_wp2_with fail
  refine (HE.out _).mono ?_
  rintro e w' ⟨rfl, rfl⟩
  go_wp2_with fail
  go_ret
  exact ⟨rfl, v, HA.out, Turned.alloc w.heap.size w _ (Nat.le_refl _) mb v⟩

/-- The three boxes that Move lays for what its closures capture. -/
noncomputable def moveW (w : World) (mb : Nat) (n to : Int) : World :=
  ((w.alloc (.cells #[.pointer (some ⟨mb, 0, none⟩)] 24)).alloc (.cells #[.int .i64 n] 3)).alloc (.cells #[.int .i64 to] 3)
theorem moveW_below (w : World) (mb : Nat) (n to : Int) : Below w.heap.size w (moveW w mb n to) :=
  (((Below.refl _ _).alloc (Nat.le_refl _) _).alloc (by simp) _).alloc (by simp; omega) _
theorem moveW_0 (w : World) (mb : Nat) (n to : Int) : (moveW w mb n to).heap[w.heap.size]? = some (.cells #[.pointer (some ⟨mb, 0, none⟩)] 24 (0, 0)) := by
  rw [moveW, Below.heap_alloc _ _ _ (by simp; omega), Below.heap_alloc _ _ _ (by simp), heap_alloc_new]
theorem moveW_1 (w : World) (mb : Nat) (n to : Int) : (moveW w mb n to).heap[w.heap.size + 1]? = some (.cells #[.int .i64 n] 3 (0, 0)) := by
  rw [moveW, Below.heap_alloc _ _ _ (by simp), show w.heap.size + 1 = (w.alloc (.cells #[.pointer (some ⟨mb, 0, none⟩)] 24)).heap.size by simp, heap_alloc_new]
theorem moveW_2 (w : World) (mb : Nat) (n to : Int) : (moveW w mb n to).heap[w.heap.size + 1 + 1]? = some (.cells #[.int .i64 to] 3 (0, 0)) := by
  rw [moveW, show w.heap.size + 1 + 1 = ((w.alloc (.cells #[.pointer (some ⟨mb, 0, none⟩)] 24)).alloc (.cells #[.int .i64 n] 3)).heap.size by simp, heap_alloc_new]

set_option maxHeartbeats 400000 in
theorem move_off (mb : Nat) (v : Value) (room : Nat) (xs : List ByteArray) (n to : Int) (w : World) (h : MeshAt w mb v room xs) (hn : n < 0 ∨ (xs.length : Int) ≤ n) :
    Calls Try.prog 19 #[.pointer (some ⟨mb, 0, none⟩), .int .i64 n, .int .i64 to] w (MeshPost w mb v room xs (.bool false)) := by
  have hm := h.below (moveW_below w mb n to)
  have HE := Lib.hid (at_no mb v room xs n _ hm hn)
  have HM := Lib.hid hm
  have hW : ((w.alloc (.cells #[.pointer (some ⟨mb, 0, none⟩)] 24)).alloc (.cells #[.int .i64 n] 3)).alloc (.cells #[.int .i64 to] 3) = moveW w mb n to := rfl
  have HW := Lib.hid hW
  clear h hm hn hW
  go_enter Try.func19, Try.ntmps19
  go_wp2_with fail
  rw [HW.out]
  refine (HE.out _).mono ?_
  rintro e w' ⟨rfl, rfl⟩
  go_wp2_with fail
  go_ret
  exact ⟨rfl, v, HM.out, .of_below (moveW_below w mb n to) mb v⟩

set_option maxHeartbeats 400000 in
theorem move_in (mb : Nat) (v : Value) (room : Nat) (xs ys : List ByteArray) (n : Nat) (to : Int) (b : Bool) (w : World) (h : MeshAt w mb v room xs) (hn : n < xs.length)
    (hd : Calls Try.prog 28 #[.string xs[n], .pointer (some ⟨w.heap.size, 0, none⟩), .pointer (some ⟨w.heap.size + 1 + 1, 0, none⟩), .pointer (some ⟨w.heap.size + 1, 0, none⟩)] (moveW w mb n to) (MeshPost (moveW w mb n to) mb v room ys (.bool b))) :
    Calls Try.prog 19 #[.pointer (some ⟨mb, 0, none⟩), .int .i64 n, .int .i64 to] w (MeshPost w mb v room ys (.bool b)) := by
  have hm := h.below (moveW_below w mb n to)
  have E := at_yes mb v room xs n _ hm hn 28 #[] #[.pointer (some ⟨w.heap.size, 0, none⟩), .pointer (some ⟨w.heap.size + 1 + 1, 0, none⟩), .pointer (some ⟨w.heap.size + 1, 0, none⟩)] _
    (fun b' w' => b' = b ∧ ∃ v', MeshAt w' mb v' room ys ∧ Turned (moveW w mb n to).heap.size (moveW w mb n to) w' mb v v') rfl (enters_fn Try.func28 (by kernel_rfl) rfl _)
    (hd.mono fun e w' ⟨he, hx⟩ => ⟨b, he, rfl, hx⟩)
  have HE := Lib.hid E
  have hW : ((w.alloc (.cells #[.pointer (some ⟨mb, 0, none⟩)] 24)).alloc (.cells #[.int .i64 n] 3)).alloc (.cells #[.int .i64 to] 3) = moveW w mb n to := rfl
  have HW := Lib.hid hW
  have HB := Lib.hid (moveW_below w mb n to)
  clear h hm hW E hd
  go_enter Try.func19, Try.ntmps19
  go_wp2_with fail
  rw [HW.out]
  refine HE.out.mono ?_
  rintro e w' ⟨b', rfl, rfl, v', hm', ht'⟩
  have HM := Lib.hid hm'
  have HT := Lib.hid ht'
  clear hm' ht'
  go_wp2_with fail
  go_ret
  exact ⟨rfl, v', HM.out, (Turned.of_below HB.out mb v).trans (HT.out.mono HB.out.size)⟩

theorem move_yes (mb : Nat) (v : Value) (room : Nat) (xs : List ByteArray) (n to : Nat) (w : World) (h : MeshAt w mb v room xs) (hn : n < xs.length) (hto : to < xs.length) :
    Calls Try.prog 19 #[.pointer (some ⟨mb, 0, none⟩), .int .i64 n, .int .i64 to] w (MeshPost w mb v room (moved xs n to xs[n]) (.bool true)) := by
  have hlt := h.lt
  have hv : ∀ k, w.heap.size ≤ k → v.ownBlock ≠ some k := fun k hk e => by have := h.own_lt _ e; omega
  exact move_in mb v room xs _ n to true w h hn (move1_yes mb v room xs n to xs[n] _ _ _ _ (h.below (moveW_below w mb n to)) hn hto (moveW_0 w mb n to) (moveW_1 w mb n to) (moveW_2 w mb n to)
    (by omega) (by omega) (by omega) (hv _ (by omega)) (hv _ (by omega)) (hv _ (by omega)))
theorem move_no (mb : Nat) (v : Value) (room : Nat) (xs : List ByteArray) (n : Nat) (to : Int) (w : World) (h : MeshAt w mb v room xs) (hn : n < xs.length) (hto : to < 0 ∨ (xs.length : Int) ≤ to) :
    Calls Try.prog 19 #[.pointer (some ⟨mb, 0, none⟩), .int .i64 n, .int .i64 to] w (MeshPost w mb v room xs (.bool false)) :=
  move_in mb v room xs _ n to false w h hn (move1_no mb v room xs to xs[n] _ _ _ _ (h.below (moveW_below w mb n to)) hto (moveW_0 w mb n to) (moveW_2 w mb n to))
end Go.Proofs.Ytgfklfpjibjhmaa

/-
  The mesh in memory: what it is, what its methods do to it. Each method is walked once.
-/
import Derived.Test.YtgfklfpjibjhmaaSlices
namespace Go.Proofs.Ytgfklfpjibjhmaa
open Go.RowKit
set_option linter.unusedVariables false
set_option linter.unusedSimpArgs false

/-- The mesh at block mb: its room, its frames; v is the slice in its field. -/
structure MeshAt (w : World) (mb : Nat) (v : Value) (room : Nat) (xs : List ByteArray) : Prop where
  box : w.heap[mb]? = some (.cells #[.int .i64 room, v] 50 (0, 0))
  own : w.ownsRow 0 9 1 v xs.length (xs.map Value.string)
  ne : v.ownBlock ≠ some mb
  lo : 1 ≤ room
  hi : room ≤ 64
  fits : xs.length ≤ room

/-- Below B nothing has turned but the mesh's own two blocks. -/
structure Turned (B : Nat) (w w' : World) (mb : Nat) (v v' : Value) : Prop where
  os : w'.os = w.os
  tape : w'.tape = w.tape
  output : w'.output = w.output
  size : w.heap.size ≤ w'.heap.size
  block : ∀ k, k < B → k ≠ mb → v.ownBlock ≠ some k → w'.heap[k]? = w.heap[k]?
  own : ∀ k, v'.ownBlock = some k → v.ownBlock = some k ∨ B ≤ k

section
variable {w w' w1 : World} {mb B : Nat} {v v' v1 : Value} {room : Nat} {xs : List ByteArray}

theorem Turned.refl (B : Nat) (w : World) (mb : Nat) (v : Value) : Turned B w w mb v v := ⟨rfl, rfl, rfl, Nat.le_refl _, fun _ _ _ _ => rfl, fun _ h => .inl h⟩
theorem Turned.trans (h : Turned B w w1 mb v v1) (h' : Turned B w1 w' mb v1 v') : Turned B w w' mb v v' := by
  refine ⟨h'.os.trans h.os, h'.tape.trans h.tape, h'.output.trans h.output, Nat.le_trans h.size h'.size, fun k hk hm hv => ?_, fun k hk => ?_⟩
  · rw [h'.block k hk hm (fun e => ?_), h.block k hk hm hv]
    rcases h.own k e with e' | e'
    · exact hv e'
    · omega
  · rcases h'.own k hk with e | e
    · exact h.own k e
    · exact .inr e
theorem Turned.mono {B' : Nat} (h : Turned B w w' mb v v') (hB : B' ≤ B) : Turned B' w w' mb v v' :=
  ⟨h.os, h.tape, h.output, h.size, fun k hk => h.block k (by omega), fun k hk => (h.own k hk).imp id (by omega)⟩
theorem Turned.of_below (h : Below B w w') (mb : Nat) (v : Value) : Turned B w w' mb v v :=
  ⟨h.os, h.tape, h.output, h.size, fun k hk _ _ => h.block k hk, fun _ h => .inl h⟩
theorem Turned.below {B0 : Nat} (h : Turned B w w' mb v v') (hB : B0 ≤ B) (hm : B0 ≤ mb) (hv : ∀ k, v.ownBlock = some k → B0 ≤ k) : Below B0 w w' :=
  ⟨h.os, h.tape, h.output, h.size, fun k hk => h.block k (by omega) (by omega) (fun e => by have := hv k e; omega)⟩
theorem Turned.drewN (B : Nat) (w : World) (n mb : Nat) (v : Value) : Turned B w (w.drewN n) mb v v := ⟨rfl, rfl, rfl, Nat.le_refl _, fun _ _ _ _ => rfl, fun _ h => .inl h⟩
theorem Turned.alloc (B : Nat) (w : World) (o : Obj) (hB : B ≤ w.heap.size) (mb : Nat) (v : Value) : Turned B w (w.alloc o) mb v v :=
  .of_below ((Below.refl B w).alloc hB o) mb v

theorem MeshAt.lt (h : MeshAt w mb v room xs) : mb < w.heap.size := lt_of_block h.box
theorem MeshAt.own_lt (h : MeshAt w mb v room xs) : ∀ k, v.ownBlock = some k → k < w.heap.size := fun k hk => (h.own.lt k hk).2
/-- Where the mesh's own blocks are as they were the mesh is. -/
theorem MeshAt.kept (h : MeshAt w mb v room xs) (h1 : w'.heap[mb]? = w.heap[mb]?) (h2 : ∀ k, v.ownBlock = some k → w'.heap[k]? = w.heap[k]?) : MeshAt w' mb v room xs := by
  refine ⟨h1.trans h.box, ⟨h.own.1, ?_⟩, h.ne, h.lo, h.hi, h.fits⟩
  rcases h.own.2 with hn | ⟨g, cap, cur, rfl, hb, hg, rest⟩
  · exact .inl hn
  · exact .inr ⟨g, cap, cur, rfl, hb, (h2 g rfl).trans hg, rest⟩
theorem MeshAt.drewN (h : MeshAt w mb v room xs) (n : Nat) : MeshAt (w.drewN n) mb v room xs := h.kept rfl (fun _ _ => rfl)
theorem MeshAt.alloc (h : MeshAt w mb v room xs) (o : Obj) : MeshAt (w.alloc o) mb v room xs :=
  h.kept (Below.heap_alloc w o mb h.lt) (fun k hk => Below.heap_alloc w o k (h.own_lt k hk))
theorem MeshAt.below (h : MeshAt w mb v room xs) (hb : Below w.heap.size w w') : MeshAt w' mb v room xs :=
  h.kept (hb.block mb h.lt) (fun k hk => hb.block k (h.own_lt k hk))
theorem MeshAt.setCell (h : MeshAt w mb v room xs) {a : Addr} (u : Value) (hm : a.block ≠ mb) (hv : v.ownBlock ≠ some a.block) : MeshAt (w.setCell a u) mb v room xs :=
  h.kept (Below.heap_setCell _ _ _ _ (Ne.symm hm)) (fun k hk => Below.heap_setCell _ _ _ _ (fun e => hv (by rw [← e]; exact hk)))

theorem MeshAt.slice (h : MeshAt w mb v room xs) : ∃ a cap, v = .slice a xs.length cap := by
  rcases h.own.2 with ⟨rfl, h0⟩ | ⟨g, cap, cur, rfl, _⟩
  · exact ⟨none, 0, by rw [h0]⟩
  · exact ⟨_, _, rfl⟩
/-- A mesh with a frame has a row. -/
theorem MeshAt.row (h : MeshAt w mb v room xs) (hx : 0 < xs.length) : ∃ g cap cur, v = .slice (some ⟨g, 0, none⟩) xs.length cap ∧ w.heap[g]? = some (.cells cur 9 (0, 0)) ∧ cur.size = cap ∧ xs.length ≤ cap ∧ cap ≤ maxLen ∧
    cur.toList.take xs.length = xs.map Value.string ∧ g ≠ mb := by
  rcases h.own.2 with ⟨rfl, h0⟩ | ⟨g, cap, cur, rfl, _, hg, hn, hm, hs, ht⟩
  · omega
  · exact ⟨g, cap, cur, rfl, hg, by omega, hn, hm, by simpa using ht, fun e => h.ne (by rw [← e]; rfl)⟩

/-- The row of a mesh whose slice is written out. -/
theorem MeshAt.cells {g m cap : Nat} (h : MeshAt w mb (.slice (some ⟨g, 0, none⟩) m cap) room xs) : ∃ cur, w.heap[g]? = some (.cells cur 9 (0, 0)) ∧ cur.size = cap ∧ m = xs.length ∧ cap ≤ maxLen ∧
    cur.toList.take xs.length = xs.map Value.string ∧ g ≠ mb := by
  rcases h.own.2 with ⟨h0, _⟩ | ⟨g', cap', cur, hv, _, hg, hn, hm, hs, ht⟩
  · cases h0
  · simp only [Value.slice.injEq, Option.some.injEq, Addr.mk.injEq, and_true] at hv
    obtain ⟨rfl, rfl, rfl⟩ := hv
    exact ⟨cur, hg, by omega, rfl, hm, by simpa using ht, fun e => h.ne (by rw [← e]; rfl)⟩

theorem MeshAt.c0 (h : MeshAt w mb v room xs) : w.cell? ⟨mb, 0, none⟩ = some (.int .i64 room) := by
  simp [World.cell?, h.box]
theorem MeshAt.c1 (h : MeshAt w mb v room xs) : w.cell? ⟨mb, 1, none⟩ = some v := by
  simp [World.cell?, h.box]
theorem MeshAt.f (h : MeshAt w mb v room xs) (i : Nat) : w.frozen? ⟨mb, i, none⟩ = false := by
  simp [World.frozen?, h.box]

/-- The field is stored. -/
theorem box_set {x u : Value} (h : w.heap[mb]? = some (.cells #[x, v] 50 (0, 0))) : (w.setCell ⟨mb, 1, none⟩ u).heap[mb]? = some (.cells #[x, u] 50 (0, 0)) := by
  have hlt := lt_of_block h
  simp only [World.setCell, Array.getElem?_modify, if_pos rfl, h]
  rfl
end

/-- What a method's end says: its answer, and the mesh behind it. -/
def MeshPost (w : World) (mb : Nat) (v : Value) (room : Nat) (xs' : List ByteArray) (r : Value) (e : Ending) (w' : World) : Prop :=
  e = .returned r ∧ ∃ v', MeshAt w' mb v' room xs' ∧ Turned w.heap.size w w' mb v v'

set_option maxHeartbeats 400000 in
theorem send_no (mb : Nat) (v : Value) (room : Nat) (xs : List ByteArray) (s : ByteArray) (w : World) (h : MeshAt w mb v room xs) (hn : xs.length = room) :
    Calls Try.prog 18 #[.pointer (some ⟨mb, 0, none⟩), .string s] w (MeshPost w mb v room xs (.bool false)) := by
  obtain ⟨a, cap, rfl⟩ := h.slice
  have c0 := h.c0
  have c1 := h.c1
  have H := Lib.hid h
  have hhi := h.hi
  have hb : (((xs.length : Nat) : Int) == (room : Int)) = true := by simp [hn]
  have Hn := Lib.hid hn
  clear h hn
  go_enter Try.func18, Try.ntmps18
  go_wp2
  go_quiet (fail)
  go_wp2
  go_ret
  exact ⟨rfl, _, H.out.drewN _, Turned.drewN _ _ _ _ _⟩

set_option maxHeartbeats 400000 in
theorem send_yes (mb : Nat) (v : Value) (room : Nat) (xs : List ByteArray) (s : ByteArray) (w : World) (h : MeshAt w mb v room xs) (hn : xs.length < room) :
    Calls Try.prog 18 #[.pointer (some ⟨mb, 0, none⟩), .string s] w (MeshPost w mb v room (xs ++ [s]) (.bool true)) := by
  obtain ⟨a, cap, rfl⟩ := h.slice
  have c0 := h.c0
  have c1 := h.c1
  have f1 := h.f 1
  have H := Lib.hid h
  have hhi := h.hi
  have hlt := h.lt
  have hb : (((xs.length : Nat) : Int) == (room : Int)) = false := by simp; omega
  obtain ⟨i0, hi, hz0, hz1, hz2⟩ := info_parts info9
  clear h
  go_enter Try.func18, Try.ntmps18
  go_wp2
  go_quiet (fail)
  go_wp2_with (at_builtin; refine wpList_append_owns _ rfl (.tmp 19) (.tmp 21) 27 27 rfl 0 9 i0 (.string ⟨#[]⟩) 1 16 Try.underlying27 hi hz0 hz1 hz2 rfl _ _ _ rfl (H.out.own.alloc _) _ 1 [.string s] rfl ?c1 ?c3 ?c4 ?c5 ?_)
  case c1 => exact Src.ofSlice _ Try.underlying27 ⟨w.heap.size, 0, none⟩ 1 1 [.string s] rfl (by intro j u hu; rw [addr_add]; cases j <;> simp_all [World.cell?, World.alloc]) (by simp [Value.oneCell'])
  case c3 => unfold maxLen; omega
  case c4 => omega
  case c5 => omega
  intro v' w' hown hgr hnew
  have hk : w'.heap[mb]? = w.heap[mb]? := by
    rw [hgr.block mb (by simp [World.drewN]; omega) (Ne.symm H.out.ne)]
    exact Below.heap_alloc _ _ _ hlt
  have c1' : w'.cell? ⟨mb, 1, none⟩ = some (.slice a xs.length cap) := by rw [World.cell?_of_block (w := w) hk]; exact c1
  have f1' : w'.frozen? ⟨mb, 1, none⟩ = false := by rw [World.frozen?_of_block (w := w) hk]; exact f1
  have HO := Lib.hid hown
  have HG := Lib.hid hgr
  have HK := Lib.hid hk
  have HN := Lib.hid hnew
  obtain ⟨a', cap', rfl⟩ : ∃ a' cap', v' = .slice a' (xs.length + 1) cap' := by
    rcases hown.2 with ⟨rfl, h0⟩ | ⟨g, cap, cur, rfl, _⟩
    · omega
    · exact ⟨_, _, rfl⟩
  clear hown hgr hk hnew
  go_wp2_with fail
  go_ret
  have hnew : ∀ k, (Value.slice a' (xs.length + 1) cap').ownBlock = some k → (Value.slice a xs.length cap).ownBlock = some k ∨ w.heap.size ≤ k := by
    intro k hk
    rcases HN.out with e | e
    · exact .inl (e ▸ hk)
    · rw [hk] at e
      simp [World.drewN] at e
      exact .inr (by omega)
  have hne : (Value.slice a' (xs.length + 1) cap').ownBlock ≠ some mb := by
    intro hk
    rcases hnew mb hk with e | e
    · exact H.out.ne e
    · omega
  refine ⟨rfl, _, ⟨box_set (HK.out.trans H.out.box), ?_, hne, H.out.lo, H.out.hi, by simp; omega⟩, ?_, ?_, ?_, ?_, ?_, hnew⟩
  · simpa using ownsRow_setCell_other HO.out (a := ⟨mb, 1, none⟩) hne _
  · exact HG.out.os
  · exact HG.out.tape
  · exact HG.out.output
  · have := HG.out.size
    simp [World.drewN] at this ⊢
    omega
  · intro k hk hm hv
    rw [Below.heap_setCell _ _ _ _ hm, HG.out.block k (by simp [World.drewN]; omega) (Ne.symm hv)]
    exact Below.heap_alloc _ _ _ hk

theorem cells_one {xs : List ByteArray} : ∀ u ∈ xs.map Value.string, u.oneCell' = true := by
  intro u hu
  obtain ⟨x, _, rfl⟩ := List.mem_map.1 hu
  rfl

set_option maxHeartbeats 400000 in
theorem out_row (mb : Nat) (v : Value) (room : Nat) (xs : List ByteArray) (n : Nat) (w : World) (h : MeshAt w mb v room xs) (hn : n < xs.length) :
    Calls Try.prog 30 #[.pointer (some ⟨mb, 0, none⟩), .int .i64 n] w fun e w' => e = .returned (.tuple #[]) ∧ ∃ g cap, xs.length ≤ cap ∧ MeshAt w' mb (.slice (some ⟨g, 0, none⟩) (xs.length - 1) cap) room (xs.eraseIdx n) ∧
      Turned w.heap.size w w' mb v (.slice (some ⟨g, 0, none⟩) (xs.length - 1) cap) := by
  obtain ⟨g, cap, cur, rfl, hg, hsz, hle, hmx, htk, hgm⟩ := h.row (by omega)
  have c1 := h.c1
  have f1 := h.f 1
  have hfit := h.fits
  have hhi := h.hi
  have hlt := h.lt
  have D := Lib.hid (delete_any g xs.length cap n cur w hg hsz hle hn hmx (by rw [htk]; exact cells_one))
  have H := Lib.hid h
  have HT := Lib.hid htk
  have HZ := Lib.hid hsz
  have HX := Lib.hid hmx
  have a1 : (n : Int) + 1 ≤ 65 := by omega
  clear h hg hsz htk hmx
  go_enter Try.func30, Try.ntmps30
  go_wp2_with fail
  refine D.out.mono ?_
  rintro e w' ⟨rfl, cur', hg', hs', ht', hb'⟩
  have hk : w'.heap[mb]? = w.heap[mb]? := hb'.block mb (Ne.symm hgm)
  have c1' : w'.cell? ⟨mb, 1, none⟩ = some (.slice (some ⟨g, 0, none⟩) xs.length cap) := by rw [World.cell?_of_block (w := w) hk]; exact c1
  have f1' : w'.frozen? ⟨mb, 1, none⟩ = false := by rw [World.frozen?_of_block (w := w) hk]; exact f1
  have HG := Lib.hid hg'
  have HS := Lib.hid hs'
  have HT' := Lib.hid ht'
  have HB := Lib.hid hb'
  have HK := Lib.hid hk
  clear hg' hs' ht' hb' hk
  go_wp2_with fail
  go_end0
  have hl : (xs.eraseIdx n).length = xs.length - 1 := List.length_eraseIdx_of_lt hn
  have hne : (Value.slice (some ⟨g, 0, none⟩) (xs.length - 1) cap).ownBlock ≠ some mb := by simpa [Value.ownBlock] using hgm
  have hcur : (List.take (xs.length - 1) cur'.toList) = (xs.eraseIdx n).map Value.string := by
    rw [HT'.out, HT.out, List.eraseIdx_eq_take_drop_succ, List.map_append, List.map_take, List.map_drop, ← HT.out, List.take_take]
    congr 2
    omega
  refine ⟨rfl, g, cap, hle, ⟨box_set (HK.out.trans H.out.box), ?_, hne, H.out.lo, H.out.hi, by omega⟩, HB.out.os, HB.out.tape, HB.out.output, ?_, ?_, ?_⟩
  · rw [hl]
    refine ownsRow_setCell_other (a := ⟨mb, 1, none⟩) ?_ hne _
    refine ⟨by simp [hl], .inr ⟨g, cap, cur', rfl, Nat.zero_le _, HG.out, by omega, HX.out, by rw [HS.out, HZ.out, Nat.mul_one], ?_⟩⟩
    rw [Nat.mul_one]
    exact hcur
  · simp [HB.out.size]
  · intro k hk hm hv
    rw [Below.heap_setCell _ _ _ _ hm]
    exact HB.out.block k (fun e => hv (by rw [e]; rfl))
  · intro k hk
    exact .inl hk
theorem out_any (mb : Nat) (v : Value) (room : Nat) (xs : List ByteArray) (n : Nat) (w : World) (h : MeshAt w mb v room xs) (hn : n < xs.length) :
    Calls Try.prog 30 #[.pointer (some ⟨mb, 0, none⟩), .int .i64 n] w (MeshPost w mb v room (xs.eraseIdx n) (.tuple #[])) :=
  (out_row mb v room xs n w h hn).mono fun e w' ⟨he, g, cap, _, hm, ht⟩ => ⟨he, _, hm, ht⟩

def BoolPost (R : Bool → World → Prop) (e : Ending) (w' : World) : Prop := ∃ b, e = .returned (.bool b) ∧ R b w'

set_option maxHeartbeats 400000 in
theorem at_yes (mb : Nat) (v : Value) (room : Nat) (xs : List ByteArray) (n : Nat) (w : World) (h : MeshAt w mb v room xs) (hn : n < xs.length) (gf : FuncId) (first caps args : Array Value) (R : Bool → World → Prop)
    (hargs : first.push (.string xs[n]) ++ caps = args)
    (hcall : ∀ w, (callFunc gf args).run Try.prog w = .ok (.enter gf args) w) (hf : Calls Try.prog gf args w (BoolPost R)) :
    Calls Try.prog 27 #[.pointer (some ⟨mb, 0, none⟩), .int .i64 n, .func (.func gf) first caps] w (BoolPost R) := by
  obtain ⟨g, cap, cur, rfl, hg, hsz, hle, hmx, htk, hgm⟩ := h.row (by omega)
  have c1 := h.c1
  have hfit := h.fits
  have hhi := h.hi
  have hlt := h.lt
  have a1 : (n : Int) < (xs.length : Int) := by omega
  have hglt := lt_of_block hg
  have cn : w.cell? ⟨g, n, none⟩ = some (.string xs[n]) := by
    have e := congrArg (fun l => l[n]?) htk
    simp only [List.getElem?_take, hn, if_true, List.getElem?_map, List.getElem?_eq_getElem hn, Option.map_some] at e
    simpa [World.cell?, hg] using e
  have D := Lib.hid hf
  clear h hg hsz htk hmx hf
  go_enter Try.func27, Try.ntmps27
  go_wp2_with (simp only [hargs, hcall])
  refine D.out.mono ?_
  rintro e w' ⟨b, rfl, hr⟩
  go_wp2_with fail
  go_ret
  exact ⟨b, rfl, hr⟩

set_option maxHeartbeats 400000 in
theorem at_no (mb : Nat) (v : Value) (room : Nat) (xs : List ByteArray) (n : Int) (w : World) (h : MeshAt w mb v room xs) (hn : n < 0 ∨ (xs.length : Int) ≤ n) (f : Value) :
    Calls Try.prog 27 #[.pointer (some ⟨mb, 0, none⟩), .int .i64 n, f] w fun e w' => e = .returned (.bool false) ∧ w = w' := by
  obtain ⟨a, cap, rfl⟩ := h.slice
  have c1 := h.c1
  have hfit := h.fits
  have hhi := h.hi
  clear h
  by_cases h0 : n < 0
  · clear hn
    go_enter Try.func27, Try.ntmps27
    go_wp2
    go_ret
    exact ⟨rfl, rfl⟩
  · have h1 : (xs.length : Int) ≤ n := by omega
    clear hn
    go_enter Try.func27, Try.ntmps27
    go_wp2
    go_ret
    exact ⟨rfl, rfl⟩
def TakenPost (B : Nat) (w : World) (mb : Nat) (v : Value) (room : Nat) (xs' : List ByteArray) (bo : Nat) (s : ByteArray) (e : Ending) (w' : World) : Prop :=
  e = .returned (.bool true) ∧ ∃ v', MeshAt w' mb v' room xs' ∧ Turned B w w' mb v v' ∧ w'.heap[bo]? = some (.cells #[.string s] 9 (0, 0))

set_option maxHeartbeats 400000 in
theorem take1_any (B mb : Nat) (v : Value) (room : Nat) (xs : List ByteArray) (n : Nat) (s t : ByteArray) (bo bm bn : Nat) (w : World) (h : MeshAt w mb v room xs) (hn : n < xs.length)
    (ho : w.heap[bo]? = some (.cells #[.string t] 9 (0, 0))) (hm : w.heap[bm]? = some (.cells #[.pointer (some ⟨mb, 0, none⟩)] 24 (0, 0))) (hi : w.heap[bn]? = some (.cells #[.int .i64 n] 3 (0, 0)))
    (hom : bo ≠ mb) (hov : v.ownBlock ≠ some bo) (hB : B ≤ bo) (hnm : bo ≠ bm) (hnn : bo ≠ bn) :
    Calls Try.prog 32 #[.string s, .pointer (some ⟨bo, 0, none⟩), .pointer (some ⟨bm, 0, none⟩), .pointer (some ⟨bn, 0, none⟩)] w (TakenPost B w mb v room (xs.eraseIdx n) bo s) := by
  have co := cell_of_one ho
  have fo := free_of_one ho
  have hlt := lt_of_block ho
  have h1 := h.setCell (a := ⟨bo, 0, none⟩) (.string s) hom hov
  have hm1 : (w.setCell ⟨bo, 0, none⟩ (.string s)).cell? ⟨bm, 0, none⟩ = some (.pointer (some ⟨mb, 0, none⟩)) := by
    rw [World.cell?_setCell_other _ _ _ _ (by simp [hnm])]; exact cell_of_one hm
  have hi1 : (w.setCell ⟨bo, 0, none⟩ (.string s)).cell? ⟨bn, 0, none⟩ = some (.int .i64 n) := by
    rw [World.cell?_setCell_other _ _ _ _ (by simp [hnn])]; exact cell_of_one hi
  have D := Lib.hid (out_any mb v room xs n _ h1 hn)
  have HO := Lib.hid (one_setCell (u := .string s) ho)
  have HM := Lib.hid h
  have Hom := Lib.hid hom
  have Hov := Lib.hid hov
  clear h h1 ho hm hi hom hov
  go_enter Try.func32, Try.ntmps32
  go_wp2_with fail
  refine D.out.mono ?_
  rintro e w' ⟨rfl, v', hv', ht'⟩
  go_wp2_with fail
  go_ret
  refine ⟨rfl, v', hv', ?_, ?_⟩
  · refine Turned.trans (.of_below ((Below.refl B w).setCell (p := ⟨bo, 0, none⟩) hB _) mb v) (ht'.mono (by simp; omega))
  · rw [ht'.block bo (by simpa using hlt) Hom.out Hov.out]
    exact HO.out


set_option maxHeartbeats 400000 in
theorem take_no (mb : Nat) (v : Value) (room : Nat) (xs : List ByteArray) (n : Int) (w : World) (h : MeshAt w mb v room xs) (hn : n < 0 ∨ (xs.length : Int) ≤ n) :
    Calls Try.prog 20 #[.pointer (some ⟨mb, 0, none⟩), .int .i64 n] w (MeshPost w mb v room xs (.tuple #[.string ⟨#[]⟩, .bool false])) := by
  have H := Lib.hid h
  have Hn := Lib.hid hn
  have hlt := h.lt
  clear h hn
  go_enter Try.func20, Try.ntmps20
  go_wp2_with fail
  refine (at_no mb v room xs n _ (((H.out.alloc _).alloc _).alloc _) Hn.out _).mono ?_
  rintro e w' ⟨rfl, rfl⟩
  go_wp2_with fail
  go_ret2
  exact ⟨rfl, v, ((H.out.alloc _).alloc _).alloc _, .of_below ((((Below.refl _ _).alloc (Nat.le_refl _) _).alloc (by simp) _).alloc (by simp; omega) _) mb v⟩

set_option maxHeartbeats 400000 in
theorem take_yes (mb : Nat) (v : Value) (room : Nat) (xs : List ByteArray) (n : Nat) (w : World) (h : MeshAt w mb v room xs) (hn : n < xs.length) :
    Calls Try.prog 20 #[.pointer (some ⟨mb, 0, none⟩), .int .i64 n] w (MeshPost w mb v room (xs.eraseIdx n) (.tuple #[.string xs[n], .bool true])) := by
  have H := Lib.hid h
  have hlt := h.lt
  obtain ⟨W, hW⟩ : ∃ W, W = ((w.alloc (.cells #[.pointer (some ⟨mb, 0, none⟩)] 24)).alloc (.cells #[.int .i64 n] 3)).alloc (.cells #[.string ⟨#[]⟩] 9) := ⟨_, rfl⟩
  have hbW : Below w.heap.size w W := by rw [hW]; exact (((Below.refl _ _).alloc (Nat.le_refl _) _).alloc (by simp) _).alloc (by simp; omega) _
  have b0 : W.heap[w.heap.size]? = some (.cells #[.pointer (some ⟨mb, 0, none⟩)] 24 (0, 0)) := by
    rw [hW, Below.heap_alloc _ _ _ (by simp; omega), Below.heap_alloc _ _ _ (by simp), heap_alloc_new]
  have b1 : W.heap[w.heap.size + 1]? = some (.cells #[.int .i64 n] 3 (0, 0)) := by
    rw [hW, Below.heap_alloc _ _ _ (by simp), show w.heap.size + 1 = (w.alloc (.cells #[.pointer (some ⟨mb, 0, none⟩)] 24)).heap.size by simp, heap_alloc_new]
  have b2 : W.heap[w.heap.size + 1 + 1]? = some (.cells #[.string ⟨#[]⟩] 9 (0, 0)) := by
    rw [hW, show w.heap.size + 1 + 1 = ((w.alloc (.cells #[.pointer (some ⟨mb, 0, none⟩)] 24)).alloc (.cells #[.int .i64 n] 3)).heap.size by simp, heap_alloc_new]
  have hWm : MeshAt W mb v room xs := h.below hbW
  have hv2 : v.ownBlock ≠ some (w.heap.size + 1 + 1) := fun e => by have := h.own_lt _ e; omega
  have D := take1_any w.heap.size mb v room xs n xs[n] ⟨#[]⟩ (w.heap.size + 1 + 1) w.heap.size (w.heap.size + 1) W hWm hn b2 b0 b1 (by omega) hv2 (by omega) (by omega) (by omega)
  have E := at_yes mb v room xs n W hWm hn 32 #[] #[.pointer (some ⟨w.heap.size + 1 + 1, 0, none⟩), .pointer (some ⟨w.heap.size, 0, none⟩), .pointer (some ⟨w.heap.size + 1, 0, none⟩)] _
    (fun b w' => b = true ∧ ∃ v', MeshAt w' mb v' room (xs.eraseIdx n) ∧ Turned w.heap.size W w' mb v v' ∧ w'.heap[w.heap.size + 1 + 1]? = some (.cells #[.string xs[n]] 9 (0, 0))) rfl (enters_fn Try.func32 (by kernel_rfl) rfl _)
    (D.mono fun e w' ⟨he, hx⟩ => ⟨true, he, rfl, hx⟩)
  have D' := Lib.hid E
  have HW := Lib.hid hW
  have HB := Lib.hid hbW
  clear h D E hW hbW b0 b1 b2 hWm hv2
  go_enter Try.func20, Try.ntmps20
  go_wp2_with fail
  rw [← HW.out]
  refine D'.out.mono ?_
  rintro e w' ⟨b, rfl, rfl, v', hm', ht', ho'⟩
  have co := cell_of_one ho'
  clear ho'
  go_wp2_with fail
  go_ret2
  exact ⟨rfl, v', hm', (Turned.of_below HB.out mb v).trans ht'⟩
end Go.Proofs.Ytgfklfpjibjhmaa

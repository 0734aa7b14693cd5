/-
  The cache in memory: what it is; how high a key is counted; a key is counted; all counts are halved.
-/
import Derived.Test.YtoeekjooigijbaaMaps
import Derived.Deep.DeepCutAuto
namespace Go.Proofs.Ytoeekjooigijbaa
open Go.RowKit
open Go.Maps (Keyed)
set_option linter.unusedVariables false
set_option linter.unusedSimpArgs false

abbrev Th := ByteArray × ByteArray
def flat (l : List Th) : List Value := l.flatMap fun p => [.string p.1, .string p.2]
theorem flat_nil : flat [] = [] := rfl
theorem flat_cons (p : Th) (l : List Th) : flat (p :: l) = [.string p.1, .string p.2] ++ flat l := rfl
theorem flat_len : ∀ l : List Th, (flat l).length = l.length * 2
  | [] => rfl
  | p :: l => by rw [flat_cons, List.length_append, flat_len l, List.length_cons]; simp; omega
theorem flat_take : ∀ (l : List Th) (i : Nat), (flat l).take (i * 2) = flat (l.take i)
  | [], i => by simp [flat_nil]
  | p :: l, 0 => by simp [flat_nil]
  | p :: l, i + 1 => by rw [List.take_succ_cons, flat_cons, flat_cons, ← flat_take l i, Nat.succ_mul]; rfl
theorem flat_drop : ∀ (l : List Th) (i : Nat), (flat l).drop (i * 2) = flat (l.drop i)
  | [], i => by simp [flat_nil]
  | p :: l, 0 => by simp
  | p :: l, i + 1 => by rw [List.drop_succ_cons, flat_cons, ← flat_drop l i, Nat.succ_mul]; rfl
theorem flat_append (l m : List Th) : flat (l ++ m) = flat l ++ flat m := by unfold flat; rw [List.flatMap_append]
theorem flat_one (l : List Th) : ∀ u ∈ flat l, u.oneCell' = true := by
  intro u hu
  obtain ⟨p, _, hp⟩ := List.mem_flatMap.1 hu
  simp only [List.mem_cons, List.not_mem_nil, or_false] at hp
  rcases hp with rfl | rfl <;> rfl
theorem flat_get {l : List Th} {i : Nat} {p : Th} (h : l[i]? = some p) : (flat l)[i * 2]? = some (.string p.1) ∧ (flat l)[i * 2 + 1]? = some (.string p.2) := by
  have hi : i < l.length := (List.getElem?_eq_some_iff.1 h).1
  have e := flat_drop l i
  rw [List.drop_eq_getElem_cons hi, flat_cons] at e
  have hp : l[i] = p := (List.getElem?_eq_some_iff.1 h).2
  rw [hp] at e
  have e0 := congrArg (fun m => m[0]?) e
  have e1 := congrArg (fun m => m[1]?) e
  simp only [List.getElem?_drop, Nat.add_zero] at e0 e1
  exact ⟨e0, e1⟩

/-- What a cache holds, as data. -/
structure St where
  size : Nat
  all : List Th
  cs : Cs
  asked : Nat

/-- The cache at block cb: v is the slice in its field, b its map's block. -/
structure CacheAt (w : World) (cb b : Nat) (v : Value) (s : St) : Prop where
  box : w.heap[cb]? = some (.cells #[.int .i64 s.size, v, .map (some b), .int .i64 s.asked] 57 (0, 0))
  own : w.ownsRow 0 60 2 v s.all.length (flat s.all)
  cnt : CountsAt w b s.cs
  hi : s.size ≤ 64
  fits : s.all.length ≤ s.size
  few : s.cs.length ≤ 1280
  low : s.asked ≤ 640

/-- Below B nothing has turned but the cache's own blocks. -/
structure Turned (B : Nat) (w w' : World) (cb b : Nat) (v v' : Value) : Prop where
  os : w'.os = w.os
  tape : w'.tape = w.tape
  output : w'.output = w.output
  size : w.heap.size ≤ w'.heap.size
  block : ∀ k, k < B → k ≠ cb → k ≠ b → v.ownBlock ≠ some k → w'.heap[k]? = w.heap[k]?
  own : ∀ k, v'.ownBlock = some k → v.ownBlock = some k ∨ B ≤ k

section
variable {w w' w1 : World} {cb b B : Nat} {v v' v1 : Value} {s : St}

theorem Turned.refl (B : Nat) (w : World) (cb b : Nat) (v : Value) : Turned B w w cb b v v := ⟨rfl, rfl, rfl, Nat.le_refl _, fun _ _ _ _ _ => rfl, fun _ h => .inl h⟩
theorem Turned.trans (h : Turned B w w1 cb b v v1) (h' : Turned B w1 w' cb b v1 v') : Turned B w w' cb b v v' := by
  refine ⟨h'.os.trans h.os, h'.tape.trans h.tape, h'.output.trans h.output, Nat.le_trans h.size h'.size, fun k hk hm hb hv => ?_, fun k hk => ?_⟩
  · rw [h'.block k hk hm hb (fun e => ?_), h.block k hk hm hb hv]
    rcases h.own k e with e' | e'
    · exact hv e'
    · omega
  · rcases h'.own k hk with e | e
    · exact h.own k e
    · exact .inr e
theorem Turned.mono {B' : Nat} (h : Turned B w w' cb b v v') (hB : B' ≤ B) : Turned B' w w' cb b v v' :=
  ⟨h.os, h.tape, h.output, h.size, fun k hk => h.block k (by omega), fun k hk => (h.own k hk).imp id (by omega)⟩
theorem Turned.of_below (h : Below B w w') (cb b : Nat) (v : Value) : Turned B w w' cb b v v :=
  ⟨h.os, h.tape, h.output, h.size, fun k hk _ _ _ => h.block k hk, fun _ h => .inl h⟩
theorem Turned.below {B0 : Nat} (h : Turned B w w' cb b v v') (hB : B0 ≤ B) (hm : B0 ≤ cb) (hb : B0 ≤ b) (hv : ∀ k, v.ownBlock = some k → B0 ≤ k) : Below B0 w w' :=
  ⟨h.os, h.tape, h.output, h.size, fun k hk => h.block k (by omega) (by omega) (by omega) (fun e => by have := hv k e; omega)⟩
theorem Turned.drewN (B : Nat) (w : World) (n cb b : Nat) (v : Value) : Turned B w (w.drewN n) cb b v v := ⟨rfl, rfl, rfl, Nat.le_refl _, fun _ _ _ _ _ => rfl, fun _ h => .inl h⟩
theorem Turned.alloc (B : Nat) (w : World) (o : Obj) (hB : B ≤ w.heap.size) (cb b : Nat) (v : Value) : Turned B w (w.alloc o) cb b v v :=
  .of_below ((Below.refl B w).alloc hB o) cb b v
/-- The cache's own cells are written. -/
theorem Turned.setCell (B : Nat) (w : World) (cb i b : Nat) (v : Value) (u : Value) : Turned B w (w.setCell ⟨cb, i, none⟩ u) cb b v v :=
  ⟨rfl, rfl, rfl, by simp, fun k _ hk _ _ => Below.heap_setCell _ _ _ _ hk, fun _ h => .inl h⟩
theorem Turned.mapTurned (h : w.mapTurned w' b) (B cb : Nat) (v : Value) : Turned B w w' cb b v v := by
  have g := h.grown
  exact ⟨g.os, g.tape, g.output, g.size, fun k hk _ hb _ => by
    by_cases hl : k < w.heap.size
    · exact g.block k hl (fun e => hb (by simpa using e))
    · obtain ⟨es, clock, es', clock', hm, rfl⟩ := h
      have h1 : w.heap[k]? = none := Array.getElem?_eq_none (by omega)
      rw [h1]
      refine Array.getElem?_eq_none ?_
      simp [ChangeMaps.setBlock]; omega, fun _ h => .inl h⟩

theorem CountsAt.block {cs : Cs} (h : CountsAt w b cs) (h1 : w'.heap[b]? = w.heap[b]?) : CountsAt w' b cs := by
  obtain ⟨hg, D, ⟨es, clock, hb, rest⟩, hr⟩ := h
  exact ⟨hg, D, ⟨es, clock, h1.trans hb, rest⟩, hr⟩
theorem CountsAt.lt {cs : Cs} (h : CountsAt w b cs) : b < w.heap.size := by
  obtain ⟨_, D, ⟨es, clock, hb, _⟩, _⟩ := h
  exact (Array.getElem?_eq_some_iff.1 hb).1
theorem CountsAt.isMap {cs : Cs} (h : CountsAt w b cs) : ∃ es clock, w.heap[b]? = some (.map es clock) := by
  obtain ⟨_, D, ⟨es, clock, hb, _⟩, _⟩ := h
  exact ⟨es, clock, hb⟩

theorem CacheAt.lt (h : CacheAt w cb b v s) : cb < w.heap.size := lt_of_block h.box
theorem CacheAt.own_lt (h : CacheAt w cb b v s) : ∀ k, v.ownBlock = some k → k < w.heap.size := fun k hk => (h.own.lt k hk).2
theorem CacheAt.ne_b (h : CacheAt w cb b v s) : cb ≠ b := fun e => by
  obtain ⟨es, clock, hb⟩ := h.cnt.isMap
  have := h.box
  rw [e, hb] at this
  cases this
theorem CacheAt.row_block (h : CacheAt w cb b v s) : ∀ k, v.ownBlock = some k → ∃ cap cur, v = .slice (some ⟨k, 0, none⟩) s.all.length cap ∧ w.heap[k]? = some (.cells cur 60 (0, 0)) ∧ s.all.length ≤ cap ∧ cap ≤ maxLen ∧ cur.size = cap * 2 ∧ cur.toList.take (s.all.length * 2) = flat s.all := by
  intro k hk
  rcases h.own.2 with ⟨rfl, _⟩ | ⟨g, cap, cur, rfl, _, hg, hn, hm, hs, ht⟩
  · simp [Value.ownBlock] at hk
  · simp only [Value.ownBlock, Option.some.injEq] at hk
    subst hk
    exact ⟨cap, cur, rfl, hg, hn, hm, hs, ht⟩
theorem CacheAt.ne_own (h : CacheAt w cb b v s) : v.ownBlock ≠ some cb := fun e => by
  obtain ⟨cap, cur, _, hg, _⟩ := h.row_block cb e
  have := h.box
  rw [hg] at this
  simp at this
theorem CacheAt.ne_map (h : CacheAt w cb b v s) : v.ownBlock ≠ some b := fun e => by
  obtain ⟨cap, cur, _, hg, _⟩ := h.row_block b e
  obtain ⟨es, clock, hb⟩ := h.cnt.isMap
  rw [hb] at hg
  cases hg
theorem CacheAt.kept (h : CacheAt w cb b v s) (h1 : w'.heap[cb]? = w.heap[cb]?) (h2 : ∀ k, v.ownBlock = some k → w'.heap[k]? = w.heap[k]?) (h3 : w'.heap[b]? = w.heap[b]?) : CacheAt w' cb b v s := by
  refine ⟨h1.trans h.box, ⟨h.own.1, ?_⟩, h.cnt.block h3, h.hi, h.fits, h.few, h.low⟩
  rcases h.own.2 with hn | ⟨g, cap, cur, rfl, hb, hg, rest⟩
  · exact .inl hn
  · exact .inr ⟨g, cap, cur, rfl, hb, (h2 g rfl).trans hg, rest⟩
theorem CacheAt.drewN (h : CacheAt w cb b v s) (n : Nat) : CacheAt (w.drewN n) cb b v s := h.kept rfl (fun _ _ => rfl) rfl
theorem CacheAt.below (h : CacheAt w cb b v s) (hb : Below w.heap.size w w') : CacheAt w' cb b v s :=
  h.kept (hb.block cb h.lt) (fun k hk => hb.block k (h.own_lt k hk)) (hb.block b h.cnt.lt)
theorem CacheAt.alloc (h : CacheAt w cb b v s) (o : Obj) : CacheAt (w.alloc o) cb b v s := h.below ((Below.refl _ w).alloc (Nat.le_refl _) o)
theorem CacheAt.setCell (h : CacheAt w cb b v s) {a : Addr} (u : Value) (hm : a.block ≠ cb) (hb : a.block ≠ b) (hv : v.ownBlock ≠ some a.block) : CacheAt (w.setCell a u) cb b v s :=
  h.kept (Below.heap_setCell _ _ _ _ (Ne.symm hm)) (fun k hk => Below.heap_setCell _ _ _ _ (fun e => hv (by rw [← e]; exact hk))) (Below.heap_setCell _ _ _ _ (Ne.symm hb))
theorem CacheAt.slice (h : CacheAt w cb b v s) : ∃ a cap, v = .slice a s.all.length cap := by
  rcases h.own.2 with ⟨rfl, h0⟩ | ⟨g, cap, cur, rfl, _⟩
  · exact ⟨none, 0, by rw [h0]⟩
  · exact ⟨_, _, rfl⟩
theorem CacheAt.c0 (h : CacheAt w cb b v s) : w.cell? ⟨cb, 0, none⟩ = some (.int .i64 s.size) := by simp [World.cell?, h.box]
theorem CacheAt.c1 (h : CacheAt w cb b v s) : w.cell? ⟨cb, 1, none⟩ = some v := by simp [World.cell?, h.box]
theorem CacheAt.c2 (h : CacheAt w cb b v s) : w.cell? ⟨cb, 2, none⟩ = some (.map (some b)) := by simp [World.cell?, h.box]
theorem CacheAt.c3 (h : CacheAt w cb b v s) : w.cell? ⟨cb, 3, none⟩ = some (.int .i64 s.asked) := by simp [World.cell?, h.box]
theorem CacheAt.f (h : CacheAt w cb b v s) (i : Nat) : w.frozen? ⟨cb, i, none⟩ = false := by simp [World.frozen?, h.box]
theorem CacheAt.thing (h : CacheAt w cb b v s) {i : Nat} {p : Th} (hp : s.all[i]? = some p) : ∃ g cap, v = .slice (some ⟨g, 0, none⟩) s.all.length cap ∧ w.cell? ⟨g, i * 2, none⟩ = some (.string p.1) ∧ w.cell? ⟨g, i * 2 + 1, none⟩ = some (.string p.2) := by
  have hi : i < s.all.length := (List.getElem?_eq_some_iff.1 hp).1
  rcases h.own.2 with ⟨rfl, h0⟩ | ⟨g, cap, cur, rfl, _, hg, hn, hm, hs, ht⟩
  · omega
  · obtain ⟨e1, e2⟩ := flat_get hp
    rw [← ht, List.getElem?_take, if_pos (by omega)] at e1 e2
    exact ⟨g, cap, rfl, by simpa [World.cell?, hg] using e1, by simpa [World.cell?, hg] using e2⟩

theorem box_set1 {x u m n : Value} (h : w.heap[cb]? = some (.cells #[x, v, m, n] 57 (0, 0))) : (w.setCell ⟨cb, 1, none⟩ u).heap[cb]? = some (.cells #[x, u, m, n] 57 (0, 0)) := by
  have hlt := lt_of_block h
  simp only [World.setCell, Array.getElem?_modify, if_pos rfl, h]
  rfl
theorem box_set3 {x u m n : Value} (h : w.heap[cb]? = some (.cells #[x, v, m, n] 57 (0, 0))) : (w.setCell ⟨cb, 3, none⟩ u).heap[cb]? = some (.cells #[x, v, m, u] 57 (0, 0)) := by
  have hlt := lt_of_block h
  simp only [World.setCell, Array.getElem?_modify, if_pos rfl, h]
  rfl

theorem row_kept {n base : Nat} {xs : List Value} (h : w.ownsRow base 60 2 v n xs) (h2 : ∀ k, v.ownBlock = some k → w'.heap[k]? = w.heap[k]?) : w'.ownsRow base 60 2 v n xs := by
  refine ⟨h.1, ?_⟩
  rcases h.2 with hn | ⟨g, cap, cur, rfl, hb, hg, rest⟩
  · exact .inl hn
  · exact .inr ⟨g, cap, cur, rfl, hb, (h2 g rfl).trans hg, rest⟩

/-! ### the map -/
theorem CountsAt.look {cs : Cs} (h : CountsAt w b cs) {t : ByteArray} (ht : t.size ≤ maxLen) : (Instr.lookup 54 (.map (some b)) (.string t) false).run Try.prog w = .ok (.int .i64 (often cs t)) w := by
  obtain ⟨hg, D, hown, hr⟩ := h
  obtain ⟨c, hrun, hat, _⟩ := World.ownsMap.lookup_int (e := 3) hown law9 Try.underlying54 Try.underlying3 (zero3 w) (key9 ht)
  rw [hr.at_ t ht] at hat
  simp only [DataW.lit.injEq, Lit.int.injEq, true_and] at hat
  rw [hrun, hat]
theorem CountsAt.len {cs : Cs} (h : CountsAt w b cs) (ty : TypeId) : (Builtin.len_ #[54] ty #[.map (some b)]).run Try.prog w = .ok (.int .i64 cs.length) w := by
  obtain ⟨hg, D, hown, hr⟩ := h
  rw [hown.len Try.underlying54 ty, size_reads hown hr hg]

theorem reads_put {D : DataW Unit} {cs : Cs} (hm : Maps.IsMap D) (hg : Good cs) (hr : Reads D cs) {t : ByteArray} (ht : t.size ≤ maxLen) : Reads (D.put (kl t) (.lit (.int .i64 (min (often cs t + 1) 15 : Nat)))) (counted cs t) := by
  have hg' := good_counted hg ht
  refine ⟨fun x hx => ?_, fun x hx => ?_⟩
  · rw [often_pos hg', often_counted hg]
    by_cases e : x = t
    · subst e
      rw [Maps.has_put_same hm (law9.key (key9 ht)), if_pos rfl]
      exact (decide_eq_true (by omega)).symm
    · rw [Maps.has_put_other (fun e' => e (kl_inj e')), hr.has x hx, if_neg e, often_pos hg]
  · rw [often_counted hg]
    by_cases e : x = t
    · subst e
      rw [Maps.atKey_put_same hm (law9.key (key9 ht)), if_pos rfl]
    · rw [Maps.atKey_put_other (fun e' => e (kl_inj e')), hr.at_ x hx, if_neg e]

theorem CountsAt.put {cs : Cs} (h : CountsAt w b cs) (hl : cs.length < maxLen) {t : ByteArray} (ht : t.size ≤ maxLen) {c : Int} (hc : c = (min (often cs t + 1) 15 : Nat)) :
    ∃ w', (Instr.mapUpdate 54 (.map (some b)) (.string t) (.int .i64 c)).run Try.prog w = .ok () w' ∧ CountsAt w' b (counted cs t) ∧ w.mapTurned w' b := by
  subst hc
  obtain ⟨hg, D, hown, hr⟩ := h
  have hwf : (Lit.int .i64 ((min (often cs t + 1) 15 : Nat) : Int)).wf = true := WalkArith.wf_i64 (by omega)
  obtain ⟨w', hrun, h2, h3⟩ := World.ownsMap.store hown law9 Try.underlying54 hl (key9 ht) (plainElem_int Try.underlying3 hwf)
  exact ⟨w', hrun, .intro (good_counted hg ht) h2 (reads_put hown.isMap hg hr ht), h3⟩
end

section
variable {P : Program} {ops : Array Oper} {o : Oper} {a : Act} {w w' : World}
theorem exec_mapUpdate {m x y : Operand} {t : TypeId} (ho : o.op = .mapUpdate t m x y) {mv k u : Value}
    (hm : a.eval m = mv) (hx : a.eval x = k) (hy : a.eval y = u) (hr : (Instr.mapUpdate t mv k u).run P w = .ok () w') :
    (execOp a.eval o).run P w = .ok .skip w' := by
  unfold execOp
  simp [ho, hm, hx, hy, hr, Result.andThen]
theorem step_skip {K : Act → World → Prop} {Q : Exit → Act → World → Prop} {E : Prop} (hg : o.guard = none)
    (hrun : (execOp a.eval o).run P w = .ok .skip w') (hK : K (a.put o.dst undef) w') :
    if Region.wanted o (yielded ops a.tmps) = true then Oper.wp P o a w K Q else E := by
  rw [if_pos (by simp [Region.wanted, hg])]
  unfold Oper.wp
  rw [hrun]
  exact hK
theorem wpList_skip {rest : List Oper} {Q : Exit → Act → World → Prop} (hg : o.guard = none)
    (hrun : (execOp a.eval o).run P w = .ok .skip w') (h : wpList P ops Q rest (a.put o.dst undef) w') : wpList P ops Q (o :: rest) a w :=
  wpList_plain hg fun K hK => by
    unfold Oper.wp
    rw [hrun]
    exact hK _ _ h
end

/-- What a method's end says: its answer, and the cache behind it. -/
def CachePost (w : World) (cb b : Nat) (v : Value) (s' : St) (r : Value) (e : Ending) (w' : World) : Prop :=
  e = .returned r ∧ ∃ v', CacheAt w' cb b v' s' ∧ Turned w.heap.size w w' cb b v v'

theorem often_any (cb b : Nat) (v : Value) (s : St) (t : ByteArray) (w : World) (h : CacheAt w cb b v s) (ht : t.size ≤ maxLen) :
    Calls Try.prog 22 #[.pointer (some ⟨cb, 0, none⟩), .string t] w fun e w' => e = .returned (.int .i64 (often s.cs t)) ∧ w = w' := by
  have c2 := h.c2
  have hl := h.cnt.look ht
  clear h ht
  go_enter Try.func22, Try.ntmps22
  go_wp2
  go_ret
  exact ⟨rfl, rfl⟩

theorem counted_any (cb b : Nat) (v : Value) (s : St) (w : World) (h : CacheAt w cb b v s) :
    Calls Try.prog 24 #[.pointer (some ⟨cb, 0, none⟩)] w fun e w' => e = .returned (.int .i64 s.cs.length) ∧ w = w' := by
  have c2 := h.c2
  have hl := h.cnt.len
  clear h
  go_enter Try.func24, Try.ntmps24
  go_wp2_with (simp only [hl])
  go_ret
  exact ⟨rfl, rfl⟩

/-- A key is counted: what the walk of 'count' says. -/
theorem count_any (cb b : Nat) (v : Value) (s : St) (t : ByteArray) (w : World) (h : CacheAt w cb b v s) (ht : t.size ≤ maxLen) (ha : s.asked < 640) (hl : (counted s.cs t).length ≤ 1280) :
    Calls Try.prog 25 #[.pointer (some ⟨cb, 0, none⟩), .string t] w (CachePost w cb b v { s with cs := counted s.cs t, asked := s.asked + 1 } (.tuple #[])) := by
  have c2 := h.c2
  have c3 := h.c3
  have f3 := h.f 3
  have hlk := CountsAt.look (w := w.drew) (b := b) (cs := s.cs) (h.cnt.block rfl) ht
  have hle := often_le h.cnt.1 t
  have hfew := h.few
  have hcv : (if 15 < IntKind.i64.wrap ((often s.cs t : Int) + 1) then (15 : Int) else IntKind.i64.wrap ((often s.cs t : Int) + 1)) = ((min (often s.cs t + 1) 15 : Nat) : Int) := by
    have hw : IntKind.i64.wrap ((often s.cs t : Int) + 1) = (often s.cs t : Int) + 1 := by rw [IntKind.wrap_i64]; omega
    rw [hw]
    split <;> omega
  obtain ⟨w1, hrun, hc1, hturn⟩ := CountsAt.put (w := w.drew) (b := b) (cs := s.cs) (t := t) (h.cnt.block rfl) (by unfold maxLen; omega) ht hcv
  generalize often s.cs t = c at *
  have HT := Lib.hid hturn
  have HC := Lib.hid hc1
  have HH := Lib.hid h
  clear hturn hc1 h hfew hcv
  obtain ⟨k, hk⟩ : ∃ k, k = s.asked := ⟨_, rfl⟩
  rw [← hk] at c3 ha
  have HK := Lib.hid hk
  clear hk
  go_enter Try.func25, Try.ntmps25
  go_upto_region 0 with fail
  go_cut [] (fun wx => wx = w1)
  case first =>
    go_region
    all_goals ((go_wp2_with (fail)) <;> (go_meet; exact rfl))
  case rest =>
    have e := hcut.symm
    subst e
    clear hcut hrun hlk
    have hT1 : Turned w.heap.size w w1 cb b v v := (Turned.drewN _ w 1 cb b v).trans (Turned.mapTurned HT.out w.heap.size cb v)
    have h0 := HH.out
    have g := HT.out.grown
    have hcb : w1.heap[cb]? = w.heap[cb]? := g.block cb h0.lt (fun e => h0.ne_b (by simpa using e))
    have hown : ∀ k, v.ownBlock = some k → w1.heap[k]? = w.heap[k]? := fun k hk => g.block k (h0.own_lt k hk) (fun e => h0.ne_map (by rw [hk, e]))
    have c3' : w1.cell? ⟨cb, 3, none⟩ = some (.int .i64 k) := (World.cell?_of_block hcb).trans c3
    have f3' : w1.frozen? ⟨cb, 3, none⟩ = false := (World.frozen?_of_block hcb).trans f3
    have HT1 := Lib.hid hT1
    have HCB := Lib.hid hcb
    have HOW := Lib.hid hown
    clear hcb hown g h0 hT1 c2 c3 f3
    go_wp2_with fail
    go_end0
    refine ⟨rfl, v, ?_, HT1.out.trans (Turned.setCell _ _ _ _ _ _ _)⟩
    have h0 := HH.out
    have hbox := box_set3 (cb := cb) (u := .int .i64 ((k : Int) + 1)) (HCB.out.trans h0.box)
    exact ⟨by rw [HK.out] at hbox ⊢; exact hbox, row_kept h0.own (fun g hg => (Below.heap_setCell _ _ _ _ (fun e => h0.ne_own (by rw [hg]; exact congrArg some e))).trans (HOW.out g hg)),
      HC.out.block (Below.heap_setCell _ _ _ _ (Ne.symm h0.ne_b)), h0.hi, h0.fits, hl, by show s.asked + 1 ≤ 640; have := HK.out; omega⟩

/-! ### halve -/
/-- Those that are no longer to come are halved. -/
def Half (cs : Cs) (D : DataW Unit) (left : Lit → Bool) : Prop := ∀ t : ByteArray, t.size ≤ maxLen →
  Maps.has D (kl t) = (if left (kl t) then there cs t else decide (0 < often cs t / 2)) ∧ D.atKey (kl t) (.lit (.int .i64 0)) = .lit (.int .i64 (if left (kl t) then often cs t else often cs t / 2 : Nat))

theorem half_start {D : DataW Unit} {cs : Cs} (hr : Reads D cs) (hg : Good cs) : Half cs D (Maps.has D) := fun t ht => by
  have h1 := hr.has t ht
  have h2 := often_pos hg t
  refine ⟨?_, ?_⟩
  · cases hh : Maps.has D (kl t) with
    | true => rw [if_pos rfl, ← h1, hh]
    | false =>
      rw [hh] at h1
      rw [← h1] at h2
      have h3 := of_decide_eq_false h2.symm
      rw [if_neg (by simp)]
      exact (decide_eq_false (by omega)).symm
  · rw [hr.at_ t ht]
    cases hh : Maps.has D (kl t) with
    | true => rw [if_pos rfl]
    | false =>
      rw [hh] at h1
      rw [← h1] at h2
      have h3 := of_decide_eq_false h2.symm
      rw [if_neg (by simp), show often cs t = 0 by omega]
theorem left_key {x t : ByteArray} (left : Lit → Bool) (hx : x.size ≤ maxLen) : (left (kl t) && !(kl t).sameKey (kl x)) = (left (kl t) && !decide (t = x)) := by
  by_cases e : t = x
  · subst e
    rw [WideAt.sameKey_self (law9.key (key9 hx))]; simp
  · rw [Maps.sameKey_ne (fun e' => e (kl_inj e'))]; simp [e]
theorem half_del {D : DataW Unit} {cs : Cs} {left : Lit → Bool} {x : ByteArray} (h : Half cs D left) (hx : x.size ≤ maxLen) (h0 : often cs x / 2 = 0) : Half cs (D.del (kl x)) (fun z => left z && !z.sameKey (kl x)) := fun t ht => by
  simp only [left_key left hx]
  by_cases e : t = x
  · subst e
    simp only [decide_true, Bool.not_true, Bool.and_false, Bool.false_eq_true, if_false]
    rw [Maps.has_del_same, Maps.atKey_del_same, h0]
    exact ⟨(decide_eq_false (by omega)).symm, rfl⟩
  · simp only [e, decide_false, Bool.not_false, Bool.and_true]
    rw [Maps.has_del_other (fun e' => e (kl_inj e')), Maps.atKey_del_other (fun e' => e (kl_inj e'))]
    exact h t ht
theorem half_put {D : DataW Unit} {cs : Cs} {left : Lit → Bool} {x : ByteArray} (hm : Maps.IsMap D) (h : Half cs D left) (hx : x.size ≤ maxLen) (h0 : 0 < often cs x / 2) : Half cs (D.put (kl x) (.lit (.int .i64 (often cs x / 2 : Nat)))) (fun z => left z && !z.sameKey (kl x)) := fun t ht => by
  simp only [left_key left hx]
  by_cases e : t = x
  · subst e
    simp only [decide_true, Bool.not_true, Bool.and_false, Bool.false_eq_true, if_false]
    rw [Maps.has_put_same hm (law9.key (key9 hx)), Maps.atKey_put_same hm (law9.key (key9 hx))]
    exact ⟨(decide_eq_true h0).symm, rfl⟩
  · simp only [e, decide_false, Bool.not_false, Bool.and_true]
    rw [Maps.has_put_other (fun e' => e (kl_inj e')), Maps.atKey_put_other (fun e' => e (kl_inj e'))]
    exact h t ht
theorem half_end {D : DataW Unit} {cs : Cs} {left : Lit → Bool} (hg : Good cs) (h : Half cs D left) (hl : ∀ x, left x = false) : Reads D (halved cs) := by
  refine ⟨fun t ht => ?_, fun t ht => ?_⟩
  · rw [(h t ht).1, hl, if_neg (by simp), often_pos (good_halved hg), often_halved hg]
  · rw [(h t ht).2, hl, if_neg (by simp), often_halved hg]

theorem halved_length (cs : Cs) : (halved cs).length ≤ cs.length := List.length_filterMap_le _ _

set_option maxRecDepth 100000 in
theorem halve_any (cb b : Nat) (v : Value) (s : St) (w : World) (h : CacheAt w cb b v s) :
    Calls Try.prog 26 #[.pointer (some ⟨cb, 0, none⟩)] w (CachePost w cb b v { s with cs := halved s.cs, asked := 0 } (.tuple #[])) := by
  have c2 := h.c2
  obtain ⟨hg, D, hown, hr⟩ := h.cnt
  obtain ⟨n, hn⟩ : ∃ n, n = s.cs.length := ⟨_, rfl⟩
  rw [← hn] at hown
  have HS := Lib.hid (half_start hr hg)
  have HH := Lib.hid h
  have HG := Lib.hid hg
  have HN := Lib.hid hn
  obtain ⟨B, hB⟩ : ∃ B, B = w.heap.size := ⟨_, rfl⟩
  have HB := Lib.hid hB
  clear h hg hr hn
  go_enter Try.func26, Try.ntmps26
  go_wp2_with (first
    | (at_range; refine wpList_range_own _ rfl _ 54 rfl 9 3 law9 Try.underlying54 _ b n _ rfl hown ?_; intro w0 hrg0 hg0 hs0)
    | go_in)
  go_frame
  rw [← hB] at hrg0 ⊢
  have HR0 := Lib.hid hrg0
  have HG0 := Lib.hid hg0
  clear hrg0 hg0 hs0 hown hB
  go_loopw [2] (fun _ wr => ∃ (D' : DataW Unit) (left : Lit → Bool) (cnt : Nat), wr.ranges Try.prog 9 Rm b B n D' left cnt ∧ Half s.cs D' left ∧ w.grownBy wr (some b))
    (fun _ wr => wr.rangeLeft b B)
  case atStart => exact ⟨_, _, _, HR0.out, HS.out, HG0.out.but _⟩
  case round =>
    obtain ⟨D', left, cnt, hrg, hhalf, hgw⟩ := hrel
    have HF := Lib.hid hhalf
    have HGW := Lib.hid hgw
    clear hhalf hgw
    go_wp2_with (first
      | (at_next; refine wpList_next_ranges _ rfl _ rfl 9 law9 Rm Value.string (Value.int .i64) (fun key kk hk => by obtain ⟨x, hx, _⟩ := Go.WideMaps.string_of_keyOf Try.underlying9 hk; exact ⟨x, hx⟩) (fun u y hu => by obtain ⟨c, rfl, _⟩ := plainElem_int_inv Try.underlying3 hu; exact ⟨c, rfl⟩) b B n _ _ _ rfl hrg ?_ ?_)
      | go_in)
    · intro _ hl0
      have h0 := HH.out
      have hgw := HGW.out
      have hcb : wr.heap[cb]? = w.heap[cb]? := hgw.block cb h0.lt (fun e => h0.ne_b (by simpa using e))
      have c3 : wr.cell? ⟨cb, 3, none⟩ = some (.int .i64 s.asked) := (World.cell?_of_block hcb).trans h0.c3
      have f3 : wr.frozen? ⟨cb, 3, none⟩ = false := (World.frozen?_of_block hcb).trans (h0.f 3)
      have HL := Lib.hid hl0
      have HRG := Lib.hid hrg
      have HCB := Lib.hid hcb
      clear hl0 hrg h0 hgw hcb
      go_wp2_with fail
      go_end0
      have h0 := HH.out
      have hgw := HGW.out
      have hbox := box_set3 (cb := cb) (u := .int .i64 0) (HCB.out.trans h0.box)
      have hown : ∀ k, v.ownBlock = some k → wr.heap[k]? = w.heap[k]? := fun k hk => hgw.block k (h0.own_lt k hk) (fun e => h0.ne_map (by rw [hk, e]))
      refine ⟨rfl, v, ⟨hbox, row_kept h0.own (fun g hg => (Below.heap_setCell _ _ _ _ (fun e => h0.ne_own (by rw [hg]; exact congrArg some e))).trans (hown g hg)),
        (CountsAt.intro (good_halved HG.out) HRG.out.owns (half_end HG.out HF.out HL.out)).block (Below.heap_setCell _ _ _ _ (Ne.symm h0.ne_b)), h0.hi, h0.fits, Nat.le_trans (halved_length _) h0.few, Nat.zero_le _⟩,
        Turned.trans (v1 := v) ⟨hgw.os, hgw.tape, hgw.output, hgw.size, fun k hk _ hkb _ => hgw.block k hk (fun e => hkb (by simpa using e)), fun _ h => .inl h⟩ (Turned.setCell _ _ _ _ _ _ _)⟩
    · intro x c kk yd yp w1 cnt1 hkey hlx hv hat hrg1 hlt hg1 hs1 hen
      obtain ⟨x', ex, rfl, hxs⟩ := Go.WideMaps.string_of_keyOf Try.underlying9 hkey
      simp only [Value.string.injEq] at ex
      subst ex
      have hx1 := (HF.out x hxs).2
      rw [show kl x = Lit.string x.data.toList from rfl, hlx, if_pos rfl, hat] at hx1
      obtain ⟨c', ec, hy, hwc⟩ := plainElem_int_inv Try.underlying3 hv
      simp only [Prod.mk.injEq] at hy
      rw [hy.1] at hx1
      simp only [DataW.lit.injEq, Lit.int.injEq, true_and] at hx1
      simp only [Value.int.injEq, true_and] at ec
      have hc : c = (often s.cs x : Int) := ec.trans hx1
      have h15 := often_le HG.out x
      obtain ⟨q, hq⟩ : ∃ q, q = often s.cs x := ⟨_, rfl⟩
      rw [← hq] at hc h15
      subst hc
      have HQ := Lib.hid hq
      have HRG := Lib.hid hrg
      have HRG1 := Lib.hid hrg1
      have hgw1 := HGW.out.andThen hg1 (fun j hj => by cases hj; exact Or.inl (by rw [HB.out]; exact Nat.le_refl _))
      have HGW1 := Lib.hid hgw1
      have h0 := HH.out
      have hcb : w1.heap[cb]? = w.heap[cb]? := hgw1.block cb h0.lt (fun e => h0.ne_b (by simpa using e))
      have c2' : w1.cell? ⟨cb, 2, none⟩ = some (.map (some b)) := (World.cell?_of_block hcb).trans h0.c2
      have HLX := Lib.hid hlx
      have HLT := Lib.hid hlt
      clear hq hx1 ec hy hwc hv hat hs1 hg1 hgw1 h0 hcb hrg hkey hlx hlt
      by_cases h2 : q / 2 = 0
      · have hd : ((q : Int) / 2 == 0) = true := by rw [beq_iff_eq]; omega
        have H2 := Lib.hid h2
        clear h2
        go_wp2_with (first
          | (at_delete; refine wpList_delete_ranges _ rfl _ _ 54 9 rfl 3 law9 Try.underlying54 _ b B n _ _ _ rfl hrg1 _ _ rfl (key9 hxs) ?_; intro w2 cnt2 hrg2 hle hturn; go_frame)
          | go_in)
        have hrg2' : w2.ranges Try.prog 9 Rm b B n (D'.del (kl x)) (fun z => left z && !z.sameKey (kl x)) cnt2 := by
          have := hrg2
          rw [show (fun z : Lit => left z && !z.sameKey (Lit.string x.data.toList) && !z.sameKey (kl x)) = fun z => left z && !z.sameKey (kl x) from Maps.strike_twice left (kl x)] at this
          exact this
        refine ⟨⟨_, _, _, hrg2', half_del HF.out hxs (by rw [← HQ.out]; exact H2.out), HGW1.out.andThen hturn.grown (fun j hj => by cases hj; exact Or.inr rfl)⟩, ?_⟩
        rw [hrg2'.left_eq, HRG.out.left_eq]
        have := HLT.out
        omega
      · have hd : ((q : Int) / 2 == 0) = false := by rw [beq_eq_false_iff_ne]; omega
        have hwf : (Lit.int .i64 ((q : Int) / 2)).wf = true := WalkArith.wf_i64 (by omega)
        have hhas : Maps.has D' (kl x) = true := by
          have := (HF.out x hxs).1
          rw [show left (kl x) = true from HLX.out, if_pos rfl] at this
          rw [this, often_pos HG.out, ← HQ.out]
          exact decide_eq_true (by omega)
        obtain ⟨w2, hrun, hrg2, hturn⟩ := World.ranges.store_at HRG1.out law9 Try.underlying54 (key9 hxs) (plainElem_int Try.underlying3 hwf) hhas
        have H2 := Lib.hid h2
        have HR2 := Lib.hid hrg2
        have HTN := Lib.hid hturn
        clear h2 hwf hhas hrg2 hturn hrg1
        go_wp2_with fail
        have hput : Half s.cs (D'.put (kl x) (.lit (.int .i64 ((q : Int) / 2)))) (fun z => left z && !z.sameKey (kl x)) := by
          have := half_put HRG.out.owns.isMap HF.out hxs (by rw [← HQ.out]; have := H2.out; omega)
          rw [← HQ.out] at this
          simpa using this
        refine ⟨⟨_, _, _, HR2.out, hput, HGW1.out.andThen HTN.out.grown (fun j hj => by cases hj; exact Or.inr rfl)⟩, ?_⟩
        rw [HR2.out.left_eq, HRG.out.left_eq]
        exact HLT.out
end Go.Proofs.Ytoeekjooigijbaa

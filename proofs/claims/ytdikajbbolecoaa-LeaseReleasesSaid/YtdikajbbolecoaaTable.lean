/-
  The table in memory: its sessions, each in a block of its own; what each kept; those that ended.
-/
import Derived.Test.YtdikajbbolecoaaIs
namespace Go.Proofs.Ytdikajbbolecoaa
open Go.RowKit
set_option linter.unusedVariables false
set_option linter.unusedSimpArgs false

structure Sess where
  id : Int
  block : Int
  dead : Int
  last : Int
  kept : List (Int × ByteArray)
structure Tb where
  most : Nat
  term : Nat
  opened : Nat
  l : List Sess
  ended : List Int

def flatK (l : List (Int × ByteArray)) : List Value := l.flatMap fun p => [.int .i64 p.1, .string p.2]
def flatE (l : List Int) : List Value := l.map (Value.int .i64)
theorem flatK_len : ∀ l : List (Int × ByteArray), (flatK l).length = l.length * 2
  | [] => rfl
  | p :: l => by show ([_, _] ++ flatK l).length = _; rw [List.length_append, flatK_len l, List.length_cons]; simp; omega
theorem flatK_drop : ∀ (l : List (Int × ByteArray)) (i : Nat), (flatK l).drop (i * 2) = flatK (l.drop i)
  | [], i => by simp [flatK]
  | p :: l, 0 => by simp
  | p :: l, i + 1 => by rw [List.drop_succ_cons, ← flatK_drop l i, Nat.succ_mul]; rfl
theorem flatK_append (l m : List (Int × ByteArray)) : flatK (l ++ m) = flatK l ++ flatK m := by unfold flatK; rw [List.flatMap_append]

/-- Where a table's parts lie: its sessions' blocks, their replies' slices, the slice of those that ended. -/
structure Mem where
  bs : List Nat
  kvs : List Value
  ev : Value

def ptrV : Option Nat → Value
  | none => .pointer none
  | some b => .pointer (some ⟨b, 0, none⟩)

/-- Is a block one of the table's own? -/
def Mine (tb : Nat) (m : Mem) (k : Nat) : Prop := k = tb ∨ k ∈ m.bs ∨ (∃ kv ∈ m.kvs, kv.ownBlock = some k) ∨ m.ev.ownBlock = some k

structure SlotAt (w : World) (b : Nat) (kv : Value) (x : Sess) : Prop where
  box : w.heap[b]? = some (.cells #[.int .i64 x.id, .int .i64 x.block, .int .i64 x.dead, .int .i64 x.last, kv] 61 (0, 0))
  row : OffRow w 71 2 kv x.kept.length (flatK x.kept)

structure TableAt (w : World) (tb : Nat) (m : Mem) (t : Tb) : Prop where
  box : w.heap[tb]? = some (.cells #[ptrV m.bs[0]?, ptrV m.bs[1]?, ptrV m.bs[2]?, ptrV m.bs[3]?, .int .i64 t.l.length, .int .i64 t.most, .int .i64 t.term, .int .i64 t.opened, m.ev] 57 (0, 0))
  lb : m.bs.length = t.l.length
  lk : m.kvs.length = t.l.length
  fits : t.l.length ≤ t.most
  hi : t.most ≤ 4
  nd : m.bs.Nodup
  nk : ∀ (i j : Nat) (u v : Value) (k : Nat), m.kvs[i]? = some u → m.kvs[j]? = some v → u.ownBlock = some k → v.ownBlock = some k → i = j
  slot : ∀ (i b : Nat) (kv : Value) (x : Sess), m.bs[i]? = some b → m.kvs[i]? = some kv → t.l[i]? = some x → SlotAt w b kv x
  ended : OffRow w 3 1 m.ev t.ended.length (flatE t.ended)

section
variable {w w' : World} {tb b : Nat} {m : Mem} {t : Tb} {kv : Value} {x : Sess}

theorem SlotAt.kept (h : SlotAt w b kv x) (h1 : w'.heap[b]? = w.heap[b]?) (h2 : ∀ k, kv.ownBlock = some k → w'.heap[k]? = w.heap[k]?) : SlotAt w' b kv x :=
  ⟨h1.trans h.box, h.row.kept h2⟩
theorem SlotAt.lt (h : SlotAt w b kv x) : b < w.heap.size := lt_of_block h.box
theorem TableAt.lt (h : TableAt w tb m t) : tb < w.heap.size := lt_of_block h.box
theorem TableAt.mine_lt (h : TableAt w tb m t) : ∀ k, Mine tb m k → k < w.heap.size := by
  rintro k (rfl | hk | ⟨kv, hkv, hk⟩ | hk)
  · exact h.lt
  · obtain ⟨i, hi⟩ := List.getElem?_of_mem hk
    have hil := (List.getElem?_eq_some_iff.1 hi).1
    obtain ⟨kv, hkv⟩ : ∃ kv, m.kvs[i]? = some kv := ⟨_, List.getElem?_eq_getElem (by rw [h.lk, ← h.lb]; exact hil)⟩
    obtain ⟨x, hx⟩ : ∃ x, t.l[i]? = some x := ⟨_, List.getElem?_eq_getElem (by rw [← h.lb]; exact hil)⟩
    exact (h.slot i k kv x hi hkv hx).lt
  · obtain ⟨i, hi⟩ := List.getElem?_of_mem hkv
    have hil := (List.getElem?_eq_some_iff.1 hi).1
    obtain ⟨b, hb⟩ : ∃ b, m.bs[i]? = some b := ⟨_, List.getElem?_eq_getElem (by rw [h.lb, ← h.lk]; exact hil)⟩
    obtain ⟨x, hx⟩ : ∃ x, t.l[i]? = some x := ⟨_, List.getElem?_eq_getElem (by rw [← h.lk]; exact hil)⟩
    exact (h.slot i b kv x hb hi hx).row.lt k hk
  · exact h.ended.lt k hk
/-- Where the table's own blocks are as they were the table is. -/
theorem TableAt.kept (h : TableAt w tb m t) (h1 : ∀ k, Mine tb m k → w'.heap[k]? = w.heap[k]?) : TableAt w' tb m t :=
  { h with
    box := (h1 tb (.inl rfl)).trans h.box
    slot := fun i b kv x hb hkv hx => (h.slot i b kv x hb hkv hx).kept (h1 b (.inr (.inl (List.mem_of_getElem? hb)))) (fun k hk => h1 k (.inr (.inr (.inl ⟨kv, List.mem_of_getElem? hkv, hk⟩))))
    ended := h.ended.kept fun k hk => h1 k (.inr (.inr (.inr hk))) }
theorem TableAt.below (h : TableAt w tb m t) (hb : Below w.heap.size w w') : TableAt w' tb m t := h.kept fun k hk => hb.block k (h.mine_lt k hk)
theorem TableAt.drewN (h : TableAt w tb m t) (n : Nat) : TableAt (w.drewN n) tb m t := h.kept fun _ _ => rfl
theorem TableAt.alloc (h : TableAt w tb m t) (o : Obj) : TableAt (w.alloc o) tb m t := h.below ((Below.refl _ w).alloc (Nat.le_refl _) o)

/-- Below B nothing has turned but the table's own blocks. -/
structure Turned (B : Nat) (w w' : World) (tb : Nat) (m m' : Mem) : Prop where
  os : w'.os = w.os
  tape : w'.tape = w.tape
  output : w'.output = w.output
  size : w.heap.size ≤ w'.heap.size
  block : ∀ k, k < B → ¬ Mine tb m k → w'.heap[k]? = w.heap[k]?
  own : ∀ k, Mine tb m' k → Mine tb m k ∨ B ≤ k
theorem Turned.refl (B : Nat) (w : World) (tb : Nat) (m : Mem) : Turned B w w tb m m := ⟨rfl, rfl, rfl, Nat.le_refl _, fun _ _ _ => rfl, fun _ h => .inl h⟩
theorem Turned.trans {B : Nat} {w1 : World} {m1 m' : Mem} (h : Turned B w w1 tb m m1) (h' : Turned B w1 w' tb m1 m') : Turned B w w' tb m m' := by
  refine ⟨h'.os.trans h.os, h'.tape.trans h.tape, h'.output.trans h.output, Nat.le_trans h.size h'.size, fun k hk hm => ?_, fun k hk => ?_⟩
  · rw [h'.block k hk (fun e => ?_), h.block k hk hm]
    rcases h.own k e with e' | e'
    · exact hm e'
    · omega
  · rcases h'.own k hk with e | e
    · exact h.own k e
    · exact .inr e
theorem Turned.mono {B B' : Nat} {m' : Mem} (h : Turned B w w' tb m m') (hB : B' ≤ B) : Turned B' w w' tb m m' :=
  ⟨h.os, h.tape, h.output, h.size, fun k hk => h.block k (by omega), fun k hk => (h.own k hk).imp id (by omega)⟩
theorem Turned.of_below {B : Nat} (h : Below B w w') (tb : Nat) (m : Mem) : Turned B w w' tb m m := ⟨h.os, h.tape, h.output, h.size, fun k hk _ => h.block k hk, fun _ h => .inl h⟩
theorem Turned.below {B B0 : Nat} {m' : Mem} (h : Turned B w w' tb m m') (hB : B0 ≤ B) (hm : ∀ k, Mine tb m k → B0 ≤ k) : Below B0 w w' :=
  ⟨h.os, h.tape, h.output, h.size, fun k hk => h.block k (by omega) (fun e => by have := hm k e; omega)⟩
theorem Turned.drewN (B : Nat) (w : World) (n tb : Nat) (m : Mem) : Turned B w (w.drewN n) tb m m := ⟨rfl, rfl, rfl, Nat.le_refl _, fun _ _ _ => rfl, fun _ h => .inl h⟩
end
end Go.Proofs.Ytdikajbbolecoaa

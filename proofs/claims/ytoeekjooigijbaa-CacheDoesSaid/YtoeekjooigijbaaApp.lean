/-
  Rows that a call makes by append: the laws; the document's 'keys' and New.
-/
import Derived.Test.YtoeekjooigijbaaRef
import Derived.Deep.RegionLaw
import Derived.Deep.RegionHeld3
namespace Go.Proofs.Ytoeekjooigijbaa
open Go.RowKit
set_option linter.unusedVariables false
set_option linter.unusedSimpArgs false

theorem wpList_append_off {P : Program} {ops : Array Oper} {o : Oper} {rest : List Oper} {a : Act} {w : World} {Q : Exit → Act → World → Prop} (hg : o.guard = none)
    (s x : Operand) (t tx e : TypeId) (ho : o.op = .call { callee := .builtin .append, args := #[s, x], argTypes := #[t, tx] })
    (i : TypeInfo) (z : Value) (size bytes : Nat) (ht : P.underlying t = some (.slice e)) (hi : P.info? e = some i) (hz : i.zero = some z)
    (hsize : i.size = size) (hby : i.bytes = bytes) (hzs : z.cells.size = size) (v : Value) (n : Nat) (xs : List Value) (hv : a.eval s = v) (hown : OffRow w e size v n xs)
    (m : Nat) (news : List Value) (hs : Src P size tx (a.eval x) m news w) (hm0 : 0 < m ∨ v.ownBlock ≠ none) (h63 : n + m ≤ maxLen) (hbytes : (n + m) * bytes ≤ 140737488355328)
    (hK : ∀ v' w', OffRow w' e size v' (n + m) (xs ++ news) → w.grownBy w' v.ownBlock → (v'.ownBlock = v.ownBlock ∨ v'.ownBlock = some w.heap.size) → wpList P ops Q rest (a.put o.dst v') w') :
    wpList P ops Q (o :: rest) a w := by
  obtain ⟨v', w', hr, h1, h2, h3⟩ := run_append_off (P := P) (w := w) t tx o.type e i z size bytes ht hi hz hsize hby hzs v n xs hown (a.eval x) m hm0 news hs h63 hbytes
  exact wpList_run hg (exec_append ho hv rfl hr) (hK v' w' h1 h2 h3)
theorem step_append_at {P : Program} {ops : Array Oper} {o : Oper} {a : Act} {w : World} {K : Act → World → Prop} {Q : Exit → Act → World → Prop} {E : Prop} (hg : o.guard = none)
    (s x : Operand) (t tx e : TypeId) (ho : o.op = .call { callee := .builtin .append, args := #[s, x], argTypes := #[t, tx] })
    (i : TypeInfo) (z : Value) (size bytes : Nat) (ht : P.underlying t = some (.slice e)) (hi : P.info? e = some i) (hz : i.zero = some z)
    (hsize : i.size = size) (hby : i.bytes = bytes) (hzs : z.cells.size = size) (v u : Value) (n : Nat) (xs : List Value) (hv : a.eval s = v) (hu : a.eval x = u) (hown : OffRow w e size v n xs)
    (m : Nat) (news : List Value) (hs : Src P size tx u m news w) (hm0 : 0 < m ∨ v.ownBlock ≠ none) (h63 : n + m ≤ maxLen) (hbytes : (n + m) * bytes ≤ 140737488355328)
    (hK : ∀ v' w', OffRow w' e size v' (n + m) (xs ++ news) → w.grownBy w' v.ownBlock → (v'.ownBlock = v.ownBlock ∨ v'.ownBlock = some w.heap.size) → K (a.put o.dst v') w') :
    if Region.wanted o (yielded ops a.tmps) = true then Oper.wp P o a w K Q else E := by
  subst hu
  obtain ⟨v', w', hr, h1, h2, h3⟩ := run_append_off (P := P) (w := w) t tx o.type e i z size bytes ht hi hz hsize hby hzs v n xs hown (a.eval x) m hm0 news hs h63 hbytes
  exact step_run hg (exec_append ho hv rfl hr) (hK v' w' h1 h2 h3)

/-- A row that the call has made. -/
structure Made (w w' : World) (e : TypeId) (size : Nat) (v : Value) (n : Nat) (vs : List Value) : Prop where
  row : OffRow w' e size v n vs
  own : ∀ k, v.ownBlock = some k → w.heap.size ≤ k
  below : Below w.heap.size w w'
theorem Made.start (w : World) (e : TypeId) (size : Nat) {w' : World} (hb : Below w.heap.size w w') : Made w w' e size (.slice none 0 0) 0 [] := ⟨OffRow.nil _ _ _, fun k hk => by simp [Value.ownBlock] at hk, hb⟩
theorem Made.more {w w1 w2 w' : World} {e : TypeId} {size : Nat} {v v' : Value} {n m : Nat} {vs news : List Value} (h : Made w w1 e size v n vs) (hb : Below w1.heap.size w1 w2) (hr : OffRow w' e size v' (n + m) (vs ++ news)) (hg : w2.grownBy w' v.ownBlock)
    (ho : v'.ownBlock = v.ownBlock ∨ v'.ownBlock = some w2.heap.size) : Made w w' e size v' (n + m) (vs ++ news) := by
  have hs := Nat.le_trans h.below.size hb.size
  refine ⟨hr, fun k hk => ?_, (h.below.trans (hb.mono h.below.size)).grown hg hs h.own⟩
  rcases ho with e | e
  · exact h.own k (e ▸ hk)
  · rw [e] at hk; simp at hk; omega
theorem Made.keep {w w1 w2 : World} {e : TypeId} {size : Nat} {v : Value} {n : Nat} {vs : List Value} (h : Made w w1 e size v n vs) (hb : Below w1.heap.size w1 w2) : Made w w2 e size v n vs :=
  ⟨OffRow.kept h.row fun k hk => hb.block k (OffRow.lt h.row k hk), h.own, h.below.trans (hb.mono h.below.size)⟩
/-- One new element, in a row of its own, as the source of an append. -/
theorem src_new {w : World} {t e : TypeId} (ht : Try.prog.underlying t = some (.slice e)) (vs : List Value) (size : Nat) (hl : vs.length = size) (h1 : ∀ u ∈ vs, u.oneCell' = true) : Src Try.prog size t (.slice (some ⟨w.heap.size, 0, none⟩) 1 1) 1 vs (w.alloc (.cells vs.toArray e)) := by
  have h := heap_alloc_new w (.cells vs.toArray e)
  refine Src.ofSlice _ ht ⟨w.heap.size, 0, none⟩ 1 1 _ (by omega) (fun j u hu => ?_) h1
  rw [addr_add, Nat.zero_add]
  simp only [World.cell?, h]
  simpa using hu
theorem info64 : (Try.prog.info? 64).map (fun i => (i.zero, i.size, i.bytes)) = some (some (.agg #[.string ⟨#[]⟩, .string ⟨#[]⟩]), 2, 32) := by kernel_rfl
theorem info69 : (Try.prog.info? 69).map (fun i => (i.zero, i.size, i.bytes)) = some (some (.agg #[.string ⟨#[]⟩, .int .i64 0]), 2, 24) := by kernel_rfl

theorem box4_at (w : World) (a b c d : Value) : (w.alloc (.cells #[a, b, c, d] 30)).heap[w.heap.size]? = some (.cells #[a, b, c, d] 30 (0, 0)) := heap_alloc_new w _
theorem cells4 {w : World} {b : Nat} {a0 a1 a2 a3 : Value} (h : w.heap[b]? = some (.cells #[a0, a1, a2, a3] 30 (0, 0))) : w.cell? ⟨b, 0, none⟩ = some a0 ∧ w.cell? ⟨b, 1, none⟩ = some a1 ∧ w.cell? ⟨b, 2, none⟩ = some a2 ∧ w.cell? ⟨b, 3, none⟩ = some a3 ∧ ∀ i, w.frozen? ⟨b, i, none⟩ = false := by
  simp [World.cell?, World.frozen?, h]

def keyVs (l : List Th) : List Value := l.map fun p => .string p.1

set_option maxHeartbeats 1000000 in
theorem rkeys_any (size asked : Nat) (tv cv : Value) (l : List Th) (w : World) (h : RowT w tv l) (hl : l.length ≤ 200) :
    Calls Try.prog 21 #[refV size tv cv asked] w fun e w' => ∃ va, e = .returned va ∧ Made w w' 9 1 va l.length (keyVs l) := by
  obtain ⟨a, cap, hv⟩ := OffRow.shape h
  subst hv
  obtain ⟨i9, hi9, hz9, hs9, hb9⟩ := info_parts info9
  obtain ⟨n, hn⟩ : ∃ n, n = l.length := ⟨_, rfl⟩
  have HR := Lib.hid h
  rw [← hn] at hl ⊢
  have HN := Lib.hid hn
  have hb := (Below.refl w.heap.size w).alloc (Nat.le_refl _) (.cells #[.int .i64 size, .slice a n cap, cv, .int .i64 asked] 30)
  have hbx := box4_at w (.int .i64 size) (.slice a n cap) cv (.int .i64 asked)
  have HB := Lib.hid hb
  have HX := Lib.hid hbx
  unfold refV
  clear h hn hb hbx
  go_enter Try.func21, Try.ntmps21
  go_wp2_with fail
  go_loopw [3, 4] (fun s3 s4 wr => ∃ j : Nat, j ≤ n ∧ s4 = .int .i64 j ∧ Made w wr 9 1 s3 j (keyVs (l.take j)) ∧ wr.heap[w.heap.size]? = some (.cells #[.int .i64 size, .slice a n cap, cv, .int .i64 asked] 30 (0, 0))) (fun _ s4 _ => n - (intOf s4).toNat)
  case atStart => exact ⟨0, Nat.zero_le _, rfl, by simpa [keyVs] using Made.start w 9 1 HB.out, HX.out⟩
  case round =>
    obtain ⟨j, hj, rfl, hm, hx⟩ := hrel
    obtain ⟨c0, c1, c2, c3, cf⟩ := cells4 hx
    have HM := Lib.hid hm
    have HX2 := Lib.hid hx
    by_cases hjn : j < n
    · obtain ⟨p, hp⟩ : ∃ p, l[j]? = some p := ⟨_, List.getElem?_eq_getElem (by rw [← HN.out]; exact hjn)⟩
      obtain ⟨f0, f1⟩ := flatT_at _ _ _ hp
      obtain ⟨g, o, cap', hv, q0, q1⟩ := cell2 (RowT.below HR.out hm.below) f0 f1
      simp only [Value.slice.injEq, true_and] at hv
      obtain ⟨rfl, hnl, rfl⟩ := hv
      have y1 : (j : Int) < (n : Int) := by omega
      have HP := Lib.hid hp
      clear f0 f1 hp hm hx
      go_wp2_with (at_builtin; refine wpList_append_off rfl (.tmp 12) (.tmp 19) 44 44 9 rfl i9 _ 1 16 Try.underlying44 hi9 hz9 hs9 hb9 rfl _ j (keyVs (l.take j)) rfl (OffRow.kept HM.out.row fun k hk => Below.heap_alloc _ _ _ (OffRow.lt HM.out.row k hk)) 1 [.string p.1] (by exact src_new Try.underlying44 [.string p.1] 1 rfl (by simp [Value.oneCell'])) (.inl (by omega)) (by unfold maxLen; omega) (by omega) ?_)
      intro v1 w1 ho1 hg1 hn1
      have hm1 := HM.out.more ((Below.refl _ wr).alloc (Nat.le_refl _) _) ho1 hg1 (by simpa using hn1)
      have hx1 : w1.heap[w.heap.size]? = some (.cells #[.int .i64 size, .slice (some ⟨g, o, none⟩) n cap, cv, .int .i64 asked] 30 (0, 0)) := by
        have hlt := lt_of_block HX2.out
        refine (hg1.block w.heap.size (by simp; omega) (fun e => ?_)).trans ((Below.heap_alloc _ _ _ hlt).trans HX2.out)
        rcases HM.out.row.2 with ⟨e0, _⟩ | ⟨g', o', cap', cur, e0, hg', _⟩
        · rw [e0] at e; simp [Value.ownBlock] at e
        · rw [e0] at e
          simp only [Value.ownBlock, Option.some.injEq] at e
          rw [← e, HX2.out] at hg'
          simp at hg'
      have M1 := Lib.hid hm1
      have X1 := Lib.hid hx1
      clear ho1 hg1 hn1 hm1 hx1 HM c0 c1 c2 c3 cf q0 q1
      go_wp2_with fail
      refine ⟨⟨j + 1, by omega, by go_num, ?_, X1.out⟩, by simp [intOf]; omega⟩
      have hts : keyVs (l.take (j + 1)) = keyVs (l.take j) ++ [.string p.1] := by unfold keyVs; rw [List.take_add_one, HP.out, List.map_append]; rfl
      rw [hts]
      exact M1.out
    · have y1 : ¬ (j : Int) < (n : Int) := by omega
      clear hm hx
      go_wp2_with fail
      go_ret
      have hjn : j = n := by omega
      have hm := HM.out
      rw [hjn, List.take_of_length_le (by rw [← HN.out]; omega)] at hm
      exact ⟨_, rfl, hm⟩
end Go.Proofs.Ytoeekjooigijbaa

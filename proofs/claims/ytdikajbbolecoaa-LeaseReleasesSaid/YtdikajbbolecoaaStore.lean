/-
  Store.
-/
import Derived.Test.YtdikajbbolecoaaExpire
import Derived.BigRegion
namespace Go.Proofs.Ytdikajbbolecoaa
open Go.RowKit
set_option linter.unusedVariables false
set_option linter.unusedSimpArgs false

def lastTwo (l : List (Int × ByteArray)) : List (Int × ByteArray) := l.drop (l.length - 2)
def storeS (t : Tb) (id seq : Int) (text : ByteArray) : Tb × Int :=
  match findI t.l id with
  | none => (t, 5)
  | some i => match t.l[i]? with
    | none => (t, 5)
    | some x => if seq ≤ x.last then (t, 1) else (setL t i { x with last := seq, kept := lastTwo (x.kept ++ [(seq, text)]) }, 0)

theorem info71 : (Try.prog.info? 71).map (fun i => (i.zero, i.size, i.bytes)) = some (some (.agg #[.int .i64 0, .string ⟨#[]⟩]), 2, 24) := by kernel_rfl

/-- A session's replies are written. -/
theorem TableAt.setKept {w w' : World} {tb : Nat} {m : Mem} {t : Tb} (h : TableAt w tb m t) {i b : Nat} {x y : Sess} {kv kv' : Value} (hx : t.l[i]? = some x) (hb : m.bs[i]? = some b) (hkv : m.kvs[i]? = some kv)
    (hbox : w'.heap[b]? = some (.cells #[.int .i64 y.id, .int .i64 y.block, .int .i64 y.dead, .int .i64 y.last, kv'] 61 (0, 0))) (hrow : OffRow w' 71 2 kv' y.kept.length (flatK y.kept))
    (own : ∀ k, kv'.ownBlock = some k → kv.ownBlock = some k ∨ w.heap.size ≤ k) (keep : ∀ k, k < w.heap.size → k ≠ b → kv.ownBlock ≠ some k → w'.heap[k]? = w.heap[k]?)
    (hos : w'.os = w.os) (htp : w'.tape = w.tape) (hou : w'.output = w.output) (hsz : w.heap.size ≤ w'.heap.size) :
    TableAt w' tb { m with kvs := m.kvs.set i kv' } (setL t i y) ∧ Turned w.heap.size w w' tb m { m with kvs := m.kvs.set i kv' } := by
  obtain ⟨n1, n2, n3⟩ := h.slot_ne hb
  have hs := h.slot i b kv x hb hkv hx
  have hll : (setL t i y).l.length = t.l.length := by unfold setL; simp
  have hil := (List.getElem?_eq_some_iff.1 hx).1
  have hik : i < m.kvs.length := by rw [h.lk]; exact hil
  have k1 : kv.ownBlock ≠ some tb := fun e => offRow_ne hs.row h.box (by decide) e
  have set_ne : ∀ (j : Nat) (u : Value), j ≠ i → (m.kvs.set i kv')[j]? = some u → m.kvs[j]? = some u := fun j u hj hu => by rwa [List.getElem?_set_ne (Ne.symm hj)] at hu
  have set_eq : ∀ (u : Value), (m.kvs.set i kv')[i]? = some u → u = kv' := fun u hu => by rw [List.getElem?_set_self hik] at hu; exact (Option.some.inj hu).symm
  have other : ∀ (j : Nat) (u : Value) (k : Nat), j ≠ i → m.kvs[j]? = some u → u.ownBlock = some k → kv'.ownBlock ≠ some k := fun j u k hj hu hk e => by
    rcases own k e with e' | e'
    · exact hj (h.nk j i u kv k hu hkv hk e')
    · have := h.mine_lt k (.inr (.inr (.inl ⟨u, List.mem_of_getElem? hu, hk⟩)))
      omega
  refine ⟨{ box := ?_, lb := h.lb.trans hll.symm, lk := ?_, fits := by rw [hll]; exact h.fits, hi := h.hi, nd := h.nd, nk := ?_, slot := ?_, ended := ?_ }, ⟨hos, htp, hou, hsz, fun k hk hm => keep k hk (fun e => hm (.inr (.inl (e ▸ List.mem_of_getElem? hb)))) (fun e => hm (.inr (.inr (.inl ⟨kv, List.mem_of_getElem? hkv, e⟩)))), fun k hk => ?_⟩⟩
  · rw [keep tb h.lt (Ne.symm n1) k1, hll]; exact h.box
  · show (m.kvs.set i kv').length = _
    rw [List.length_set, hll]
    exact h.lk
  · intro j j' u v k hu hv hk hk'
    by_cases e : j = i
    · by_cases e' : j' = i
      · rw [e, e']
      · subst e
        rw [set_eq u hu] at hk
        exact absurd hk (other j' v k e' (set_ne j' v e' hv) hk')
    · by_cases e' : j' = i
      · subst e'
        rw [set_eq v hv] at hk'
        exact absurd hk' (other j u k e (set_ne j u e hu) hk)
      · exact h.nk j j' u v k (set_ne j u e hu) (set_ne j' v e' hv) hk hk'
  · intro j b2 kv2 z hb2 hkv2 hz
    by_cases e : j = i
    · subst e
      rw [hb] at hb2
      cases hb2
      rw [set_eq kv2 hkv2]
      have hzy : z = y := by
        have : (setL t j y).l[j]? = some y := by unfold setL; simp [List.getElem?_set, hil]
        rw [this] at hz
        exact (Option.some.inj hz).symm
      subst hzy
      exact ⟨hbox, hrow⟩
    · have hz2 : t.l[j]? = some z := by
        have : (setL t i y).l[j]? = t.l[j]? := by unfold setL; simp [List.getElem?_set, Ne.symm e]
        rw [← this]; exact hz
      have hkv3 := set_ne j kv2 e hkv2
      have hs2 := h.slot j b2 kv2 z hb2 hkv3 hz2
      have hne : b2 ≠ b := fun e2 => e (by
        subst e2
        obtain ⟨hj, hj2⟩ := List.getElem?_eq_some_iff.1 hb2
        obtain ⟨hi, hi2⟩ := List.getElem?_eq_some_iff.1 hb
        have hp := List.pairwise_iff_getElem.1 h.nd
        rcases Nat.lt_trichotomy j i with hlt | he | hlt
        · exact absurd (hj2.trans hi2.symm) (hp j i hj hi hlt)
        · exact he
        · exact absurd (hi2.trans hj2.symm) (hp i j hi hj hlt))
      obtain ⟨_, m2, _⟩ := h.slot_ne hb2
      exact hs2.kept (keep b2 hs2.lt hne (m2 kv (List.mem_of_getElem? hkv))) fun k hk => keep k (hs2.row.lt k hk) (fun e2 => n2 kv2 (List.mem_of_getElem? hkv3) (by rw [hk, e2])) (fun e2 => e (h.nk j i kv2 kv k hkv3 hkv hk e2))
  · exact h.ended.kept fun k hk => keep k (h.ended.lt k hk) (fun e => n3 (by show m.ev.ownBlock = _; rw [← e]; exact hk)) (offRow_apart hs.row h.ended (by decide) k hk)
  · rcases hk with e | e | ⟨u, hu, e⟩ | e
    · exact .inl (.inl e)
    · exact .inl (.inr (.inl e))
    · rcases List.mem_or_eq_of_mem_set hu with e' | e'
      · exact .inl (.inr (.inr (.inl ⟨u, e', e⟩)))
      · subst e'
        rcases own k e with e2 | e2
        · exact .inl (.inr (.inr (.inl ⟨kv, List.mem_of_getElem? hkv, e2⟩)))
        · exact .inr e2
    · exact .inl (.inr (.inr (.inr e)))

theorem wpList_append_off {P : Program} {ops : Array Oper} {o : Oper} {rest : List Oper} {a : Act} {w : World} {Q : Exit → Act → World → Prop} (hg : o.guard = none)
    (s x : Operand) (t tx e : TypeId) (ho : o.op = .call { callee := .builtin .append, args := #[s, x], argTypes := #[t, tx] })
    (i : TypeInfo) (z : Value) (size bytes : Nat) (ht : P.underlying t = some (.slice e)) (hi : P.info? e = some i) (hz : i.zero = some z)
    (hsize : i.size = size) (hby : i.bytes = bytes) (hzs : z.cells.size = size) (v : Value) (n : Nat) (xs : List Value) (hv : a.eval s = v) (hown : OffRow w e size v n xs)
    (m : Nat) (news : List Value) (hs : Src P size tx (a.eval x) m news w) (hm0 : 0 < m) (h63 : n + m ≤ maxLen) (hbytes : (n + m) * bytes ≤ 140737488355328)
    (hK : ∀ v' w', OffRow w' e size v' (n + m) (xs ++ news) → w.grownBy w' v.ownBlock → (v'.ownBlock = v.ownBlock ∨ v'.ownBlock = some w.heap.size) → wpList P ops Q rest (a.put o.dst v') w') :
    wpList P ops Q (o :: rest) a w := by
  obtain ⟨v', w', hr, h1, h2, h3⟩ := run_append_off (P := P) (w := w) t tx o.type e i z size bytes ht hi hz hsize hby hzs v n xs hown (a.eval x) m hm0 news hs h63 hbytes
  exact wpList_run hg (exec_append ho hv rfl hr) (hK v' w' h1 h2 h3)

theorem src_kept (w : World) (i : Int) (s : ByteArray) : Src Try.prog 2 59 (.slice (some ⟨w.heap.size, 0, none⟩) 1 1) 1 [.int .i64 i, .string s] (w.alloc (.cells #[.int .i64 i, .string s] 71)) := by
  have h := heap_alloc_new w (.cells #[.int .i64 i, .string s] 71)
  have c0 : (w.alloc (.cells #[.int .i64 i, .string s] 71)).cell? ⟨w.heap.size, 0, none⟩ = some (.int .i64 i) := by simp only [World.cell?, h]; rfl
  have c1 : (w.alloc (.cells #[.int .i64 i, .string s] 71)).cell? ⟨w.heap.size, 1, none⟩ = some (.string s) := by simp only [World.cell?, h]; rfl
  refine Src.ofSlice _ Try.underlying59 ⟨w.heap.size, 0, none⟩ 1 1 _ rfl (fun j u hu => ?_) (by simp [Value.oneCell'])
  rw [addr_add]
  match j with
  | 0 => simp only [List.getElem?_cons_zero, Option.some.injEq] at hu; rw [← hu]; exact c0
  | 1 => simp only [List.getElem?_cons_succ, List.getElem?_cons_zero, Option.some.injEq] at hu; rw [← hu]; exact c1
  | j + 2 => simp at hu

set_option maxHeartbeats 2000000 in
set_option maxRecDepth 100000 in
theorem store_any (tb : Nat) (m : Mem) (t : Tb) (id seq : Int) (text : ByteArray) (w : World) (h : TableAt w tb m t) (hk2 : ∀ x ∈ t.l, x.kept.length ≤ 2) :
    Calls Try.prog 19 #[.pointer (some ⟨tb, 0, none⟩), .int .i64 id, .int .i64 seq, .string text] w (TablePost w tb m (storeS t id seq text).1 (.int .i64 (storeS t id seq text).2)) := by
  have D := Lib.hid (slot_any tb m t id w h)
  have HH := Lib.hid h
  cases hf : findI t.l id with
  | none =>
    have hsv : slotV m t id = .pointer none := by unfold slotV; rw [hf]
    rw [hsv] at D
    have hr : storeS t id seq text = (t, 5) := by unfold storeS; rw [hf]
    have HR := Lib.hid hr
    clear h hf hsv hr hk2
    go_enter Try.func19, Try.ntmps19
    go_wp2_with fail
    refine D.out.mono ?_
    rintro e w1 ⟨rfl, q, rfl⟩
    go_wp2_with fail
    go_ret
    rw [HR.out]
    exact ⟨rfl, m, HH.out.drewN q, Turned.drewN _ _ _ _ _⟩
  | some i =>
    obtain ⟨x, hx, hxi, _⟩ := findI_lt hf
    obtain ⟨b, kv, hb, hkv, hs⟩ := h.at_ hx
    have hsv : slotV m t id = .pointer (some ⟨b, 0, none⟩) := by unfold slotV; rw [hf]; simp only [hb]; rfl
    rw [hsv] at D
    have q3 : w.cell? ⟨b, 3, none⟩ = some (.int .i64 x.last) := by simp [World.cell?, hs.box]
    have q4 : w.cell? ⟨b, 4, none⟩ = some kv := by simp [World.cell?, hs.box]
    have f3 : ∀ i, w.frozen? ⟨b, i, none⟩ = false := fun i => by simp [World.frozen?, hs.box]
    have hr : storeS t id seq text = if seq ≤ x.last then (t, 1) else (setL t i { x with last := seq, kept := lastTwo (x.kept ++ [(seq, text)]) }, 0) := by unfold storeS; rw [hf]; simp only [hx]
    by_cases hd : seq ≤ x.last
    · have d1 : decide (seq ≤ x.last) = true := decide_eq_true hd
      rw [if_pos hd] at hr
      have HR := Lib.hid hr
      clear h hf hsv hr hk2 hx hxi hb hkv hs
      go_enter Try.func19, Try.ntmps19
      go_wp2_with fail
      refine D.out.mono ?_
      rintro e w1 ⟨rfl, q, rfl⟩
      go_wp2_with fail
      go_ret
      rw [HR.out]
      exact ⟨rfl, m, HH.out.drewN q, Turned.drewN _ _ _ _ _⟩
    · have d1 : decide (seq ≤ x.last) = false := decide_eq_false hd
      rw [if_neg hd] at hr
      have HR := Lib.hid hr
      have HXX := Lib.hid hx
      have HBB := Lib.hid hb
      have HKV := Lib.hid hkv
      have HS := Lib.hid hs
      have hk2 := hk2 x (List.mem_of_getElem? hx)
      obtain ⟨i71, hi71, hz71, hs71, hb71⟩ := info_parts info71
      clear h hf hsv hr hx hxi hb hkv hs
      go_enter Try.func19, Try.ntmps19
      go_wp2_with fail
      refine D.out.mono ?_
      rintro e w1 ⟨rfl, q, rfl⟩
      have hbl : b < w.heap.size := HS.out.lt
      obtain ⟨n1, n2, n3⟩ := HH.out.slot_ne HBB.out
      have hkb : kv.ownBlock ≠ some b := n2 kv (List.mem_of_getElem? HKV.out)
      have HKB := Lib.hid hkb
      have b3 := (slot_set (w := w) HS.out.box (.int .i64 seq)).2.2.1
      have B3 := Lib.hid b3
      clear n1 n2 n3 hkb b3
      go_wp2_with (at_builtin; refine wpList_append_off rfl (.tmp 33) (.tmp 37) 59 59 71 rfl i71 _ 2 24 Try.underlying59 hi71 hz71 hs71 hb71 rfl kv x.kept.length (flatK x.kept) rfl (HS.out.row.kept fun k hk => (Below.heap_alloc _ _ _ (by simpa using HS.out.row.lt k hk)).trans (Below.heap_setCell _ _ _ _ (by show k ≠ b; rintro rfl; exact HKB.out hk))) 1 [.int .i64 seq, .string text] ?src (by omega) (by unfold maxLen; omega) (by omega) ?_)
      case src =>
        have hsrc := src_kept ((w.drewN q).setCell ⟨b, 3, none⟩ (.int .i64 seq)) seq text
        rw [show ((w.drewN q).setCell ⟨b, 3, none⟩ (.int .i64 seq)).heap.size = w.heap.size from by simp] at hsrc
        exact hsrc
      intro v1 w1 ho1 hg1 hn1
      obtain ⟨a1, cap1, rfl⟩ := ho1.shape
      have keep1 : ∀ k, k < w.heap.size → k ≠ b → kv.ownBlock ≠ some k → w1.heap[k]? = w.heap[k]? := fun k hk h1 h2 => (hg1.block k (by simp; omega) (fun e => h2 e.symm)).trans ((Below.heap_alloc _ _ _ (by simpa using hk)).trans (Below.heap_setCell _ _ _ _ h1))
      have e1 : w1.heap[b]? = some (.cells #[.int .i64 x.id, .int .i64 x.block, .int .i64 x.dead, .int .i64 seq, kv] 61 (0, 0)) :=
        (hg1.block b (by simp; omega) (fun e => HKB.out e.symm)).trans ((Below.heap_alloc _ _ _ (by simpa using hbl)).trans B3.out)
      obtain ⟨N, hN⟩ : ∃ N, N = x.kept.length + 1 := ⟨_, rfl⟩
      rw [← hN] at ho1 hn1 ⊢
      have HN := Lib.hid hN
      have c1 : w1.cell? ⟨b, 4, none⟩ = some kv := by simp [World.cell?, e1]
      have g1 : w1.frozen? ⟨b, 4, none⟩ = false := by simp [World.frozen?, e1]
      have KEEP1 := Lib.hid keep1
      have E1 := Lib.hid e1
      have HO1 := Lib.hid ho1
      have HN1 := Lib.hid hn1
      have HG1 := Lib.hid hg1
      clear keep1 e1 ho1 hn1 hg1
      have y0 : (N : Int) ≤ 100 := by omega
      clear hN
      have e2 := (slot_set E1.out (.slice a1 N cap1)).2.2.2
      have hsz : w.heap.size ≤ w1.heap.size := Nat.le_trans (by simp) HG1.out.size
      have own : ∀ k, (Value.slice a1 N cap1).ownBlock = some k → kv.ownBlock = some k ∨ w.heap.size ≤ k := fun k hk => by
        rcases HN1.out with e | e
        · exact .inl (e ▸ hk)
        · rw [e] at hk; simp at hk; exact .inr (by omega)
      have vb : (Value.slice a1 N cap1).ownBlock ≠ some b := fun e => by
        rcases own b e with e' | e'
        · exact HKB.out e'
        · omega
      have hfk : flatK x.kept ++ [.int .i64 seq, .string text] = flatK (x.kept ++ [(seq, text)]) := by rw [flatK_append]; rfl
      have hlk : (x.kept ++ [(seq, text)]).length = N := by rw [HN.out]; simp
      rw [hfk] at HO1
      have E2 := Lib.hid e2
      have HSZ := Lib.hid hsz
      have OWN := Lib.hid own
      have VB := Lib.hid vb
      have HLK := Lib.hid hlk
      clear e2 hsz own vb hfk hlk
      go_upto_region 8 with fail
      obtain ⟨w2, hw2⟩ : ∃ w2, w2 = w1.setCell ⟨b, 4, none⟩ (.slice a1 N cap1) := ⟨_, rfl⟩
      have c2 : w2.cell? ⟨b, 4, none⟩ = some (.slice a1 N cap1) := by rw [hw2]; simp [World.cell?, E2.out]
      have g2 : w2.frozen? ⟨b, 4, none⟩ = false := by rw [hw2]; simp [World.frozen?, E2.out]
      rw [← hw2]
      have HW2 := Lib.hid hw2
      clear c1 g1 hw2
      by_cases h8 : N ≤ 2
      · have y1 : (N : Int) - 2 ≤ 0 := by omega
        have y2 : ¬ (0 : Int) < (N : Int) - 2 := by omega
        go_region
        go_wp2_with fail
        go_ret
        rw [HR.out, HW2.out]
        have hl2 : lastTwo (x.kept ++ [(seq, text)]) = x.kept ++ [(seq, text)] := by
          unfold lastTwo
          rw [HLK.out, show N - 2 = 0 by omega, List.drop_zero]
        have hrow : OffRow w1 71 2 (.slice a1 N cap1) (lastTwo (x.kept ++ [(seq, text)])).length (flatK (lastTwo (x.kept ++ [(seq, text)]))) := by rw [hl2, HLK.out]; exact HO1.out
        refine ⟨rfl, _, (HH.out.setKept (y := { x with last := seq, kept := lastTwo (x.kept ++ [(seq, text)]) }) (kv' := (.slice a1 N cap1)) HXX.out HBB.out HKV.out (slot_set E2.out (.slice a1 N cap1)).2.2.2 ?_ OWN.out (fun k hk h1 h2 => (Below.heap_setCell _ _ _ _ h1).trans ((Below.heap_setCell _ _ _ _ h1).trans (KEEP1.out k hk h1 h2))) HG1.out.os HG1.out.tape HG1.out.output (by simpa using HSZ.out)).imp (fun h => h.kept fun _ _ => rfl) (fun h => h.trans (Turned.drewN _ _ 1 _ _))⟩
        exact hrow.kept fun k hk => (Below.heap_setCell _ _ _ _ (by show k ≠ b; rintro rfl; exact VB.out hk)).trans (Below.heap_setCell _ _ _ _ (by show k ≠ b; rintro rfl; exact VB.out hk))
      · have hr := HO1.out
        obtain ⟨hrl, ⟨hr1, hr2⟩ | ⟨g, o, cap', cur, hv, hg, hr1, hr2, hr3, hr4⟩⟩ := hr
        · omega
        simp only [Value.slice.injEq] at hv
        obtain ⟨rfl, _, rfl⟩ := hv
        have y1 : ¬ (N : Int) - 2 ≤ 0 := by omega
        have y2 : (0 : Int) < (N : Int) - 2 := by omega
        have y3 : (N : Int) - 2 ≤ (N : Int) := by omega
        have y4 : (N : Int) ≤ (cap1 : Int) := by omega
        have y5 : N ≤ cap1 := hr1
        have y6 : ((N : Int) - 2).toNat = N - 2 := by omega
        have HR1 := Lib.hid hr1
        clear hr1 hr2 hr3 hr4 hg hrl
        go_region
        go_wp2_with fail
        go_ret
        rw [HR.out, HW2.out]
        have hfr := HO1.out
        have hfr2 := hfr.from (k := N - 2) (by omega)
        rw [if_neg (by have := HR1.out; omega), flatK_drop] at hfr2
        have hl2 : (x.kept ++ [(seq, text)]).drop (N - 2) = lastTwo (x.kept ++ [(seq, text)]) := by
          unfold lastTwo
          rw [HLK.out]
        have hll : (lastTwo (x.kept ++ [(seq, text)])).length = N - (N - 2) := by
          unfold lastTwo
          rw [List.length_drop, HLK.out]
        rw [hl2, ← hll] at hfr2
        rw [← hll]
        refine ⟨rfl, _, (HH.out.setKept (y := { x with last := seq, kept := lastTwo (x.kept ++ [(seq, text)]) }) (kv' := (.slice (some ⟨g, o + (N - 2) * 2, none⟩) (lastTwo (x.kept ++ [(seq, text)])).length (cap1 - (N - 2)))) HXX.out HBB.out HKV.out (slot_set E2.out (.slice (some ⟨g, o + (N - 2) * 2, none⟩) (lastTwo (x.kept ++ [(seq, text)])).length (cap1 - (N - 2)))).2.2.2 ?_ (fun k hk => OWN.out k (by rw [← hk]; rfl)) (fun k hk h1 h2 => (Below.heap_setCell _ _ _ _ h1).trans ((Below.heap_setCell _ _ _ _ h1).trans (KEEP1.out k hk h1 h2))) HG1.out.os HG1.out.tape HG1.out.output (by simpa using HSZ.out)).imp (fun h => h.kept fun _ _ => rfl) (fun h => h.trans (Turned.drewN _ _ 1 _ _))⟩
        exact hfr2.kept fun k hk => (Below.heap_setCell _ _ _ _ (by show k ≠ b; rintro rfl; exact VB.out (by rw [← hk]; rfl))).trans (Below.heap_setCell _ _ _ _ (by show k ≠ b; rintro rfl; exact VB.out (by rw [← hk]; rfl)))
end Go.Proofs.Ytdikajbbolecoaa

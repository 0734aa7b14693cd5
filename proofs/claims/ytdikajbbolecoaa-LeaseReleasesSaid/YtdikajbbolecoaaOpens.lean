/-
  Open.
-/
import Derived.Test.YtdikajbbolecoaaAll
import Derived.BigRegion
namespace Go.Proofs.Ytdikajbbolecoaa
open Go.RowKit
set_option linter.unusedVariables false
set_option linter.unusedSimpArgs false

def openS (t : Tb) (block clock : Int) : Tb × Int × Int :=
  if t.l.length = t.most ∨ t.opened = 1048576 then (t, 0, 12)
  else ({ t with opened := t.opened + 1, l := t.l ++ [⟨(t.opened : Int) + 1, block, clock + t.term, 0, []⟩] }, (t.opened : Int) + 1, 0)

theorem setptr {w : World} {tb B n : Nat} {bs : List Nat} {x4 x5 x6 x7 x8 : Value} (h : w.heap[tb]? = some (.cells #[ptrV bs[0]?, ptrV bs[1]?, ptrV bs[2]?, ptrV bs[3]?, x4, x5, x6, x7, x8] 57 (0, 0))) (hn : bs.length = n) (h4 : n < 4) :
    (w.setCell ⟨tb, n, none⟩ (.pointer (some ⟨B, 0, none⟩))).heap[tb]? = some (.cells #[ptrV (bs ++ [B])[0]?, ptrV (bs ++ [B])[1]?, ptrV (bs ++ [B])[2]?, ptrV (bs ++ [B])[3]?, x4, x5, x6, x7, x8] 57 (0, 0)) := by
  subst hn
  simp only [World.setCell, Array.getElem?_modify, if_pos rfl, h]
  match bs, h4 with
  | [], _ => rfl
  | [a], _ => rfl
  | [a, b], _ => rfl
  | [a, b, c], _ => rfl

theorem TableAt.opened_ {w w' : World} {tb : Nat} {m : Mem} {t : Tb} {x : Sess} (h : TableAt w tb m t) (hroom : t.l.length < t.most) (hk : x.kept = [])
    (hbox : w'.heap[tb]? = some (.cells #[ptrV (m.bs ++ [w.heap.size])[0]?, ptrV (m.bs ++ [w.heap.size])[1]?, ptrV (m.bs ++ [w.heap.size])[2]?, ptrV (m.bs ++ [w.heap.size])[3]?, .int .i64 ((t.l.length : Int) + 1), .int .i64 t.most, .int .i64 t.term, .int .i64 ((t.opened : Int) + 1), m.ev] 57 (0, 0)))
    (hnew : w'.heap[w.heap.size]? = some (.cells #[.int .i64 x.id, .int .i64 x.block, .int .i64 x.dead, .int .i64 x.last, .slice none 0 0] 61 (0, 0)))
    (keep : ∀ k, k < w.heap.size → k ≠ tb → w'.heap[k]? = w.heap[k]?) (hos : w'.os = w.os) (htp : w'.tape = w.tape) (hou : w'.output = w.output) (hsz : w.heap.size ≤ w'.heap.size) :
    TableAt w' tb ⟨m.bs ++ [w.heap.size], m.kvs ++ [.slice none 0 0], m.ev⟩ { t with opened := t.opened + 1, l := t.l ++ [x] } ∧ Turned w.heap.size w w' tb m ⟨m.bs ++ [w.heap.size], m.kvs ++ [.slice none 0 0], m.ev⟩ := by
  have hme := h.mine_lt
  have hlb := h.lb
  have hlk := h.lk
  refine ⟨{ box := ?_, lb := by simp [h.lb], lk := by simp [h.lk], fits := by simp; omega, hi := h.hi, nd := ?_, nk := ?_, slot := ?_, ended := h.ended.kept fun k hk => keep k (h.ended.lt k hk) (fun e => offRow_ne h.ended h.box (by decide) (e ▸ hk)) }, ⟨hos, htp, hou, hsz, fun k hk hm => keep k hk (fun e => hm (.inl e)), fun k hk => ?_⟩⟩
  · rw [hbox]
    simp
  · rw [List.nodup_append]
    refine ⟨h.nd, by simp, fun a ha b hb => ?_⟩
    simp only [List.mem_singleton] at hb
    have := hme a (.inr (.inl ha))
    omega
  · intro i j u v k hu hv hk hk'
    have cases_ : ∀ (i : Nat) (u : Value), (m.kvs ++ [Value.slice none 0 0])[i]? = some u → u.ownBlock = some k → m.kvs[i]? = some u := fun i u hu hk => by
      by_cases hi : i < m.kvs.length
      · rwa [List.getElem?_append_left hi] at hu
      · rw [List.getElem?_append_right (by omega)] at hu
        have := List.mem_of_getElem? hu
        simp only [List.mem_singleton] at this
        rw [this] at hk
        simp [Value.ownBlock] at hk
    exact h.nk i j u v k (cases_ i u hu hk) (cases_ j v hv hk') hk hk'
  · intro i b kv z hb hkv hz
    by_cases hi : i < t.l.length
    · have hb : (m.bs ++ [w.heap.size])[i]? = some b := hb
      have hkv : (m.kvs ++ [Value.slice none 0 0])[i]? = some kv := hkv
      have hz : (t.l ++ [x])[i]? = some z := hz
      rw [List.getElem?_append_left (by omega)] at hb hkv hz
      have hs := h.slot i b kv z hb hkv hz
      exact hs.kept (keep b hs.lt (h.slot_ne hb).1) fun k hk => keep k (hs.row.lt k hk) (fun e => offRow_ne hs.row h.box (by decide) (e ▸ hk))
    · have hb : (m.bs ++ [w.heap.size])[i]? = some b := hb
      have hkv : (m.kvs ++ [Value.slice none 0 0])[i]? = some kv := hkv
      have hz : (t.l ++ [x])[i]? = some z := hz
      rw [List.getElem?_append_right (by omega)] at hb hkv hz
      have e1 := List.mem_of_getElem? hb
      have e2 := List.mem_of_getElem? hkv
      have e3 := List.mem_of_getElem? hz
      simp only [List.mem_singleton] at e1 e2 e3
      subst e1 e2 e3
      exact ⟨hnew, by rw [hk]; exact OffRow.nil _ _ _⟩
  · rcases hk with e | e | ⟨kv, hkv, e⟩ | e
    · exact .inl (.inl e)
    · rcases List.mem_append.1 e with e | e
      · exact .inl (.inr (.inl e))
      · simp only [List.mem_singleton] at e
        exact .inr (by omega)
    · rcases List.mem_append.1 hkv with e' | e'
      · exact .inl (.inr (.inr (.inl ⟨kv, e', e⟩)))
      · simp only [List.mem_singleton] at e'
        rw [e'] at e
        simp [Value.ownBlock] at e
    · exact .inl (.inr (.inr (.inr e)))

set_option maxHeartbeats 2000000 in
theorem open_any (tb : Nat) (m : Mem) (t : Tb) (block clock : Int) (w : World) (h : TableAt w tb m t) (hc1 : 0 ≤ clock) (hc2 : clock ≤ 1000000) (ht : t.term ≤ 1000) (ho : t.opened ≤ 1048576) :
    Calls Try.prog 20 #[.pointer (some ⟨tb, 0, none⟩), .int .i64 block, .int .i64 clock] w (TablePost w tb m (openS t block clock).1 (.tuple #[.int .i64 (openS t block clock).2.1, .int .i64 (openS t block clock).2.2])) := by
  have cn := h.cn
  have cm := h.cmost
  have ct := h.cterm
  have co := h.copened
  have fz := h.f
  have HH := Lib.hid h
  have hfi := h.fits
  have hhi := h.hi
  by_cases h1 : t.l.length = t.most
  · have hr : openS t block clock = (t, 0, 12) := by unfold openS; rw [if_pos (.inl h1)]
    have HR := Lib.hid hr
    have y1 : ((t.l.length : Int) == (t.most : Int)) = true := by rw [beq_iff_eq]; omega
    clear h hr h1
    go_enter Try.func20, Try.ntmps20
    go_wp2_with fail
    go_quiet (fail)
    go_wp2_with fail
    go_ret2
    rw [HR.out]
    exact ⟨rfl, m, HH.out.drewN nq, Turned.drewN _ _ _ _ _⟩
  · have y1 : ((t.l.length : Int) == (t.most : Int)) = false := by rw [beq_eq_false_iff_ne]; omega
    by_cases h2 : t.opened = 1048576
    · have hr : openS t block clock = (t, 0, 12) := by unfold openS; rw [if_pos (.inr h2)]
      have HR := Lib.hid hr
      have y2 : ((t.opened : Int) == 1048576) = true := by rw [beq_iff_eq]; omega
      clear h hr h1 h2
      go_enter Try.func20, Try.ntmps20
      go_wp2_with fail
      go_quiet (fail)
      go_wp2_with fail
      go_ret2
      rw [HR.out]
      exact ⟨rfl, m, HH.out.drewN nq, Turned.drewN _ _ _ _ _⟩
    · have hr : openS t block clock = ({ t with opened := t.opened + 1, l := t.l ++ [⟨(t.opened : Int) + 1, block, clock + t.term, 0, []⟩] }, (t.opened : Int) + 1, 0) := by unfold openS; rw [if_neg (by omega)]
      have HR := Lib.hid hr
      have y2 : ((t.opened : Int) == 1048576) = false := by rw [beq_eq_false_iff_ne]; omega
      obtain ⟨n, hn⟩ : ∃ n, n = t.l.length := ⟨_, rfl⟩
      rw [← hn] at cn y1
      have hn4 : n < 4 := by omega
      have hn4i : (n : Int) < 4 := by omega
      have hrm : n < t.most := by omega
      have cp := h.cptr (i := n) hn4
      have hob : (t.opened : Int) ≤ 1048576 := by omega
      have htb : (t.term : Int) ≤ 1000 := by omega
      have HN := Lib.hid hn
      have HLT := Lib.hid h.lt
      clear h hr h1 h2 hn hfi
      go_enter Try.func20, Try.ntmps20
      go_wp2_with fail
      go_quiet (fail)
      go_upto_region 4 with fail
      obtain ⟨w1, hw1⟩ : ∃ w1, w1 = (w.drewN nq).setCell ⟨tb, 7, none⟩ (.int .i64 ((t.opened : Int) + 1)) := ⟨_, rfl⟩
      have b1 : w1.heap[tb]? = some (.cells #[ptrV m.bs[0]?, ptrV m.bs[1]?, ptrV m.bs[2]?, ptrV m.bs[3]?, .int .i64 n, .int .i64 t.most, .int .i64 t.term, .int .i64 ((t.opened : Int) + 1), m.ev] 57 (0, 0)) := by
        have := HH.out.box
        rw [hw1]
        simp only [World.setCell, World.drewN, Array.getElem?_modify, if_pos rfl, this, HN.out]
        rfl
      have d4 : w1.cell? ⟨tb, 4, none⟩ = some (.int .i64 n) := by simp [World.cell?, b1]
      have d6 : w1.cell? ⟨tb, 6, none⟩ = some (.int .i64 t.term) := by simp [World.cell?, b1]
      have d7 : w1.cell? ⟨tb, 7, none⟩ = some (.int .i64 ((t.opened : Int) + 1)) := by simp [World.cell?, b1]
      have fz1 : ∀ i, w1.frozen? ⟨tb, i, none⟩ = false := fun i => by simp [World.frozen?, b1]
      have dp : ∃ u, w1.cell? ⟨tb, n, none⟩ = some u := by
        match n, hn4 with
        | 0, _ => exact ⟨_, by simp only [World.cell?, b1]; rfl⟩
        | 1, _ => exact ⟨_, by simp only [World.cell?, b1]; rfl⟩
        | 2, _ => exact ⟨_, by simp only [World.cell?, b1]; rfl⟩
        | 3, _ => exact ⟨_, by simp only [World.cell?, b1]; rfl⟩
      obtain ⟨up, dp⟩ := dp
      rw [← hw1]
      have HW1 := Lib.hid hw1
      have hl1 : tb < w1.heap.size := lt_of_block b1
      have al : ∀ (o : Obj) (i : Nat) (u : Value), w1.cell? ⟨tb, i, none⟩ = some u → (w1.alloc o).cell? ⟨tb, i, none⟩ = some u := fun o i u hu => (World.cell?_of_block (w := w1) (Below.heap_alloc _ _ _ hl1)).trans hu
      have d4' := fun o => al o 4 _ d4
      have d6' := fun o => al o 6 _ d6
      have d7' := fun o => al o 7 _ d7
      have dp' := fun o => al o n _ dp
      have fz' : ∀ (o : Obj) i, (w1.alloc o).frozen? ⟨tb, i, none⟩ = false := fun o i => (World.frozen?_of_block (w := w1) (Below.heap_alloc _ _ _ hl1)).trans (fz1 i)
      have B1 := Lib.hid b1
      clear al hl1
      clear hw1 b1 cn cm ct co fz cp
      go_region
      obtain ⟨w2, hw2⟩ : ∃ w2, w2 = ((w1.alloc (.cells #[.int .i64 ((t.opened : Int) + 1), .int .i64 block, .int .i64 (clock + (t.term : Int)), .int .i64 0, .slice none 0 0] 61)).setCell ⟨tb, n, none⟩ (.pointer (some ⟨w1.heap.size, 0, none⟩))) := ⟨_, rfl⟩
      have hl1 : tb < w1.heap.size := lt_of_block B1.out
      have b2 : w2.heap[tb]? = some (.cells #[ptrV (m.bs ++ [w1.heap.size])[0]?, ptrV (m.bs ++ [w1.heap.size])[1]?, ptrV (m.bs ++ [w1.heap.size])[2]?, ptrV (m.bs ++ [w1.heap.size])[3]?, .int .i64 n, .int .i64 t.most, .int .i64 t.term, .int .i64 ((t.opened : Int) + 1), m.ev] 57 (0, 0)) := by
        rw [hw2]
        exact setptr (B := w1.heap.size) ((Below.heap_alloc w1 _ tb hl1).trans B1.out) (HH.out.lb.trans HN.out.symm) hn4
      have hs1 : w1.heap.size = w.heap.size := by rw [HW1.out]; simp
      have b3 : w2.heap[w1.heap.size]? = some (.cells #[.int .i64 ((t.opened : Int) + 1), .int .i64 block, .int .i64 (clock + (t.term : Int)), .int .i64 0, .slice none 0 0] 61 (0, 0)) := by
        rw [hw2, Below.heap_setCell _ _ _ _ (by show w1.heap.size ≠ tb; omega)]
        exact heap_alloc_new w1 _
      have keep : ∀ k, k < w.heap.size → k ≠ tb → w2.heap[k]? = w.heap[k]? := fun k hk hne => by
        rw [hw2, Below.heap_setCell _ _ _ _ hne, Below.heap_alloc _ _ _ (by omega), HW1.out, Below.heap_setCell _ _ _ _ hne]
        rfl
      have hos : w2.os = w.os := by rw [hw2, HW1.out]; rfl
      have htp : w2.tape = w.tape := by rw [hw2, HW1.out]; rfl
      have hou : w2.output = w.output := by rw [hw2, HW1.out]; rfl
      have hsz : w.heap.size ≤ w2.heap.size := by rw [hw2]; simp; omega
      rw [← hw2]
      rw [hs1] at b2 b3
      have e4 : w2.cell? ⟨tb, 4, none⟩ = some (.int .i64 n) := by simp only [World.cell?, b2]; rfl
      have e7 : ∀ u, (w2.setCell ⟨tb, 4, none⟩ u).drew.cell? ⟨tb, 7, none⟩ = some (.int .i64 ((t.opened : Int) + 1)) := fun u => by
        show (w2.setCell ⟨tb, 4, none⟩ u).cell? ⟨tb, 7, none⟩ = _
        rw [World.cell?_setCell_other _ _ _ _ (by simp)]
        simp only [World.cell?, b2]; rfl
      have e7' : w2.cell? ⟨tb, 7, none⟩ = some (.int .i64 ((t.opened : Int) + 1)) := by simp only [World.cell?, b2]; rfl
      have fz2 : ∀ i, w2.frozen? ⟨tb, i, none⟩ = false := fun i => by simp only [World.frozen?, b2]; rfl
      have B2 := Lib.hid b2
      have B3 := Lib.hid b3
      have KEEP := Lib.hid keep
      clear d4' d6' d7' dp' fz' d4 d6 d7 dp fz1 hw2 b2 b3 keep hs1 hl1
      go_wp2_with fail
      go_ret2
      rw [HR.out]
      have hn := HN.out
      refine ⟨rfl, _, (HH.out.opened_ (x := ⟨(t.opened : Int) + 1, block, clock + t.term, 0, []⟩) (by rw [← hn]; exact hrm) rfl ?_ ?_ (fun k hk hne => (Below.heap_setCell _ _ _ _ hne).trans (KEEP.out k hk hne)) hos htp hou (by simpa using hsz)).imp (fun h => h.kept fun _ _ => rfl) (fun h => h.trans (Turned.drewN _ _ 1 _ _))⟩
      · rw [← hn]
        simp only [World.setCell, Array.getElem?_modify, if_pos rfl, B2.out]
        rfl
      · rw [Below.heap_setCell _ _ _ _ (by show w.heap.size ≠ tb; have := HLT.out; omega)]
        exact B3.out
end Go.Proofs.Ytdikajbbolecoaa

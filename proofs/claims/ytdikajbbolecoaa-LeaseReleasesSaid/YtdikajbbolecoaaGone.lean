/-
  What drop leaves of the table.
-/
import Derived.Test.YtdikajbbolecoaaDrop
namespace Go.Proofs.Ytdikajbbolecoaa
open Go.RowKit
set_option linter.unusedVariables false
set_option linter.unusedSimpArgs false

/-- What lies at those that stay. -/
def pick {α : Type} (P : Sess → Bool) : List Sess → List α → List α
  | x :: l, a :: az => if P x then pick P l az else a :: pick P l az
  | _, _ => []
def idxP (P : Sess → Bool) : List Sess → Nat → Nat
  | [], j => j
  | x :: l, j => if P x then idxP P l j + 1 else match j with
    | 0 => 0
    | j + 1 => idxP P l j + 1
section
variable {α : Type} {P : Sess → Bool}
theorem pick_get : ∀ (l : List Sess) (az : List α) (j : Nat), az.length = l.length → (pick P l az)[j]? = az[idxP P l j]?
  | [], [], j, _ => by simp [pick]
  | x :: l, a :: az, j, h => by
    unfold pick idxP
    have ih := fun j => pick_get l az j (by simpa using h)
    cases hp : P x
    · cases j with
      | zero => simp
      | succ j => simp [ih j]
    · simp [ih j]
theorem idxP_inj : ∀ (l : List Sess) (i j : Nat), idxP P l i = idxP P l j → i = j
  | [], i, j, h => h
  | x :: l, i, j, h => by
    unfold idxP at h
    cases hp : P x
    · simp only [hp] at h
      cases i <;> cases j
      · rfl
      · simp at h
      · simp at h
      · rename_i i j
        have := idxP_inj l i j (by simpa using h)
        omega
    · simp only [hp] at h
      exact idxP_inj l i j (by simpa using h)
theorem pick_sub : ∀ (l : List Sess) (az : List α), (pick P l az).Sublist az
  | [], az => by unfold pick; exact List.nil_sublist _
  | x :: l, [] => by unfold pick; exact List.nil_sublist _
  | x :: l, a :: az => by
    unfold pick
    cases hp : P x
    · simpa using pick_sub l az
    · simpa using (pick_sub l az).trans (List.sublist_cons_self _ _)
theorem pick_self : ∀ l : List Sess, pick P l l = l.filter fun x => !P x
  | [] => rfl
  | x :: l => by
    unfold pick
    rw [pick_self l, List.filter_cons]
    cases hp : P x <;> simp
theorem pick_len : ∀ (l : List Sess) (az : List α), az.length = l.length → (pick P l az).length = (l.filter fun x => !P x).length
  | [], az, _ => by simp [pick]
  | x :: l, a :: az, h => by
    unfold pick
    rw [List.filter_cons]
    have ih := pick_len l az (by simpa using h)
    cases hp : P x <;> simp [ih]
theorem pick_zip : ∀ (l : List Sess) (bs : List Nat), ((bs.zip l).filter fun p => !P p.2).map (·.1) = pick P l bs
  | [], bs => by simp [pick]
  | x :: l, [] => by simp [pick]
  | x :: l, b :: bs => by
    unfold pick
    rw [List.zip_cons_cons, List.filter_cons, ← pick_zip l bs]
    cases hp : P x <;> simp
theorem stay_pick {l : List Sess} {bs : List Nat} {n : Nat} (h1 : bs.length = n) (h2 : l.length = n) : stay P bs l n = pick P l bs := by
  unfold stay
  rw [List.take_of_length_le (by simp; omega), pick_zip]
end

/-- The table while sessions go: its first four cells are free. -/
structure Dropping (w0 : World) (tb : Nat) (m : Mem) (t : Tb) (S : Nat → Prop) (ev : Value) (es : List Int) (w : World) : Prop where
  box : ∃ p0 p1 p2 p3, w.heap[tb]? = some (.cells #[p0, p1, p2, p3, .int .i64 t.l.length, .int .i64 t.most, .int .i64 t.term, .int .i64 t.opened, ev] 57 (0, 0))
  row : OffRow w 3 1 ev es.length (flatE es)
  os : w.os = w0.os
  tape : w.tape = w0.tape
  output : w.output = w0.output
  size : w0.heap.size ≤ w.heap.size
  block : ∀ k, k < w0.heap.size → k ≠ tb → m.ev.ownBlock ≠ some k → ¬ S k → w.heap[k]? = w0.heap[k]?
  own : ∀ k, ev.ownBlock = some k → m.ev.ownBlock = some k ∨ w0.heap.size ≤ k

section
variable {w0 w : World} {tb : Nat} {m : Mem} {t : Tb} {S : Nat → Prop} {ev : Value} {es : List Int}
theorem offRow_ne {e e' : TypeId} {size n : Nat} {v : Value} {xs : List Value} {k : Nat} {cur : Array Value} (h : OffRow w e size v n xs) (hk : w.heap[k]? = some (.cells cur e' (0, 0))) (he : e' ≠ e) : v.ownBlock ≠ some k := fun e1 => by
  rcases h.2 with ⟨rfl, _⟩ | ⟨g, o, cap, cur, rfl, hg, _⟩
  · simp [Value.ownBlock] at e1
  · simp only [Value.ownBlock, Option.some.injEq] at e1
    rw [e1, hk] at hg
    simp at hg
    exact he hg.2
theorem Dropping.ne (h : Dropping w0 tb m t S ev es w) : ev.ownBlock ≠ some tb := by
  obtain ⟨p0, p1, p2, p3, hb⟩ := h.box
  exact offRow_ne h.row hb (by decide)
theorem Dropping.start (h : TableAt w tb m t) : Dropping w tb m t S m.ev t.ended w :=
  ⟨⟨_, _, _, _, h.box⟩, h.ended, rfl, rfl, rfl, Nat.le_refl _, fun _ _ _ _ _ => rfl, fun k hk => .inl hk⟩
theorem Dropping.set (h : Dropping w0 tb m t S ev es w) {k : Nat} (hk : k < 4) (u : Value) : Dropping w0 tb m t S ev es (w.setCell ⟨tb, k, none⟩ u) := by
  have hne := h.ne
  refine ⟨?_, h.row.kept fun k hk => Below.heap_setCell _ _ _ _ (by show k ≠ tb; rintro rfl; exact hne hk), h.os, h.tape, h.output, by simpa using h.size, fun k hk h1 h2 h3 => ?_, h.own⟩
  · obtain ⟨p0, p1, p2, p3, hb⟩ := h.box
    simp only [World.setCell, Array.getElem?_modify, if_pos rfl, hb]
    match k, hk with
    | 0, _ => exact ⟨_, _, _, _, rfl⟩
    | 1, _ => exact ⟨_, _, _, _, rfl⟩
    | 2, _ => exact ⟨_, _, _, _, rfl⟩
    | 3, _ => exact ⟨_, _, _, _, rfl⟩
  · rw [Below.heap_setCell _ _ _ _ h1]
    exact h.block k hk h1 h2 h3

theorem Dropping.done (P : Sess → Bool) (h0 : TableAt w0 tb m t) (hS : ∀ k, Mine tb m k → ¬ S k) (h : Dropping w0 tb m t S ev es w)
    (hc : ∀ k, k < 4 → w.cell? ⟨tb, k, none⟩ = some (ptrV (pick P t.l m.bs)[k]?)) :
    TableAt (w.setCell ⟨tb, 4, none⟩ (.int .i64 (pick P t.l m.bs).length)) tb ⟨pick P t.l m.bs, pick P t.l m.kvs, ev⟩ { t with l := t.l.filter fun x => !P x, ended := es } := by
  have hne := h.ne
  have hpl : (pick P t.l m.bs).length = (t.l.filter fun x => !P x).length := pick_len _ _ h0.lb
  have keep : ∀ k, k ≠ tb → (w.setCell ⟨tb, 4, none⟩ (.int .i64 (pick P t.l m.bs).length)).heap[k]? = w.heap[k]? := fun k hk => Below.heap_setCell _ _ _ _ hk
  have mine : ∀ k, Mine tb m k → k ≠ tb → m.ev.ownBlock ≠ some k → (w.setCell ⟨tb, 4, none⟩ (.int .i64 (pick P t.l m.bs).length)).heap[k]? = w0.heap[k]? := fun k hm h1 h2 =>
    (keep k h1).trans (h.block k (h0.mine_lt k hm) h1 h2 (hS k hm))
  refine { box := ?_, lb := hpl, lk := pick_len _ _ h0.lk, fits := Nat.le_trans (List.length_filter_le _ _) h0.fits, hi := h0.hi, nd := h0.nd.sublist (pick_sub _ _), nk := ?_, slot := ?_, ended := ?_ }
  · obtain ⟨p0, p1, p2, p3, hb⟩ := h.box
    have c0 := hc 0 (by omega)
    have c1 := hc 1 (by omega)
    have c2 := hc 2 (by omega)
    have c3 := hc 3 (by omega)
    simp only [World.cell?, hb] at c0 c1 c2 c3
    simp at c0 c1 c2 c3
    simp only [World.setCell, Array.getElem?_modify, if_pos rfl, hb]
    rw [c0, c1, c2, c3, ← hpl]
    rfl
  · intro i j u v k hu hv hk hk'
    rw [pick_get _ _ _ h0.lk] at hu hv
    exact idxP_inj _ _ _ (h0.nk _ _ u v k hu hv hk hk')
  · intro i b kv x hb hkv hx
    rw [pick_get _ _ _ h0.lb] at hb
    rw [pick_get _ _ _ h0.lk] at hkv
    have hx : (t.l.filter fun x => !P x)[i]? = some x := hx
    rw [← pick_self, pick_get _ _ _ rfl] at hx
    obtain ⟨n1, n2, n3⟩ := h0.slot_ne hb
    have hs := h0.slot _ b kv x hb hkv hx
    refine hs.kept (mine b (.inr (.inl (List.mem_of_getElem? hb))) n1 n3) fun k hk => mine k (.inr (.inr (.inl ⟨kv, List.mem_of_getElem? hkv, hk⟩))) ?_ ?_
    · rintro rfl
      exact offRow_ne hs.row h0.box (by decide) hk
    · intro he
      rcases h0.ended.2 with ⟨e, _⟩ | ⟨g, o, cap, cur, e, hg, _⟩
      · rw [e] at he; simp [Value.ownBlock] at he
      · rw [e] at he
        simp only [Value.ownBlock, Option.some.injEq] at he
        subst he
        exact offRow_ne hs.row hg (by decide) hk
  · exact h.row.kept fun k hk => keep k (by rintro rfl; exact hne hk)

theorem Dropping.turned (P : Sess → Bool) (h0 : TableAt w0 tb m t) (h : Dropping w0 tb m t S ev es w) (u : Value) {B : Nat} (hB : B ≤ w0.heap.size) (hS : ∀ k, S k → B ≤ k) :
    Turned B w0 (w.setCell ⟨tb, 4, none⟩ u) tb m ⟨pick P t.l m.bs, pick P t.l m.kvs, ev⟩ := by
  refine ⟨h.os, h.tape, h.output, by simpa using h.size, fun k hk hm => ?_, fun k hk => ?_⟩
  · rw [Below.heap_setCell _ _ _ _ (show k ≠ tb from fun e => hm (.inl e))]
    exact h.block k (by omega) (fun e => hm (.inl e)) (fun e => hm (.inr (.inr (.inr e)))) (fun e => by have := hS k e; omega)
  · rcases hk with e | e | ⟨kv, hkv, e⟩ | e
    · exact .inl (.inl e)
    · exact .inl (.inr (.inl ((pick_sub _ _).subset e)))
    · exact .inl (.inr (.inr (.inl ⟨kv, (pick_sub _ _).subset hkv, e⟩)))
    · rcases h.own k e with e' | e'
      · exact .inl (.inr (.inr (.inr e')))
      · exact .inr (by omega)
end
end Go.Proofs.Ytdikajbbolecoaa

/-
  Expire.
-/
import Derived.Test.YtdikajbbolecoaaEnds
namespace Go.Proofs.Ytdikajbbolecoaa
open Go.RowKit
set_option linter.unusedVariables false
set_option linter.unusedSimpArgs false

def over (clock : Int) (x : Sess) : Bool := decide (x.dead ≤ clock)
def gone (t : Tb) (clock : Int) (i : Nat) : List Sess := (t.l.take i).filter (over clock)
def flatS (l : List Sess) : List Value := l.flatMap fun x => [.int .i64 x.id, .int .i64 x.block, .int .i64 x.dead, .int .i64 x.last]
theorem flatS_append (l m : List Sess) : flatS (l ++ m) = flatS l ++ flatS m := by unfold flatS; rw [List.flatMap_append]
theorem flatE_append (l m : List Int) : flatE (l ++ m) = flatE l ++ flatE m := by unfold flatE; rw [List.map_append]
theorem gone_succ (t : Tb) (clock : Int) (i : Nat) {x : Sess} (hx : t.l[i]? = some x) : gone t clock (i + 1) = gone t clock i ++ if over clock x then [x] else [] := by
  unfold gone
  rw [List.take_add_one, hx, List.filter_append]
  cases h : over clock x <;> simp [h]
theorem gone_le (t : Tb) (clock : Int) (i : Nat) : (gone t clock i).length ≤ t.l.length := Nat.le_trans (List.length_filter_le _ _) (by rw [List.length_take]; omega)
theorem gone_all (t : Tb) (clock : Int) : gone t clock t.l.length = t.l.filter (over clock) := by unfold gone; rw [List.take_length]

def lastEight (l : List Int) : List Int := l.drop (l.length - 8)
def expireS (t : Tb) (clock : Int) : Tb × List Sess :=
  ({ t with l := t.l.filter fun x => !over clock x, ended := lastEight (t.ended ++ (t.l.filter (over clock)).map (·.id)) }, t.l.filter (over clock))

/-- What stands while sessions end: the table, and the sessions that have. -/
structure Ending_ (w0 : World) (tb : Nat) (m : Mem) (t : Tb) (clock : Int) (cl : Nat) (i : Nat) (w : World) : Prop where
  ex : ∃ ev sv, Dropping w0 tb m t (fun k => k = cl) ev (t.ended ++ (gone t clock i).map (·.id)) w ∧ w.heap[cl]? = some (.cells #[sv] 30 (0, 0)) ∧ OffRow w 29 4 sv (gone t clock i).length (flatS (gone t clock i)) ∧
    ∀ k, sv.ownBlock = some k → w0.heap.size ≤ k

theorem Ending_.set {w0 w : World} {tb cl i : Nat} {m : Mem} {t : Tb} {clock : Int} (hne : cl ≠ tb) (h : Ending_ w0 tb m t clock cl i w) {k : Nat} (hk : k < 4) (u : Value) : Ending_ w0 tb m t clock cl i (w.setCell ⟨tb, k, none⟩ u) := by
  obtain ⟨ev, sv, h1, h2, h3, h4⟩ := h
  obtain ⟨p0, p1, p2, p3, hb⟩ := h1.box
  exact ⟨ev, sv, h1.set hk u, (Below.heap_setCell _ _ _ _ hne).trans h2, h3.kept fun k hk => Below.heap_setCell _ _ _ _ (by show k ≠ tb; rintro rfl; exact offRow_ne h3 hb (by decide) hk), h4⟩

/-- A session is asked: it ends, or stays. -/
theorem ending_step {w0 w : World} {tb cc cl ct : Nat} {m : Mem} {t : Tb} {clock : Int} {i b : Nat} {x : Sess} (h0 : TableAt w0 tb m t) (he8 : t.ended.length ≤ 90) (h : Ending_ w0 tb m t clock cl i w)
    (hcl : ¬ Mine tb m cl) (hcc : w0.heap[cc]? = some (.cells #[.int .i64 clock] 3 (0, 0))) (hct : w0.heap[ct]? = some (.cells #[.pointer (some ⟨tb, 0, none⟩)] 24 (0, 0))) (ncc : ¬ Mine tb m cc ∧ cc ≠ cl) (nct : ¬ Mine tb m ct ∧ ct ≠ cl)
    (hb : m.bs[i]? = some b) (hx : t.l[i]? = some x) :
    Calls Try.prog 23 #[.pointer (some ⟨b, 0, none⟩), .pointer (some ⟨cc, 0, none⟩), .pointer (some ⟨cl, 0, none⟩), .pointer (some ⟨ct, 0, none⟩)] w fun e w' => e = .returned (.bool (over clock x)) ∧ Ending_ w0 tb m t clock cl (i + 1) w' ∧ ∀ k, k < 4 → w'.cell? ⟨tb, k, none⟩ = w.cell? ⟨tb, k, none⟩ := by
  obtain ⟨ev, sv, h1, h2, h3, h4⟩ := h
  obtain ⟨n1, n2, n3⟩ := h0.slot_ne hb
  have hmb : Mine tb m b := .inr (.inl (List.mem_of_getElem? hb))
  have keep : ∀ k u, w0.heap[k]? = some u → ¬ Mine tb m k → k ≠ cl → w.heap[k]? = some u := fun k u hk hm hc =>
    (h1.block k (lt_of_block hk) (fun e => hm (.inl e)) (fun e => hm (.inr (.inr (.inr e)))) hc).trans hk
  obtain ⟨b', kv, hb', hkv, hs⟩ := h0.at_ hx
  rw [hb] at hb'
  cases hb'
  have hbox := (h1.block b hs.lt n1 n3 (fun e => hcl (e ▸ hmb))).trans hs.box
  have hcc' := keep cc _ hcc ncc.1 ncc.2
  have hct' := keep ct _ hct nct.1 nct.2
  have hgs := gone_succ t clock i hx
  by_cases hd : clock < x.dead
  · have ho : over clock x = false := by unfold over; exact decide_eq_false (by omega)
    refine (ends_not b cc cl ct x clock kv w hbox hcc' hd).mono ?_
    rintro e w' ⟨rfl, q, rfl⟩
    rw [ho] at hgs ⊢
    simp only [Bool.false_eq_true, if_false, List.append_nil] at hgs
    refine ⟨rfl, ⟨ev, sv, ?_, h2, ?_, h4⟩, fun _ _ => rfl⟩
    · rw [hgs]; exact ⟨h1.box, h1.row, h1.os, h1.tape, h1.output, h1.size, h1.block, h1.own⟩
    · rw [hgs]; exact h3
  · have ho : over clock x = true := by unfold over; exact decide_eq_true (by omega)
    obtain ⟨p0, p1, p2, p3, htb⟩ := h1.box
    have hgl := gone_le t clock i
    have h5 := h0.fits
    have h6 := h0.hi
    have hclt : cl ≠ tb := fun e => hcl (.inl e)
    refine (ends_one b cc cl ct tb x clock kv sv ev _ _ _ _ p0 p1 p2 p3 _ _ _ _ w hbox hcc' h2 hct' htb h3 h1.row (by omega) (by rw [List.length_append, List.length_map]; omega) hclt hd).mono ?_
    rintro e w' ⟨rfl, sv', ev', g1, g2, g3, g4, g5, g6, g7, g8, g9, g10, g11⟩
    rw [ho] at hgs ⊢
    simp only [if_true] at hgs
    refine ⟨rfl, ⟨ev', sv', ⟨⟨p0, p1, p2, p3, g2⟩, ?_, g5.trans h1.os, g6.trans h1.tape, g7.trans h1.output, Nat.le_trans h1.size g8, fun k hk e1 e2 e3 => ?_, fun k hk => ?_⟩, g1, ?_, fun k hk => ?_⟩, fun k hk => ?_⟩
    · rw [hgs, List.map_append, ← List.append_assoc, flatE_append, List.length_append]
      exact g4
    · refine (g9 k (Nat.lt_of_lt_of_le hk h1.size) e1 e3 (fun e => ?_) (fun e => ?_)).trans (h1.block k hk e1 e2 e3)
      · have := h4 k e; omega
      · rcases h1.own k e with e' | e'
        · exact e2 e'
        · omega
    · rcases g11 k hk with e | e
      · exact h1.own k e
      · exact .inr (Nat.le_trans h1.size e)
    · rw [hgs, flatS_append, List.length_append]
      exact g3
    · rcases g10 k hk with e | e
      · exact h4 k e
      · exact Nat.le_trans h1.size e
    · match k, hk with
      | 0, _ => simp [World.cell?, g2, htb]
      | 1, _ => simp [World.cell?, g2, htb]
      | 2, _ => simp [World.cell?, g2, htb]
      | 3, _ => simp [World.cell?, g2, htb]
end Go.Proofs.Ytdikajbbolecoaa

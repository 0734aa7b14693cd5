/-
  Expire's closure: one session ends, or stays.
-/
import Derived.Test.YtdikajbbolecoaaRelease
import Derived.Deep.RegionLaw
import Derived.Deep.RegionHeld
namespace Go.Proofs.Ytdikajbbolecoaa
open Go.RowKit
set_option linter.unusedVariables false
set_option linter.unusedSimpArgs false

theorem info29 : (Try.prog.info? 29).map (fun i => (i.zero, i.size, i.bytes)) = some (some (.agg #[.int .i64 0, .int .i64 0, .int .i64 0, .int .i64 0]), 4, 32) := by kernel_rfl
theorem info3 : (Try.prog.info? 3).map (fun i => (i.zero, i.size, i.bytes)) = some (some (.int .i64 0), 1, 8) := by kernel_rfl

/-- An append onto a row that a slice holds from an offset on, in a drawn region. -/
theorem step_append_off {P : Program} {ops : Array Oper} {o : Oper} {a : Act} {w : World} {K : Act → World → Prop} {Q : Exit → Act → World → Prop} {E : Prop} (hg : o.guard = none)
    (s x : Operand) (t tx e : TypeId) (ho : o.op = .call { callee := .builtin .append, args := #[s, x], argTypes := #[t, tx] })
    (i : TypeInfo) (z : Value) (size bytes : Nat) (ht : P.underlying t = some (.slice e)) (hi : P.info? e = some i) (hz : i.zero = some z)
    (hsize : i.size = size) (hby : i.bytes = bytes) (hzs : z.cells.size = size) (v : Value) (n : Nat) (xs : List Value) (hv : a.eval s = v) (hown : OffRow w e size v n xs)
    (m : Nat) (news : List Value) (hs : Src P size tx (a.eval x) m news w) (hm0 : 0 < m) (h63 : n + m ≤ maxLen) (hbytes : (n + m) * bytes ≤ 140737488355328)
    (hK : ∀ v' w', OffRow w' e size v' (n + m) (xs ++ news) → w.grownBy w' v.ownBlock → (v'.ownBlock = v.ownBlock ∨ v'.ownBlock = some w.heap.size) → K (a.put o.dst v') w') :
    if Region.wanted o (yielded ops a.tmps) = true then Oper.wp P o a w K Q else E := by
  obtain ⟨v', w', hr, h1, h2, h3⟩ := run_append_off (P := P) (w := w) t tx o.type e i z size bytes ht hi hz hsize hby hzs v n xs hown (a.eval x) m hm0 news hs h63 hbytes
  exact step_run hg (exec_append ho hv rfl hr) (hK v' w' h1 h2 h3)

theorem offRow_same {w w' : World} {e : TypeId} {size n : Nat} {v : Value} {xs : List Value} (h : OffRow w e size v n xs) (h2 : ∀ k, k < w.heap.size → w'.heap[k]? = w.heap[k]?) : OffRow w' e size v n xs :=
  h.kept fun k hk => h2 k (h.lt k hk)
theorem offRow_apart {w : World} {e e' : TypeId} {size size' n n' : Nat} {v v' : Value} {xs xs' : List Value} (h : OffRow w e size v n xs) (h' : OffRow w e' size' v' n' xs') (he : e' ≠ e) (k : Nat) (hk : v'.ownBlock = some k) : v.ownBlock ≠ some k := by
  rcases h'.2 with ⟨rfl, _⟩ | ⟨g, o, cap, cur, rfl, hg, _⟩
  · simp [Value.ownBlock] at hk
  · simp only [Value.ownBlock, Option.some.injEq] at hk
    subst hk
    exact offRow_ne h hg he

theorem ends_not (b cc cl ct : Nat) (x : Sess) (clock : Int) (kv : Value) (w : World) (hb : w.heap[b]? = some (.cells #[.int .i64 x.id, .int .i64 x.block, .int .i64 x.dead, .int .i64 x.last, kv] 61 (0, 0)))
    (hc : w.heap[cc]? = some (.cells #[.int .i64 clock] 3 (0, 0))) (hd : clock < x.dead) :
    Calls Try.prog 23 #[.pointer (some ⟨b, 0, none⟩), .pointer (some ⟨cc, 0, none⟩), .pointer (some ⟨cl, 0, none⟩), .pointer (some ⟨ct, 0, none⟩)] w fun e w' => e = .returned (.bool false) ∧ ∃ q, w' = w.drewN q := by
  have q2 : w.cell? ⟨b, 2, none⟩ = some (.int .i64 x.dead) := by simp [World.cell?, hb]
  have q3 := cell_of_one hc
  have y1 : decide (clock < x.dead) = true := decide_eq_true hd
  clear hb hc
  go_enter Try.func23, Try.ntmps23
  go_wp2_with fail
  go_quiet (fail)
  go_wp2_with fail
  go_ret
  exact ⟨rfl, nq, rfl⟩

/-- Behind the append onto the sessions that end. -/
structure Told (w : World) (cl : Nat) (sv : Value) (n : Nat) (xs : List Value) (wx : World) : Prop where
  ex : ∃ v1, wx.heap[cl]? = some (.cells #[v1] 30 (0, 0)) ∧ OffRow wx 29 4 v1 n xs ∧ ∀ k, v1.ownBlock = some k → sv.ownBlock = some k ∨ w.heap.size ≤ k
  keep : ∀ k, k < w.heap.size → k ≠ cl → sv.ownBlock ≠ some k → wx.heap[k]? = w.heap[k]?
  os : wx.os = w.os
  tape : wx.tape = w.tape
  output : wx.output = w.output
  size : w.heap.size ≤ wx.heap.size

theorem told_of {w w1 : World} {cl : Nat} {sv v1 : Value} {n : Nat} {xs : List Value} {u : Value} (HL : w.heap[cl]? = some (.cells #[u] 30 (0, 0))) (hne : sv.ownBlock ≠ some cl) (h1 : OffRow w1 29 4 v1 n xs)
    (keep : ∀ k, k < w.heap.size → sv.ownBlock ≠ some k → w1.heap[k]? = w.heap[k]?) (hn : ∀ k, v1.ownBlock = some k → sv.ownBlock = some k ∨ w.heap.size ≤ k) (ho : w1.os = w.os) (ht : w1.tape = w.tape) (hp : w1.output = w.output) (hs : w.heap.size ≤ w1.heap.size) :
    Told w cl sv n xs (w1.setCell ⟨cl, 0, none⟩ v1) := by
  have nlt : cl < w.heap.size := lt_of_block HL
  refine ⟨⟨v1, ?_, h1.kept fun k hk => Below.heap_setCell _ _ _ _ ?_, hn⟩, fun k hk h1 h2 => (Below.heap_setCell _ _ _ _ h1).trans (keep k hk h2), ho, ht, hp, by simpa using hs⟩
  · simp only [World.setCell, Array.getElem?_modify, if_pos rfl]
    rw [keep cl nlt hne, HL]
    rfl
  · show k ≠ cl
    rintro rfl
    rcases hn _ hk with e | e
    · exact hne e
    · omega

structure EndedIn (w wc : World) (tb cl : Nat) (ev : Value) (n : Nat) (es new : List Value) (x0 x1 x2 x3 x4 x5 x6 x7 : Value) (wx : World) : Prop where
  ex : ∃ v1, wx.heap[tb]? = some (.cells #[x0, x1, x2, x3, x4, x5, x6, x7, v1] 57 (0, 0)) ∧ OffRow wx 3 1 v1 (n + 1) (es ++ new) ∧ ∀ k, v1.ownBlock = some k → ev.ownBlock = some k ∨ w.heap.size ≤ k
  keep : ∀ k, k < wc.heap.size → k ≠ tb → ev.ownBlock ≠ some k → wx.heap[k]? = wc.heap[k]?
  os : wx.os = wc.os
  tape : wx.tape = wc.tape
  output : wx.output = wc.output
  size : wc.heap.size ≤ wx.heap.size

theorem endedIn_of {w wc w1 : World} {tb cl : Nat} {ev v1 : Value} {n : Nat} {es new : List Value} {x0 x1 x2 x3 x4 x5 x6 x7 : Value} (h : wc.heap[tb]? = some (.cells #[x0, x1, x2, x3, x4, x5, x6, x7, ev] 57 (0, 0))) (hne : ev.ownBlock ≠ some tb)
    (h1 : OffRow w1 3 1 v1 (n + 1) (es ++ new)) (keep : ∀ k, k < wc.heap.size → ev.ownBlock ≠ some k → w1.heap[k]? = wc.heap[k]?) (hn : ∀ k, v1.ownBlock = some k → ev.ownBlock = some k ∨ wc.heap.size ≤ k) (hw : w.heap.size ≤ wc.heap.size)
    (ho : w1.os = wc.os) (ht : w1.tape = wc.tape) (hp : w1.output = wc.output) (hs : wc.heap.size ≤ w1.heap.size) :
    EndedIn w wc tb cl ev n es new x0 x1 x2 x3 x4 x5 x6 x7 (w1.setCell ⟨tb, 8, none⟩ v1) := by
  have nlt : tb < wc.heap.size := lt_of_block h
  refine ⟨⟨v1, ?_, h1.kept fun k hk => Below.heap_setCell _ _ _ _ ?_, fun k hk => (hn k hk).imp id (by omega)⟩, fun k hk h1 h2 => (Below.heap_setCell _ _ _ _ h1).trans (keep k hk h2), ho, ht, hp, by simpa using hs⟩
  · simp only [World.setCell, Array.getElem?_modify, if_pos rfl]
    rw [keep tb nlt hne, h]
    rfl
  · show k ≠ tb
    rintro rfl
    rcases hn _ hk with e | e
    · exact hne e
    · omega

theorem src_new (w : World) (i : Int) : Src Try.prog 1 55 (.slice (some ⟨w.heap.size, 0, none⟩) 1 1) 1 [.int .i64 i] (w.drew.alloc (.cells #[.int .i64 i] 3)) := by
  have h := heap_alloc_new w.drew (.cells #[.int .i64 i] 3)
  have hc : (w.drew.alloc (.cells #[.int .i64 i] 3)).cell? ⟨w.heap.size, 0, none⟩ = some (.int .i64 i) := cell_of_one h
  refine Src.ofSlice _ Try.underlying55 ⟨w.heap.size, 0, none⟩ 1 1 _ rfl (fun j u hu => ?_) (by simp [Value.oneCell'])
  rw [addr_add]
  cases j with
  | zero => simp only [List.getElem?_cons_zero, Option.some.injEq] at hu; rw [← hu]; simpa using hc
  | succ j => simp at hu

set_option maxHeartbeats 2000000 in
theorem ends_one (b cc cl ct tb : Nat) (x : Sess) (clock : Int) (kv sv ev : Value) (ns ne : Nat) (xs es : List Value) (x0 x1 x2 x3 x4 x5 x6 x7 : Value) (w : World)
    (hb : w.heap[b]? = some (.cells #[.int .i64 x.id, .int .i64 x.block, .int .i64 x.dead, .int .i64 x.last, kv] 61 (0, 0)))
    (hc : w.heap[cc]? = some (.cells #[.int .i64 clock] 3 (0, 0))) (hl : w.heap[cl]? = some (.cells #[sv] 30 (0, 0))) (ht : w.heap[ct]? = some (.cells #[.pointer (some ⟨tb, 0, none⟩)] 24 (0, 0)))
    (htb : w.heap[tb]? = some (.cells #[x0, x1, x2, x3, x4, x5, x6, x7, ev] 57 (0, 0))) (hs : OffRow w 29 4 sv ns xs) (he : OffRow w 3 1 ev ne es) (hns : ns ≤ 100) (hne : ne ≤ 100)
    (hcl : cl ≠ tb) (hd : ¬ clock < x.dead) :
    Calls Try.prog 23 #[.pointer (some ⟨b, 0, none⟩), .pointer (some ⟨cc, 0, none⟩), .pointer (some ⟨cl, 0, none⟩), .pointer (some ⟨ct, 0, none⟩)] w fun e w' => e = .returned (.bool true) ∧ ∃ sv' ev', w'.heap[cl]? = some (.cells #[sv'] 30 (0, 0)) ∧
      w'.heap[tb]? = some (.cells #[x0, x1, x2, x3, x4, x5, x6, x7, ev'] 57 (0, 0)) ∧ OffRow w' 29 4 sv' (ns + 1) (xs ++ [.int .i64 x.id, .int .i64 x.block, .int .i64 x.dead, .int .i64 x.last]) ∧ OffRow w' 3 1 ev' (ne + 1) (es ++ [.int .i64 x.id]) ∧
      w'.os = w.os ∧ w'.tape = w.tape ∧ w'.output = w.output ∧ w.heap.size ≤ w'.heap.size ∧ (∀ k, k < w.heap.size → k ≠ tb → k ≠ cl → sv.ownBlock ≠ some k → ev.ownBlock ≠ some k → w'.heap[k]? = w.heap[k]?) ∧
      (∀ k, sv'.ownBlock = some k → sv.ownBlock = some k ∨ w.heap.size ≤ k) ∧ (∀ k, ev'.ownBlock = some k → ev.ownBlock = some k ∨ w.heap.size ≤ k) := by
  have q0 : w.cell? ⟨b, 0, none⟩ = some (.int .i64 x.id) := by simp [World.cell?, hb]
  have q1 : w.cell? ⟨b, 1, none⟩ = some (.int .i64 x.block) := by simp [World.cell?, hb]
  have q2 : w.cell? ⟨b, 2, none⟩ = some (.int .i64 x.dead) := by simp [World.cell?, hb]
  have q2' : w.cell? ⟨b, 3, none⟩ = some (.int .i64 x.last) := by simp [World.cell?, hb]
  have q3 := cell_of_one hc
  have q4 := cell_of_one hl
  have q5 := cell_of_one ht
  have y1 : decide (clock < x.dead) = false := decide_eq_false hd
  have HB := Lib.hid hb
  have HL := Lib.hid hl
  have HT := Lib.hid ht
  have HTB := Lib.hid htb
  have HS := Lib.hid hs
  have HE := Lib.hid he
  obtain ⟨i29, hi29, hz29, hs29, hb29⟩ := info_parts info29
  obtain ⟨i3, hi3, hz3, hs3, hb3⟩ := info_parts info3
  clear hb hc hl ht htb hs he hd
  go_enter Try.func23, Try.ntmps23
  go_wp2_with fail
  go_quiet (fail)
  go_upto_region 3 with fail
  have nlt : cl < w.heap.size := lt_of_block HL.out
  have ntb : tb < w.heap.size := lt_of_block HTB.out
  have q4' : ∀ u, ((w.drewN (nq + 1)).alloc u).cell? ⟨cl, 0, none⟩ = some sv := fun u => (World.cell?_of_block (w := w) (Below.heap_alloc _ _ _ nlt)).trans q4
  have nb : b < w.heap.size := lt_of_block HB.out
  have nct : ct < w.heap.size := lt_of_block HT.out
  have g1 : sv.ownBlock ≠ some cl := offRow_ne HS.out HL.out (by decide)
  have g2 : sv.ownBlock ≠ some tb := offRow_ne HS.out HTB.out (by decide)
  have g3 : sv.ownBlock ≠ some b := offRow_ne HS.out HB.out (by decide)
  have g4 : sv.ownBlock ≠ some ct := offRow_ne HS.out HT.out (by decide)
  have g5 : ev.ownBlock ≠ some cl := offRow_ne HE.out HL.out (by decide)
  have g6 : ev.ownBlock ≠ some tb := offRow_ne HE.out HTB.out (by decide)
  have g8 : ∀ k, ev.ownBlock = some k → sv.ownBlock ≠ some k := offRow_apart HS.out HE.out (by decide)
  have G1 := Lib.hid g1
  have G2 := Lib.hid g2
  have G3 := Lib.hid g3
  have G4 := Lib.hid g4
  have G5 := Lib.hid g5
  have G6 := Lib.hid g6
  have G8 := Lib.hid g8
  clear g1 g2 g3 g4 g5 g6 g8
  go_cut [19] (fun s19 wx => Told w cl sv (ns + 1) (xs ++ [.int .i64 x.id, .int .i64 x.block, .int .i64 x.dead, .int .i64 x.last]) wx)
  case first =>
    go_region_law (refine step_append_off rfl (.tmp 13) (.tmp 18) 30 30 29 rfl i29 _ 4 32 Try.underlying30 hi29 hz29 hs29 hb29 rfl sv ns xs rfl (offRow_same HS.out fun k hk => Below.heap_alloc _ _ _ hk) 1 [.int .i64 x.id, .int .i64 x.block, .int .i64 x.dead, .int .i64 x.last] (Src.ofSlice _ Try.underlying30 ⟨w.heap.size, 0, none⟩ 1 1 _ rfl (by intro j u hu; rw [addr_add]; match j with | 0 => simp_all [World.cell?, World.alloc] | 1 => simp_all [World.cell?, World.alloc] | 2 => simp_all [World.cell?, World.alloc] | 3 => simp_all [World.cell?, World.alloc]) (by simp [Value.oneCell'])) (by omega) (by unfold maxLen; omega) (by omega) ?_;
                            intro v1 w1 ho1 hg1 hn1; obtain ⟨a1, cap1, rfl⟩ := ho1.shape;
                            have keep1 : ∀ k, k < w.heap.size → sv.ownBlock ≠ some k → w1.heap[k]? = w.heap[k]? := fun k hk hne => (hg1.block k (by simp; omega) (fun e => hne e.symm)).trans (Below.heap_alloc _ _ _ hk);
                            have r1 : w1.cell? ⟨cl, 0, none⟩ = some sv := cell_of_one ((keep1 cl nlt G1.out).trans HL.out);
                            have r2 : w1.frozen? ⟨cl, 0, none⟩ = false := free_of_one ((keep1 cl nlt G1.out).trans HL.out);
                            have KEEP1 := Lib.hid keep1;
                            have HO1 := Lib.hid ho1;
                            have HG1 := Lib.hid hg1;
                            have HN1 := Lib.hid hn1;
                            clear keep1 ho1 hg1 hn1)
    all_goals
      go_wp2_with fail
      go_meet
      refine told_of HL.out G1.out HO1.out KEEP1.out (fun k hk => ?_) HG1.out.os HG1.out.tape HG1.out.output (Nat.le_trans (by simp) HG1.out.size)
      rcases HN1.out with e | e
      · exact .inl (e ▸ hk)
      · rw [e] at hk; simp at hk; exact .inr (by omega)
  case rest =>
    rename World => wd
    obtain ⟨⟨v1, ecl, ho1, hn1⟩, keep2, hos, htp, hou, hsz⟩ := hcut
    have ebb := keep2 b nb (fun e => by rw [e] at HB; have := HB.out; rw [HL.out] at this; simp at this) G3.out
    have etb := keep2 tb ntb (Ne.symm hcl) G2.out
    have ect := keep2 ct nct (fun e => by rw [e] at HT; have := HT.out; rw [HL.out] at this; simp at this) G4.out
    have he2 : OffRow wd 3 1 ev ne es := HE.out.kept fun k hk => keep2 k (HE.out.lt k hk) (by rintro rfl; exact G5.out hk) (G8.out k hk)
    rw [HB.out] at ebb
    rw [HTB.out] at etb
    rw [HT.out] at ect
    have q0 : wd.cell? ⟨b, 0, none⟩ = some (.int .i64 x.id) := by simp [World.cell?, ebb]
    have q5 := cell_of_one ect
    have q8 : wd.cell? ⟨tb, 8, none⟩ = some ev := by simp [World.cell?, etb]
    have f8 : wd.frozen? ⟨tb, 8, none⟩ = false := by simp [World.frozen?, etb]
    have mtb : tb < wd.heap.size := Nat.lt_of_lt_of_le ntb hsz
    have mct : ct < wd.heap.size := Nat.lt_of_lt_of_le nct hsz
    have q5' : ∀ u, (wd.drew.alloc u).cell? ⟨ct, 0, none⟩ = some (.pointer (some ⟨tb, 0, none⟩)) := fun u => (World.cell?_of_block (w := wd) (Below.heap_alloc _ _ _ mct)).trans q5
    have q8' : ∀ u, (wd.drew.alloc u).cell? ⟨tb, 8, none⟩ = some ev := fun u => (World.cell?_of_block (w := wd) (Below.heap_alloc _ _ _ mtb)).trans q8
    have HE2 := Lib.hid he2
    have ECL := Lib.hid ecl
    have ETB := Lib.hid etb
    have ECT := Lib.hid ect
    have HO1 := Lib.hid ho1
    have HN1 := Lib.hid hn1
    have KEEP2 := Lib.hid keep2
    clear ecl ho1 hn1 keep2 ebb etb ect he2 q4'
    go_upto_region 4 with fail
    go_cut [31] (fun s31 wx => EndedIn w wd tb cl ev ne es [.int .i64 x.id] x0 x1 x2 x3 x4 x5 x6 x7 wx)
    case first =>
      have SRC : Hid (Src Try.prog 1 55 (.slice (some ⟨wd.heap.size, 0, none⟩) 1 1) 1 [.int .i64 x.id] (wd.drew.alloc (.cells #[.int .i64 x.id] 3))) := Lib.hid (src_new wd x.id)
      have G9 := Lib.hid (And.intro (fun e => offRow_ne HE.out HT.out (by decide) e) (fun e => offRow_ne HE.out HB.out (by decide) e) : ev.ownBlock ≠ some ct ∧ ev.ownBlock ≠ some b)
      have G10 : Hid (tb ≠ ct ∧ tb ≠ b) := Lib.hid ⟨fun e => by have := HTB.out; rw [e, HT.out] at this; simp at this, fun e => by have := HTB.out; rw [e, HB.out] at this; simp at this⟩
      refine wp_region_held_drew (S := fun w' : World => w'.cell? ⟨ct, 0, none⟩ = some (.pointer (some ⟨tb, 0, none⟩)) ∧ w'.cell? ⟨b, 0, none⟩ = some (.int .i64 x.id)) (by kernel_rfl) ⟨q5, q0⟩ (fun hH => ?_)
      refine wpAnyH_take (i := 0) (v := .pointer (some ⟨tb, 0, none⟩)) rfl (by kernel_rfl) (by kernel_rfl) (by kernel_rfl) (fun _ _ _ h => h) (Or.inl ⟨by rfl, ?_⟩) hH ?_
      · rintro w ⟨q1, q2⟩
        go_simp
      try simp only [Act.put, List.setIfInBounds_toArray, List.set_cons_zero, List.set_cons_succ]
      refine wpAnyH_take (i := 1) (v := .pointer (some ⟨tb, 0, none⟩)) rfl (by kernel_rfl) (by kernel_rfl) (by kernel_rfl) (fun _ _ _ h => h) (Or.inl ⟨by rfl, ?_⟩) hH ?_
      · rintro w ⟨q1, q2⟩
        go_simp
      try simp only [Act.put, List.setIfInBounds_toArray, List.set_cons_zero, List.set_cons_succ]
      refine wpAnyH_take (i := 2) (v := .pointer (some ⟨tb, 0, none⟩)) rfl (by kernel_rfl) (by kernel_rfl) (by kernel_rfl) (fun _ _ _ h => h) (Or.inl ⟨by rfl, ?_⟩) hH ?_
      · rintro w ⟨q1, q2⟩
        go_simp
      try simp only [Act.put, List.setIfInBounds_toArray, List.set_cons_zero, List.set_cons_succ]
      refine wpAnyH_take (i := 3) (v := .pointer (some ⟨tb, 8, none⟩)) rfl (by kernel_rfl) (by kernel_rfl) (by kernel_rfl) (fun _ _ _ h => h) (Or.inl ⟨by rfl, ?_⟩) hH ?_
      · rintro w ⟨q1, q2⟩
        go_simp
      try simp only [Act.put, List.setIfInBounds_toArray, List.set_cons_zero, List.set_cons_succ]
      refine wpAnyH_take (i := 5) (v := .pointer (some ⟨b, 0, none⟩)) rfl (by kernel_rfl) (by kernel_rfl) (by kernel_rfl) (fun _ _ _ h => h) (Or.inl ⟨by rfl, ?_⟩) hH ?_
      · rintro w ⟨q1, q2⟩
        go_simp
      try simp only [Act.put, List.setIfInBounds_toArray, List.set_cons_zero, List.set_cons_succ]
      refine wpAnyH_take (i := 6) (v := .pointer (some ⟨b, 0, none⟩)) rfl (by kernel_rfl) (by kernel_rfl) (by kernel_rfl) (fun _ _ _ h => h) (Or.inl ⟨by rfl, ?_⟩) hH ?_
      · rintro w ⟨q1, q2⟩
        go_simp
      try simp only [Act.put, List.setIfInBounds_toArray, List.set_cons_zero, List.set_cons_succ]
      refine wpAnyH_take (i := 7) (v := .pointer (some ⟨b, 0, none⟩)) rfl (by kernel_rfl) (by kernel_rfl) (by kernel_rfl) (fun _ _ _ h => h) (Or.inl ⟨by rfl, ?_⟩) hH ?_
      · rintro w ⟨q1, q2⟩
        go_simp
      try simp only [Act.put, List.setIfInBounds_toArray, List.set_cons_zero, List.set_cons_succ]
      refine wpAnyH_take (i := 8) (v := .pointer (some ⟨b, 0, none⟩)) rfl (by kernel_rfl) (by kernel_rfl) (by kernel_rfl) (fun _ _ _ h => h) (Or.inl ⟨by rfl, ?_⟩) hH ?_
      · rintro w ⟨q1, q2⟩
        go_simp
      try simp only [Act.put, List.setIfInBounds_toArray, List.set_cons_zero, List.set_cons_succ]
      refine wpAnyH_take (i := 9) (v := .int .i64 x.id) rfl (by kernel_rfl) (by kernel_rfl) (by kernel_rfl) (fun _ _ _ h => h) (Or.inl ⟨by rfl, ?_⟩) hH ?_
      · rintro w ⟨q1, q2⟩
        go_simp
      try simp only [Act.put, List.setIfInBounds_toArray, List.set_cons_zero, List.set_cons_succ]
      have HhH := Lib.hid hH
      have KA : Hid (∀ (W : World) (o : Obj), (W.cell? ⟨ct, 0, none⟩ = some (.pointer (some ⟨tb, 0, none⟩)) ∧ W.cell? ⟨b, 0, none⟩ = some (.int .i64 x.id)) → ((W.alloc o).cell? ⟨ct, 0, none⟩ = some (.pointer (some ⟨tb, 0, none⟩)) ∧ (W.alloc o).cell? ⟨b, 0, none⟩ = some (.int .i64 x.id))) := Lib.hid (by
        rintro W o ⟨q1, q2⟩
        exact ⟨by rw [World.cell?_alloc_some _ _ _ (by simp [q1])]; exact q1, by rw [World.cell?_alloc_some _ _ _ (by simp [q2])]; exact q2⟩)
      refine wpAnyH_ready (rs := [4, 10]) (by kernel_rfl) (by simp) ?_
      refine AllReadyH.cons rfl (fun K' hK => ?_) (AllReadyH.cons rfl (fun K' hK => ?_) AllReadyH.nil)
      · go_simp
        refine hK.out _ _ HhH.out (fun hHeld => ?_)
        clear hK K' hHeld hH
        try simp only [Act.put, List.setIfInBounds_toArray, List.set_cons_zero, List.set_cons_succ]
        refine wpAnyH_ready (rs := [10]) (by kernel_rfl) (by simp) ?_
        refine AllReadyH.cons rfl (fun K' hK => ?_) AllReadyH.nil
        go_simp
        refine hK.out _ _ (KA.out _ _ HhH.out) (fun hHeld => ?_)
        clear hK K' hHeld
        try simp only [Act.put, List.setIfInBounds_toArray, List.set_cons_zero, List.set_cons_succ]
        refine wpAnyH_ready (rs := [11]) (by kernel_rfl) (by simp) ?_
        refine AllReadyH.cons rfl (fun K' hK => ?_) AllReadyH.nil
        refine step_append_off rfl (.tmp 24) (.tmp 30) 55 55 3 rfl i3 _ 1 8 Try.underlying55 hi3 hz3 hs3 hb3 rfl ev ne es rfl (offRow_same HE2.out fun k hk => Below.heap_alloc _ _ _ hk) 1 [.int .i64 x.id] SRC.out (by omega) (by unfold maxLen; omega) (by omega) ?_
        intro v1 w1 ho1 hg1 hn1
        obtain ⟨a1, cap1, rfl⟩ := ho1.shape
        have keep1 : ∀ k, k < wd.heap.size → ev.ownBlock ≠ some k → w1.heap[k]? = wd.heap[k]? := fun k hk hne => (hg1.block k (by simp; omega) (fun e => hne e.symm)).trans (Below.heap_alloc _ _ _ hk)
        have r1 : w1.cell? ⟨tb, 8, none⟩ = some ev := (World.cell?_of_block (w := wd) (keep1 tb mtb G6.out)).trans q8
        have r2 : w1.frozen? ⟨tb, 8, none⟩ = false := (World.frozen?_of_block (w := wd) (keep1 tb mtb G6.out)).trans f8
        have hH : w1.cell? ⟨ct, 0, none⟩ = some (.pointer (some ⟨tb, 0, none⟩)) ∧ w1.cell? ⟨b, 0, none⟩ = some (.int .i64 x.id) := ⟨(World.cell?_of_block (w := wd) (keep1 ct mct G9.out.1)).trans q5, (World.cell?_of_block (w := wd) (keep1 b (Nat.lt_of_lt_of_le nb hsz) G9.out.2)).trans q0⟩
        have hH2 : Hid (∀ u, (w1.setCell ⟨tb, 8, none⟩ u).cell? ⟨ct, 0, none⟩ = some (.pointer (some ⟨tb, 0, none⟩)) ∧ (w1.setCell ⟨tb, 8, none⟩ u).cell? ⟨b, 0, none⟩ = some (.int .i64 x.id)) := Lib.hid (fun u => ⟨by rw [World.cell?_setCell_far _ _ _ _ (by exact G10.out.1)]; exact hH.1, by rw [World.cell?_setCell_far _ _ _ _ (by exact G10.out.2)]; exact hH.2⟩)
        have KEEP1 := Lib.hid keep1
        have HO1 := Lib.hid ho1
        have HG1 := Lib.hid hg1
        have HN1 := Lib.hid hn1
        clear keep1 ho1 hg1 hn1
        refine hK.out _ _ hH (fun _ => ?_)
        clear hK K'
        try simp only [Act.put, List.setIfInBounds_toArray, List.set_cons_zero, List.set_cons_succ]
        refine wpAnyH_take (i := 12) (v := .pointer (some ⟨tb, 0, none⟩)) rfl (by kernel_rfl) (by kernel_rfl) (by kernel_rfl) (fun _ _ _ h => h) (Or.inl ⟨by rfl, ?_⟩) hH ?_
        · rintro w ⟨q1, q2⟩
          go_simp
        try simp only [Act.put, List.setIfInBounds_toArray, List.set_cons_zero, List.set_cons_succ]
        refine wpAnyH_take (i := 13) (v := .pointer (some ⟨tb, 8, none⟩)) rfl (by kernel_rfl) (by kernel_rfl) (by kernel_rfl) (fun _ _ _ h => h) (Or.inl ⟨by rfl, ?_⟩) hH ?_
        · rintro w ⟨q1, q2⟩
          go_simp
        try simp only [Act.put, List.setIfInBounds_toArray, List.set_cons_zero, List.set_cons_succ]
        clear hH
        refine wpAnyH_ready (rs := [14]) (by kernel_rfl) (by simp) ?_
        refine AllReadyH.cons rfl (fun K' hK => ?_) AllReadyH.nil
        go_simp
        refine hK.out _ _ (hH2.out _) (fun _ => ?_)
        clear hK K' hH2
        refine wpAnyH_done (by kernel_rfl) ?_ _
        try simp only [Act.put, List.setIfInBounds_toArray, List.set_cons_zero, List.set_cons_succ]
        go_wp2_with fail
        go_meet
        refine endedIn_of ETB.out G6.out HO1.out KEEP1.out (fun k hk => ?_) hsz HG1.out.os HG1.out.tape HG1.out.output (Nat.le_trans (by simp) HG1.out.size)
        rcases HN1.out with e | e
        · exact .inl (e ▸ hk)
        · rw [e] at hk; simp at hk; exact .inr (by omega)
      · go_simp
        refine hK.out _ _ (KA.out _ _ HhH.out) (fun hHeld => ?_)
        clear hK K' hHeld hH
        try simp only [Act.put, List.setIfInBounds_toArray, List.set_cons_zero, List.set_cons_succ]
        refine wpAnyH_ready (rs := [4]) (by kernel_rfl) (by simp) ?_
        refine AllReadyH.cons rfl (fun K' hK => ?_) AllReadyH.nil
        go_simp
        refine hK.out _ _ (KA.out _ _ HhH.out) (fun hHeld => ?_)
        clear hK K' hHeld
        try simp only [Act.put, List.setIfInBounds_toArray, List.set_cons_zero, List.set_cons_succ]
        refine wpAnyH_ready (rs := [11]) (by kernel_rfl) (by simp) ?_
        refine AllReadyH.cons rfl (fun K' hK => ?_) AllReadyH.nil
        refine step_append_off rfl (.tmp 24) (.tmp 30) 55 55 3 rfl i3 _ 1 8 Try.underlying55 hi3 hz3 hs3 hb3 rfl ev ne es rfl (offRow_same HE2.out fun k hk => Below.heap_alloc _ _ _ hk) 1 [.int .i64 x.id] SRC.out (by omega) (by unfold maxLen; omega) (by omega) ?_
        intro v1 w1 ho1 hg1 hn1
        obtain ⟨a1, cap1, rfl⟩ := ho1.shape
        have keep1 : ∀ k, k < wd.heap.size → ev.ownBlock ≠ some k → w1.heap[k]? = wd.heap[k]? := fun k hk hne => (hg1.block k (by simp; omega) (fun e => hne e.symm)).trans (Below.heap_alloc _ _ _ hk)
        have r1 : w1.cell? ⟨tb, 8, none⟩ = some ev := (World.cell?_of_block (w := wd) (keep1 tb mtb G6.out)).trans q8
        have r2 : w1.frozen? ⟨tb, 8, none⟩ = false := (World.frozen?_of_block (w := wd) (keep1 tb mtb G6.out)).trans f8
        have hH : w1.cell? ⟨ct, 0, none⟩ = some (.pointer (some ⟨tb, 0, none⟩)) ∧ w1.cell? ⟨b, 0, none⟩ = some (.int .i64 x.id) := ⟨(World.cell?_of_block (w := wd) (keep1 ct mct G9.out.1)).trans q5, (World.cell?_of_block (w := wd) (keep1 b (Nat.lt_of_lt_of_le nb hsz) G9.out.2)).trans q0⟩
        have hH2 : Hid (∀ u, (w1.setCell ⟨tb, 8, none⟩ u).cell? ⟨ct, 0, none⟩ = some (.pointer (some ⟨tb, 0, none⟩)) ∧ (w1.setCell ⟨tb, 8, none⟩ u).cell? ⟨b, 0, none⟩ = some (.int .i64 x.id)) := Lib.hid (fun u => ⟨by rw [World.cell?_setCell_far _ _ _ _ (by exact G10.out.1)]; exact hH.1, by rw [World.cell?_setCell_far _ _ _ _ (by exact G10.out.2)]; exact hH.2⟩)
        have KEEP1 := Lib.hid keep1
        have HO1 := Lib.hid ho1
        have HG1 := Lib.hid hg1
        have HN1 := Lib.hid hn1
        clear keep1 ho1 hg1 hn1
        refine hK.out _ _ hH (fun _ => ?_)
        clear hK K'
        try simp only [Act.put, List.setIfInBounds_toArray, List.set_cons_zero, List.set_cons_succ]
        refine wpAnyH_take (i := 12) (v := .pointer (some ⟨tb, 0, none⟩)) rfl (by kernel_rfl) (by kernel_rfl) (by kernel_rfl) (fun _ _ _ h => h) (Or.inl ⟨by rfl, ?_⟩) hH ?_
        · rintro w ⟨q1, q2⟩
          go_simp
        try simp only [Act.put, List.setIfInBounds_toArray, List.set_cons_zero, List.set_cons_succ]
        refine wpAnyH_take (i := 13) (v := .pointer (some ⟨tb, 8, none⟩)) rfl (by kernel_rfl) (by kernel_rfl) (by kernel_rfl) (fun _ _ _ h => h) (Or.inl ⟨by rfl, ?_⟩) hH ?_
        · rintro w ⟨q1, q2⟩
          go_simp
        try simp only [Act.put, List.setIfInBounds_toArray, List.set_cons_zero, List.set_cons_succ]
        clear hH
        refine wpAnyH_ready (rs := [14]) (by kernel_rfl) (by simp) ?_
        refine AllReadyH.cons rfl (fun K' hK => ?_) AllReadyH.nil
        go_simp
        refine hK.out _ _ (hH2.out _) (fun _ => ?_)
        clear hK K' hH2
        refine wpAnyH_done (by kernel_rfl) ?_ _
        try simp only [Act.put, List.setIfInBounds_toArray, List.set_cons_zero, List.set_cons_succ]
        go_wp2_with fail
        go_meet
        refine endedIn_of ETB.out G6.out HO1.out KEEP1.out (fun k hk => ?_) hsz HG1.out.os HG1.out.tape HG1.out.output (Nat.le_trans (by simp) HG1.out.size)
        rcases HN1.out with e | e
        · exact .inl (e ▸ hk)
        · rw [e] at hk; simp at hk; exact .inr (by omega)
    case rest =>
      obtain ⟨⟨v2, etb2, ho2, hn2⟩, keep3, hos3, htp3, hou3, hsz3⟩ := hcut
      go_wp2_with fail
      go_ret
      have hcl2 : cl < wd.heap.size := lt_of_block ECL.out
      refine ⟨rfl, v1, v2, (keep3 cl hcl2 hcl G5.out).trans ECL.out, etb2, HO1.out.kept fun k hk => keep3 k (HO1.out.lt k hk) ?_ (offRow_apart HE2.out HO1.out (by decide) k hk), ho2, hos3.trans hos, htp3.trans htp, hou3.trans hou, Nat.le_trans hsz hsz3, fun k hk h1 h2 h3 h4 => (keep3 k (Nat.lt_of_lt_of_le hk hsz) h1 h4).trans (KEEP2.out k hk h2 h3), HN1.out, hn2⟩
      rintro rfl
      exact offRow_ne HO1.out ETB.out (by decide) hk
end Go.Proofs.Ytdikajbbolecoaa

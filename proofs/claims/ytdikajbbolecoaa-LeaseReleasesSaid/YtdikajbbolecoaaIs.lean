/-
  errors.Is, and the lease's own 'number', at the two failures that 'live' hands back.
-/
import Derived.Test.YtdikajbbolecoaaOff
import Derived.Test.YtdikajbbolecoaaRows
import Derived.LaidEql
import Derived.Stop.Asserts
import Derived.RowKitTokens
import Derived.Lib.IfaceEq
namespace Go.Proofs.Ytdikajbbolecoaa
open Go.RowKit Go.Extern.Stop Go.Stop Go.Extern
set_option linter.unusedVariables false
set_option linter.unusedSimpArgs false

theorem isTypeOf (v : Value) (w : World) : (Extern.ReflectliteType.typeOf #[.iface 27 v]).run Try.prog w = .ok (.iface 81 (.agg #[.pointer (some ⟨0, 27, none⟩)])) w := by kernel_rfl
theorem isComparable (w : World) : ((Extern.ReflectliteType.method fun t => (fun a => Value.bool a.comparable) <$> typeInfo t) #[.agg #[.pointer (some ⟨0, 27, none⟩)]]).run Try.prog w = .ok (.bool true) w := by kernel_rfl
theorem isMethodComparable (v : Value) (w : World) : (Go.method 224 81 v "Comparable").run Try.prog w = .ok (52, v) w := by kernel_rfl
theorem methodUnwrap (v : Value) (w : World) : (Go.method 224 73 v "Unwrap").run Try.prog w = .ok (48, v) w := by kernel_rfl
theorem HC52 (w : World) : (callFunc 52 #[.agg #[.pointer (some ⟨0, 27, none⟩)]]).run Try.prog w = .ok (.value (.bool true)) w := by kernel_rfl
theorem noIsN (v : Value) (xT : TypeId) (w : World) : (Instr.typeAssert (.iface 27 v) xT 83 true).run Try.prog w = .ok (.tuple #[.nilIface, .bool false]) w := run_typeAssert_lacksB Try.underlying83 (by kernel_rfl) (by kernel_rfl) v xT w
theorem noUnwrapN (v : Value) (xT : TypeId) (w : World) : (Instr.typeAssert (.iface 27 v) xT 86 true).run Try.prog w = .ok (.tuple #[.nilIface, .bool false]) w := run_typeAssert_lacksB Try.underlying86 (by kernel_rfl) (by kernel_rfl) v xT w
theorem noUnwrapsN (v : Value) (xT : TypeId) (w : World) : (Instr.typeAssert (.iface 27 v) xT 88 true).run Try.prog w = .ok (.tuple #[.nilIface, .bool false]) w := run_typeAssert_lacksB Try.underlying88 (by kernel_rfl) (by kernel_rfl) v xT w
theorem noIsF (v : Value) (xT : TypeId) (w : World) : (Instr.typeAssert (.iface 73 v) xT 83 true).run Try.prog w = .ok (.tuple #[.nilIface, .bool false]) w := run_typeAssert_lacksB Try.underlying83 (by kernel_rfl) (by kernel_rfl) v xT w
theorem hasUnwrapF (v : Value) (xT : TypeId) (w : World) : (Instr.typeAssert (.iface 73 v) xT 86 true).run Try.prog w = .ok (.tuple #[.iface 73 v, .bool true]) w := run_typeAssert_hasB Try.underlying86 (by kernel_rfl) v xT w

theorem isComp27 : (Try.prog.info? 27).map (·.comparable) = some true := by kernel_rfl

/-- What 'live' hands back where there is no session: its number, and why. -/
def failV (id code : Int) : Value := .iface 73 (.agg #[.int .i64 id, .iface 27 (.int .i64 code)])

set_option maxHeartbeats 1000000 in
set_option maxRecDepth 100000 in
theorem is_any (id code target : Int) (w : World) :
    Calls Try.prog 28 #[failV id code, .iface 27 (.int .i64 target)] w fun e w' => e = .returned (.bool (decide (code = target))) ∧ Below w.heap.size w w' := by
  have h29 := @run_callFunc_extern Try.prog 29 _ Extern.ReflectliteType.typeOf Try.func29 (by kernel_rfl) (by kernel_rfl) (by kernel_rfl) (by kernel_rfl)
  have h52 := HC52
  have mR := isMethodComparable
  have mU := methodUnwrap
  have tT := isTypeOf
  have cT := isComparable
  have nN := noIsN
  have uN := noUnwrapN
  have vN := noUnwrapsN
  have nF := noIsF
  have uF := hasUnwrapF
  have hty := fun w => run_eql_iface_types (P := Try.prog) 73 27 (.agg #[.int .i64 id, .iface 27 (.int .i64 code)]) (.int .i64 target) Try.underlying65 (by decide) w
  have heq := fun w => Go.Lib.run_eql_iface_int (P := Try.prog) w (k := .i64) code target Try.underlying65 isComp27 Try.underlying27
  unfold failV
  by_cases hc : code = target
  · have hcb : (code == target) = true := by rw [beq_iff_eq]; exact hc
    rw [decide_eq_true hc]
    simp only [hcb] at heq
    clear hc hcb
    go_enter Try.func28, Try.ntmps28
    go_wp2
    refine wp_loop_rounds 2 ?_
    rw [rounds_succ]
    go_wp2
    rw [rounds_succ]
    go_wp2
    go_ret
    exact ⟨rfl, (Below.refl _ w).alloc (Nat.le_refl _) _⟩
  · have hcb : (code == target) = false := by rw [beq_eq_false_iff_ne]; exact hc
    rw [decide_eq_false hc]
    simp only [hcb] at heq
    clear hc hcb
    go_enter Try.func28, Try.ntmps28
    go_wp2
    refine wp_loop_rounds 2 ?_
    rw [rounds_succ]
    go_wp2
    rw [rounds_succ]
    go_wp2
    go_ret
    exact ⟨rfl, (Below.refl _ w).alloc (Nat.le_refl _) _⟩

set_option maxHeartbeats 1000000 in
/-- The number of a failure. -/
theorem number_any (id code : Int) (w : World) (hc : code = 6 ∨ code = 5) :
    Calls Try.prog 25 #[failV id code] w fun e w' => e = .returned (.int .i64 code) ∧ Below w.heap.size w w' := by
  have D6 := Lib.hid (fun w => is_any id code 6 w)
  have D5 := Lib.hid (fun w => is_any id code 5 w)
  have e1 : decide ((6 : Int) = 6) = true := decide_eq_true rfl
  have e2 : decide ((5 : Int) = 6) = false := decide_eq_false (by omega)
  have e3 : decide ((5 : Int) = 5) = true := decide_eq_true rfl
  have hx := heap_alloc_new w (.cells #[.int .i64 6, .int .i64 5] 27)
  have HX := Lib.hid hx
  rcases hc with rfl | rfl
  · rw [e1] at D6
    clear e1 e2 e3 hx D5
    go_enter Try.func25, Try.ntmps25
    go_wp2_with fail
    refine wp_loop_rounds 1 ?_
    rw [rounds_succ]
    go_wp2_with fail
    refine (D6.out _).mono ?_
    rintro e w1 ⟨rfl, hb⟩
    have HB := Lib.hid hb
    clear hb
    go_wp2_with fail
    go_ret
    exact ⟨rfl, ((Below.refl _ w).alloc (Nat.le_refl _) _).trans (HB.out.mono (by simp))⟩
  · rw [e2] at D6
    rw [e3] at D5
    clear e1 e2 e3 hx
    go_enter Try.func25, Try.ntmps25
    go_wp2_with fail
    refine wp_loop_rounds 2 ?_
    rw [rounds_succ]
    go_wp2_with fail
    refine (D6.out _).mono ?_
    rintro e w1 ⟨rfl, hb⟩
    have e1 : w1.heap[w.heap.size]? = some (.cells #[.int .i64 6, .int .i64 5] 27 (0, 0)) := (hb.block _ (by simp)).trans HX.out
    have q1 : w1.cell? ⟨w.heap.size, 1, none⟩ = some (.int .i64 5) := by simp [World.cell?, e1]
    have HB := Lib.hid hb
    clear hb e1
    go_wp2_with fail
    rw [rounds_succ]
    go_wp2_with fail
    refine (D5.out _).mono ?_
    rintro e w2 ⟨rfl, hb2⟩
    have HB2 := Lib.hid hb2
    clear hb2
    go_wp2_with fail
    go_ret
    exact ⟨rfl, (((Below.refl _ w).alloc (Nat.le_refl _) _).trans (HB.out.mono (by simp))).trans (HB2.out.mono (by have := HB.out.size; simp at this; omega))⟩
end Go.Proofs.Ytdikajbbolecoaa

/-
  One string in a new block, as append takes it.
-/
import Derived.Test.YtoeekjooigijbaaOpen
namespace Go.Proofs.Ytoeekjooigijbaa
open Go.RowKit
set_option linter.unusedVariables false
set_option linter.unusedSimpArgs false
theorem src_one (w : World) (x : Value) (hx : x.oneCell' = true) : Src Try.prog 1 44 (.slice (some ⟨w.heap.size, 0, none⟩) 1 1) 1 [x] (w.alloc (.cells #[x] 9)) :=
  Src.ofSlice _ Try.underlying44 _ _ _ _ rfl (fun j u hu => by
    rw [addr_add]
    have e := heap_alloc_new w (.cells #[x] 9)
    unfold World.cell?
    simp only [e]
    simpa using hu) (by simpa using hx)
end Go.Proofs.Ytoeekjooigijbaa

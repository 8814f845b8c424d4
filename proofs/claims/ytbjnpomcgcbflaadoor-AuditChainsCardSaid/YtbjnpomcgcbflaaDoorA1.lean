/- Walks: small functions of audit and what they call. -/
import Derived.Test.YtbjnpomcgcbflaaDoorA0
set_option linter.unusedVariables false
set_option linter.unusedSimpArgs false
namespace Go.Proofs.YtbjnpomcgcbflaaDoor
open Go.RowKit


set_option maxHeartbeats 400000 in
theorem zero_any (w : World) : Calls Tryd.prog 18 #[] w (RetF w (List.replicate 32 0)) := by
  have hmk : ∀ w, (Instr.makeSlice 28 (.int .i64 32) (.int .i64 32)).run Tryd.prog w = .ok (.slice (some ⟨w.heap.size, 0, none⟩) 32 32) (w.alloc (.cells (bvs (List.replicate 32 0)).toArray 5)) := fun _ => by kernel_rfl
  go_enter Tryd.func18, Tryd.ntmps18
  go_wp2
  go_ret
  exact RetF.mk' (by simp) (Nat.le_refl _) (by decide) (Seg.of_block (heap_alloc_new _ _) fun j u hu => by simpa using hu) (alloc_ext _ _) (Fresh.new _ _)
end Go.Proofs.YtbjnpomcgcbflaaDoor

/- Walks: a state is copied and summed up. -/
import Derived.Test.YtbjnpomcgcbflaaDoorS5
import Derived.Test.YtbjnpomcgcbflaaDoorA2
set_option linter.unusedVariables false
set_option linter.unusedSimpArgs false
namespace Go.Proofs.YtbjnpomcgcbflaaDoor
open Go.RowKit Go.Deep

set_option maxRecDepth 100000 in
set_option maxHeartbeats 1000000 in
theorem copy_any {c ov : List UInt8} (bs : Nat) (w : World) (hT : Took w bs c ov) :
    Calls Tryd.prog 57 #[.pointer (some ⟨bs, 0, none⟩)] w fun e w' => ∃ b', e = .returned (.pointer (some ⟨b', 0, none⟩)) ∧ w.heap.size ≤ b' ∧ Took w' b' c ov ∧ Below w.heap.size w w' := by
  have hl : (stCells (blocksTo c (c.length / 64)) ov c.length).length = 73 := by
    have h1 := hT.at_.h8
    have h2 := hT.at_.o64
    simp [stCells, u32s, bvs, h1, h2]
  have HT := Lib.hid hT
  have hc0 := Lib.hid hT.at_.cells
  clear hT
  obtain ⟨C, hC⟩ : ∃ C, C = stCells (blocksTo c (c.length / 64)) ov c.length := ⟨_, rfl⟩
  have hC1 : Hid (∀ v ∈ C, v.oneCell' = true) := by
    subst hC
    intro v hv
    simp only [stCells, u32s, bvs, List.mem_append, List.mem_map, List.mem_cons, List.not_mem_nil, or_false] at hv
    rcases hv with ⟨_, _, rfl⟩ | ⟨_, _, rfl⟩ | rfl <;> rfl
  rw [← hC] at hc0 hl
  have hs73 : C.toArray.size = 73 := by simpa using hl
  have HC := Lib.hid hC
  clear hC
  go_enter Tryd.func57, Tryd.ntmps57
  go_wp2_with (first | (refine wpList_load_row rfl 81 (.tmp 5) rfl bs rfl 81 C.toArray (0, 0) _ hc0.out Tryd.underlying81 rfl (by rw [List.size_toArray, hl]; kernel_rfl) ?_) | (refine wpList_store_row rfl 81 (.tmp 3) (.tmp 6) rfl w.heap.size C.toArray rfl rfl 81 _ (heap_alloc_new _ _) (by rw [hs73]; kernel_rfl) (by rw [hs73]; kernel_rfl) (by simpa using hC1.out) ?_))

  go_ret
  refine ⟨w.heap.size, rfl, Nat.le_refl _, ⟨⟨?_, HT.out.at_.h8, HT.out.at_.o64⟩, HT.out.tail⟩, below_setRow (alloc_ext _ _) (Nat.le_refl _) _⟩
  rw [← HC.out]
  exact setRow_heap _ _ _ _ _ _ (heap_alloc_new _ _)
end Go.Proofs.YtbjnpomcgcbflaaDoor

/- Walks: what a sum begins with, its constants, a new state. -/
import Derived.Test.YtbjnpomcgcbflaaDoorS1
set_option linter.unusedVariables false
set_option linter.unusedSimpArgs false
namespace Go.Proofs.YtbjnpomcgcbflaaDoor
open Go.RowKit Go.Deep

def u32s (l : List Int) : List Value := l.map (Value.int .u32)
def shaStart : List Int := [1779033703, 3144134277, 1013904242, 2773480762, 1359893119, 2600822924, 528734635, 1541459225]
/-- A state: eight words, 64 bytes, how many bytes were added. -/
def stCells (h : List Int) (ov : List UInt8) (n : Int) : List Value := u32s h ++ (bvs ov ++ [.int .i64 n])

set_option maxHeartbeats 400000 in
theorem start_any (w : World) : Calls Tryd.prog 55 #[] w fun e w' => e = .returned (.agg (u32s shaStart).toArray) ∧ Below w.heap.size w w' := by
  go_enter Tryd.func55, Tryd.ntmps55
  go_wp2
  refine bodyPost_ret (results_cell_row rfl _ _ w.heap.size 77 _ (0, 0) _ rfl (heap_alloc_new _ _) Tryd.underlying77 rfl (by kernel_rfl)) rfl ⟨rfl, alloc_ext _ _⟩

def shaK : List Int := [1116352408, 1899447441, 3049323471, 3921009573, 961987163, 1508970993, 2453635748, 2870763221, 3624381080, 310598401, 607225278, 1426881987, 1925078388, 2162078206, 2614888103, 3248222580, 3835390401, 4022224774, 264347078, 604807628, 770255983, 1249150122, 1555081692, 1996064986, 2554220882, 2821834349, 2952996808, 3210313671, 3336571891, 3584528711, 113926993, 338241895, 666307205, 773529912, 1294757372, 1396182291, 1695183700, 1986661051, 2177026350, 2456956037, 2730485921, 2820302411, 3259730800, 3345764771, 3516065817, 3600352804, 4094571909, 275423344, 430227734, 506948616, 659060556, 883997877, 958139571, 1322822218, 1537002063, 1747873779, 1955562222, 2024104815, 2227730452, 2361852424, 2428436474, 2756734187, 3204031479, 3329325298]

set_option maxRecDepth 100000 in
set_option maxHeartbeats 400000 in
theorem constants_any (w : World) : Calls Tryd.prog 65 #[] w fun e w' => e = .returned (.agg (u32s shaK).toArray) ∧ Below w.heap.size w w' := by
  go_enter Tryd.func65, Tryd.ntmps65
  go_wp2_with (first | (refine wl_build rfl 86 rfl (.agg (u32s shaK).toArray) (by kernel_rfl) ?_) | (refine wpList_store_row rfl 86 (.tmp 0) (.tmp 1) rfl w.heap.size (u32s shaK).toArray rfl rfl 86 _ (heap_alloc_new _ _) (by kernel_rfl) (by kernel_rfl) (by kernel_rfl) ?_))
  refine bodyPost_ret (results_cell_row rfl _ _ w.heap.size 86 (u32s shaK).toArray (0, 0) _ rfl (setRow_heap _ _ _ _ _ _ (heap_alloc_new _ _)) Tryd.underlying86 rfl (by kernel_rfl)) rfl ⟨rfl, below_setRow (alloc_ext _ _) (Nat.le_refl _) _⟩

/-- A state in memory. -/
structure StateAt (w : World) (b : Nat) (h : List Int) (ov : List UInt8) (n : Int) : Prop where
  cells : w.heap[b]? = some (.cells (stCells h ov n).toArray 81 (0, 0))
  h8 : h.length = 8
  o64 : ov.length = 64

set_option maxRecDepth 100000 in
set_option maxHeartbeats 400000 in
theorem new_any (w : World) : Calls Tryd.prog 45 #[] w fun e w' => ∃ b, e = .returned (.pointer (some ⟨b, 0, none⟩)) ∧ w.heap.size ≤ b ∧ StateAt w' b shaStart (List.replicate 64 0) 0 ∧ Below w.heap.size w w' := by
  go_enter Tryd.func45, Tryd.ntmps45
  go_wp2_with (go_at_call 55; refine (start_any _).mono ?_; rintro e w1 ⟨rfl, hB1⟩)
  have e : List.foldl (fun cs x => cs.setIfInBounds x.snd x.fst) Tryd.zeroCells81 (u32s shaStart).zipIdx = (stCells shaStart (List.replicate 64 0) 0).toArray := by kernel_rfl
  rw [e]
  go_ret
  exact ⟨w1.heap.size, rfl, hB1.size, ⟨heap_alloc_new _ _, rfl, by simp⟩, ext_trans hB1 (alloc_ext _ _)⟩
end Go.Proofs.YtbjnpomcgcbflaaDoor

/- Walks: a number in eight bytes, by the program and by the document. -/
import Derived.Test.YtbjnpomcgcbflaaDoorA1
set_option linter.unusedVariables false
set_option linter.unusedSimpArgs false
namespace Go.Proofs.YtbjnpomcgcbflaaDoor
open Go.RowKit

/-- The eight bytes of a number, the greatest first. -/
def wideB (n : Int) : List UInt8 := (List.range 8).map fun i => UInt8.ofNat ((n % 18446744073709551616).toNat / 2 ^ (8 * (7 - i)))
theorem wideB_length (n : Int) : (wideB n).length = 8 := by simp [wideB]

theorem wide_at (n : Int) (e : Nat) : IntKind.u64.wrap n / 2 ^ e % 256 = (((n % 18446744073709551616).toNat / 2 ^ e % 256 : Nat) : Int) := by
  rw [IntKind.wrap_u64]
  obtain ⟨m, hm⟩ := Int.eq_ofNat_of_zero_le (Int.emod_nonneg n (show (18446744073709551616 : Int) ≠ 0 by decide))
  rw [hm]
  simp

/-- A row of bytes that is filled from the front. -/
theorem fill_step {l : List UInt8} {k : Nat} (hk : k < l.length) (b : UInt8) (hb : l[k] = b) :
    (bvs (l.take k ++ List.replicate (l.length - k) 0)).toArray.setIfInBounds k (bv b) = (bvs (l.take (k + 1) ++ List.replicate (l.length - (k + 1)) 0)).toArray := by
  subst hb
  rw [List.setIfInBounds_toArray]
  congr 1
  apply List.ext_getElem?
  intro i
  simp only [bvs]
  grind

set_option maxHeartbeats 400000 in
theorem numWide_any (n : Int) (w : World) : Calls Tryd.prog 52 #[.int .i64 n] w (RetB w (wideB n)) := by
  have hmk : ∀ w, (Instr.makeSlice 28 (.int .i64 8) (.int .i64 8)).run Tryd.prog w = .ok (.slice (some ⟨w.heap.size, 0, none⟩) 8 8) (w.alloc (.cells (bvs (List.replicate 8 0)).toArray 5)) := fun _ => by kernel_rfl
  go_enter Tryd.func52, Tryd.ntmps52
  go_wp2
  go_loopw [6] (fun i wr => ∃ k : Nat, k ≤ 8 ∧ i = .int .i64 k ∧ wr.heap[w.heap.size]? = some (.cells (bvs ((wideB n).take k ++ List.replicate ((wideB n).length - k) 0)).toArray 5 (0, 0)) ∧ Below w.heap.size w wr) (fun i _ => 8 - (intOf i).toNat)
  case atStart => exact ⟨0, by omega, rfl, by simpa [wideB_length] using heap_alloc_new _ _, (Below.refl _ _).alloc (Nat.le_refl _) _⟩
  case round =>
    obtain ⟨k, hk, rfl, hrow, hB⟩ := hrel
    by_cases hlt : k < 8
    · have hc : ∃ v, wr.cell? ⟨w.heap.size, k, none⟩ = some v := by
        rw [cell_of_row _ _ _ _ _ _ hrow]
        simp [bvs, wideB_length]
        exact ⟨_, List.getElem?_eq_getElem (by simp [wideB_length]; omega)⟩
      obtain ⟨v0, hc⟩ := hc
      have hf := frozen_of_row wr w.heap.size k _ _ hrow
      have hrowH := Lib.hid hrow
      clear hrow
      go_wp2
      go_roundw
      case rel =>
        refine ⟨k + 1, by omega, by go_num, ?_, ?_⟩
        · have hs := heap_setCell_same wr w.heap.size k _ _ (.int .u8 (IntKind.u64.wrap n / 2 ^ (8 * (7 - k)) % 256)) hrowH.out
          rw [hs, ← fill_step (l := wideB n) (by simpa [wideB_length] using hlt) (UInt8.ofNat ((n % 18446744073709551616).toNat / 2 ^ (8 * (7 - k)))) (by simp [wideB]), bv_ofNat, ← wide_at]
        · exact hB.setCell (Nat.le_refl _) _
      case measure => simp [intOf]; omega
    · obtain rfl : k = 8 := by omega
      have hrowH := Lib.hid hrow
      clear hrow
      go_wp2
      go_ret
      exact RetB.mk' (by simp [wideB_length]) (Nat.le_refl _) (by decide) (Seg.of_block hrowH.out fun j u hu => by simpa [wideB_length, List.take_of_length_le] using hu) hB
end Go.Proofs.YtbjnpomcgcbflaaDoor

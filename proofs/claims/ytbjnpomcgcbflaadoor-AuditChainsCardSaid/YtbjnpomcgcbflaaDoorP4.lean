/- Plain law: a state that has taken in bytes. -/
import Derived.Test.YtbjnpomcgcbflaaDoorP3
import Derived.Test.YtbjnpomcgcbflaaDoorS2
set_option linter.unusedVariables false
set_option linter.unusedSimpArgs false
namespace Go.Proofs.YtbjnpomcgcbflaaDoor
open Go.RowKit Go.Deep

/-- The words after the first k blocks of c. -/
def blocksTo (c : List UInt8) : Nat → List Int
  | 0 => shaStart
  | k + 1 => compress (blocksTo c k) shaK ((c.drop (64 * k)).take 64)
theorem blocksTo_append (c d : List UInt8) : ∀ k, 64 * k ≤ c.length → blocksTo (c ++ d) k = blocksTo c k
  | 0, _ => rfl
  | k + 1, h => by
    rw [blocksTo, blocksTo, blocksTo_append c d k (by omega), List.drop_append_of_le_length (by omega), List.take_append_of_le_length (by rw [List.length_drop]; omega)]
theorem shaStart_w32 : ∀ x ∈ shaStart, W32 x := by
  have h : shaStart.all (fun x => decide (0 ≤ x ∧ x < 4294967296)) = true := by kernel_rfl
  intro x hx
  show 0 ≤ x ∧ x < 4294967296
  exact of_decide_eq_true (List.all_eq_true.1 h x hx)
theorem blocksTo_w32 (c : List UInt8) : ∀ k, ∀ x ∈ blocksTo c k, W32 x
  | 0 => shaStart_w32
  | k + 1 => compress_w32 _ _ _
theorem blocksTo_length (c : List UInt8) : ∀ k, (blocksTo c k).length = 8
  | 0 => rfl
  | k + 1 => compress_length _ _ _

/-- A state in memory that has taken in c. -/
structure Took (w : World) (b : Nat) (c : List UInt8) (ov : List UInt8) : Prop where
  at_ : StateAt w b (blocksTo c (c.length / 64)) ov c.length
  tail : ov.take (c.length % 64) = c.drop (64 * (c.length / 64))
/-- What the part of a block that waits comes to when d is laid after it. -/
def laidIn (ov : List UInt8) (r : Nat) (d : List UInt8) : List UInt8 := ov.take r ++ d ++ ov.drop (r + d.length)
theorem laidIn_length {ov d : List UInt8} {r : Nat} (h : ov.length = 64) (hk : r + d.length ≤ 64) : (laidIn ov r d).length = 64 := by
  simp [laidIn]
  omega
theorem took_less {y d ov : List UInt8} (hov : ov.length = 64) (ht : ov.take (y.length % 64) = y.drop (64 * (y.length / 64))) (hk : y.length % 64 + d.length < 64) :
    blocksTo (y ++ d) ((y ++ d).length / 64) = blocksTo y (y.length / 64) ∧ (laidIn ov (y.length % 64) d).take ((y ++ d).length % 64) = (y ++ d).drop (64 * ((y ++ d).length / 64)) := by
  have hl : (y ++ d).length = y.length + d.length := by simp
  have e1 : (y ++ d).length / 64 = y.length / 64 := by omega
  have e2 : (y ++ d).length % 64 = y.length % 64 + d.length := by omega
  have hlt : (ov.take (y.length % 64)).length = y.length % 64 := by simp; omega
  rw [e1, e2]
  refine ⟨blocksTo_append _ _ _ (by omega), ?_⟩
  rw [laidIn, List.take_append_of_le_length (by simp; omega), List.take_of_length_le (by simp; omega), ht, List.drop_append_of_le_length (by omega)]
theorem took_full {y d ov : List UInt8} (hov : ov.length = 64) (ht : ov.take (y.length % 64) = y.drop (64 * (y.length / 64))) (hk : y.length % 64 + d.length = 64) :
    blocksTo (y ++ d) ((y ++ d).length / 64) = compress (blocksTo y (y.length / 64)) shaK (laidIn ov (y.length % 64) d) ∧ (laidIn ov (y.length % 64) d).take ((y ++ d).length % 64) = (y ++ d).drop (64 * ((y ++ d).length / 64)) := by
  have hl : (y ++ d).length = y.length + d.length := by simp
  have e1 : (y ++ d).length / 64 = y.length / 64 + 1 := by omega
  have e2 : (y ++ d).length % 64 = 0 := by omega
  have hlt : (ov.take (y.length % 64)).length = y.length % 64 := by simp; omega
  have e3 : laidIn ov (y.length % 64) d = (y ++ d).drop (64 * (y.length / 64)) := by
    rw [laidIn, List.drop_of_length_le (i := y.length % 64 + d.length) (by omega), List.append_nil, ht, List.drop_append_of_le_length (by omega)]
  rw [e1, e2]
  refine ⟨?_, ?_⟩
  · rw [blocksTo, blocksTo_append _ _ _ (by omega), e3, List.take_of_length_le (by simp; omega)]
  · rw [List.take_zero, List.drop_of_length_le (by omega)]
end Go.Proofs.YtbjnpomcgcbflaaDoor

/- Plain: the words of the sum SHA-256 as whole numbers below 2^32. -/
import Derived.Laws.BitsLemmas
import Derived.Laws.Closers25b
set_option linter.unusedVariables false
set_option linter.unusedSimpArgs false
namespace Go.Proofs.YtbjnpomcgcbflaaDoor

/-- A word rotated to the right. -/
def rotr (x : Int) (k : Nat) : Int := bits .or .u32 (x / 2 ^ k) (x * 2 ^ (32 - k) % 4294967296)
theorem bits_or_comm (k : IntKind) (x y : Int) : bits .or k x y = bits .or k y x := by
  unfold bits
  simp only
  rw [BitVec.or_comm]
def W32 (x : Int) : Prop := 0 ≤ x ∧ x < 4294967296
theorem w32_bits (op : BinOp) (x y : Int) : W32 (bits op .u32 x y) := ⟨bits_lo_u32 op x y, by have := bits_hi_u32 op x y; omega⟩
theorem w32_rotr (x : Int) (k : Nat) : W32 (rotr x k) := w32_bits _ _ _
theorem w32_mod (x : Int) : W32 (x % 4294967296) := ⟨by omega, by omega⟩
/-- Four bytes as a word. -/
def be32 (l : List UInt8) : Int := l.foldl (fun w c => w * 256 + c.toNat) 0
theorem or_add (a b : Int) (i : Nat) (hi : i ≤ 32) (ha : 0 ≤ a) (ha2 : a < 4294967296) (hm : a % 2 ^ i = 0) (hb : 0 ≤ b) (hb2 : b < 2 ^ i) (hb3 : b < 4294967296) : bits .or .u32 a b = a + b :=
  bits_join .u32 32 (by decide) (fun n h0 h1 => by rw [IntKind.wrap_u32]; have : (2 : Int) ^ 32 = 4294967296 := rfl; omega) i a b ha hm ha2 hb hb2 hb3
theorem be32_bound (l : List UInt8) : ∀ (k : Nat), k ≤ 4 → 0 ≤ be32 (l.take k) ∧ be32 (l.take k) < 256 ^ k
  | 0, _ => by simp [be32]
  | k + 1, hk => by
    have ih := be32_bound l k (by omega)
    rw [List.take_add_one]
    cases h : l[k]? with
    | none =>
      simp
      have : (256 : Int) ^ (k + 1) = 256 * 256 ^ k := by rw [Int.pow_succ, Int.mul_comm]
      have : (0 : Int) < 256 ^ k := Int.pow_pos (by decide)
      omega
    | some b =>
      simp only [be32, List.foldl_append, Option.toList, List.foldl_cons, List.foldl_nil]
      have := b.toNat_lt
      have e : (256 : Int) ^ (k + 1) = 256 * 256 ^ k := by rw [Int.pow_succ, Int.mul_comm]
      unfold be32 at ih
      omega
theorem be32_snoc (l : List UInt8) (k : Nat) (b : UInt8) (h : l[k]? = some b) : be32 (l.take (k + 1)) = be32 (l.take k) * 256 + b.toNat := by
  rw [List.take_add_one, h]
  simp [be32]
theorem be32_or (l : List UInt8) (k : Nat) (hk : k < 4) (b : UInt8) (h : l[k]? = some b) : bits .or .u32 (be32 (l.take k) * 256 % 4294967296) b.toNat = be32 (l.take (k + 1)) := by
  have h1 := be32_bound l k (by omega)
  have h2 : (256 : Int) ^ k ≤ 16777216 := by
    have : k = 0 ∨ k = 1 ∨ k = 2 ∨ k = 3 := by omega
    rcases this with rfl | rfl | rfl | rfl <;> decide
  have := b.toNat_lt
  have e : be32 (l.take k) * 256 % 4294967296 = be32 (l.take k) * 256 := by omega
  rw [e, or_add _ _ 8 (by decide) (by omega) (by omega) (by show _ % 256 = 0; omega) (by omega) (by show _ < 256; omega) (by omega), be32_snoc l k b h]
end Go.Proofs.YtbjnpomcgcbflaaDoor

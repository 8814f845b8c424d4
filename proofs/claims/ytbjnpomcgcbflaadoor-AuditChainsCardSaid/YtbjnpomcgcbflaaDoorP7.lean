/- Plain laws: numbers in eight bytes, read again. -/
import Derived.Test.YtbjnpomcgcbflaaDoorA2
import Derived.Test.YtbjnpomcgcbflaaDoorP5
set_option linter.unusedVariables false
set_option linter.unusedSimpArgs false
namespace Go.Proofs.YtbjnpomcgcbflaaDoor

/-- Eight bytes as a number without a sign, and with one. -/
def beN (l : List UInt8) : Nat := l.foldl (fun n c => n * 256 + c.toNat) 0
def narB (l : List UInt8) : Int := IntKind.i64.wrap (beN l)
theorem beN_snoc (l : List UInt8) (b : UInt8) : beN (l ++ [b]) = beN l * 256 + b.toNat := by simp [beN]
theorem beN_bound (l : List UInt8) : beN l < 256 ^ l.length := by
  rw [← List.reverse_reverse l]
  induction l.reverse with
  | nil => simp [beN]
  | cons b l ih =>
    rw [List.reverse_cons, beN_snoc, List.length_append]
    have := b.toNat_lt
    have e : 256 ^ (l.reverse.length + [b].length) = 256 * 256 ^ l.reverse.length := by simp [Nat.pow_succ, Nat.mul_comm]
    omega
/-- The first k of the eight bytes of a number are its greatest part. -/
theorem beN_wide (n : Int) : ∀ k, k ≤ 8 → beN ((wideB n).take k) = (n % 18446744073709551616).toNat / 2 ^ (8 * (8 - k))
  | 0, _ => by
    have : (n % 18446744073709551616).toNat < 18446744073709551616 := by omega
    simp [beN]
    omega
  | k + 1, hk => by
    have ih := beN_wide n k (by omega)
    have hg : (wideB n)[k]? = some (UInt8.ofNat ((n % 18446744073709551616).toNat / 2 ^ (8 * (7 - k)))) := by
      simp [wideB, show k < 8 by omega]
    rw [List.take_add_one, hg, Option.toList_some, beN_snoc, ih]
    obtain ⟨m, hm⟩ : ∃ m, m = (n % 18446744073709551616).toNat := ⟨_, rfl⟩
    rw [← hm]
    have e : 8 * (8 - k) = 8 * (7 - k) + 8 := by omega
    have e2 : 8 * (8 - (k + 1)) = 8 * (7 - k) := by omega
    rw [e, e2, Nat.pow_add, ← Nat.div_div_eq_div_mul]
    simp only [UInt8.toNat_ofNat']
    have : (2 : Nat) ^ 8 = 256 := rfl
    omega
theorem narB_wide (n : Int) (h0 : -9223372036854775808 ≤ n) (h1 : n ≤ 9223372036854775807) : narB (wideB n) = n := by
  have h := beN_wide n 8 (Nat.le_refl _)
  rw [List.take_of_length_le (by rw [wideB_length]; exact Nat.le_refl _)] at h
  unfold narB
  rw [h]
  simp only [IntKind.wrap_i64]
  simp
  omega
theorem wideB_inj {n m : Int} (h0 : -9223372036854775808 ≤ n) (h1 : n ≤ 9223372036854775807) (g0 : -9223372036854775808 ≤ m) (g1 : m ≤ 9223372036854775807) (h : wideB n = wideB m) : n = m := by
  rw [← narB_wide n h0 h1, h, narB_wide m g0 g1]
end Go.Proofs.YtbjnpomcgcbflaaDoor

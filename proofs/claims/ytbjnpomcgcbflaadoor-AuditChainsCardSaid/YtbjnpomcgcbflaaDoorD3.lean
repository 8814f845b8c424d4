/- Walks: the number of eight bytes (num.Narrow), and an entry of bytes (audit.Read). -/
import Derived.Test.YtbjnpomcgcbflaaDoorD2
import Derived.Test.YtbjnpomcgcbflaaDoorP7
import Derived.Test.YtbjnpomcgcbflaaDoorB4
import Derived.Laws.BitsAllLaws
import Derived.Laws.Closers25b
set_option linter.unusedVariables false
set_option linter.unusedSimpArgs false
namespace Go.Proofs.YtbjnpomcgcbflaaDoor
open Go.RowKit Go.Deep

theorem beN_take {l : List UInt8} {k : Nat} {d : UInt8} (h : l[k]? = some d) : beN (l.take (k + 1)) = beN (l.take k) * 256 + d.toNat := by
  rw [List.take_add_one, h, Option.toList_some, beN_snoc]
theorem beN_lt {l : List UInt8} {k : Nat} (hk : k ≤ 8) : beN (l.take k) < 256 ^ k := by
  have h := beN_bound (l.take k)
  have hl : (l.take k).length ≤ k := List.length_take_le _ _
  exact Nat.lt_of_lt_of_le h (Nat.pow_le_pow_right (by decide) hl)
theorem or_u64 (a : Nat) (d : UInt8) (ha : a < 72057594037927936) : bits .or .u64 ((a : Int) * 256) (d.toNat : Int) = ((a * 256 + d.toNat : Nat) : Int) := by
  have := d.toNat_lt
  have h := bits_join .u64 64 (by decide) (fun n h0 h1 => by rw [IntKind.wrap_u64]; have : (2 : Int) ^ 64 = 18446744073709551616 := rfl; omega) 8 ((a : Int) * 256) (d.toNat : Int) (by omega) (by show ((a : Int) * 256) % 256 = 0; omega) (by show (a : Int) * 256 < 18446744073709551616; omega) (by omega) (by show (d.toNat : Int) < 256; omega) (by show (d.toNat : Int) < 18446744073709551616; omega)
  rw [h]
  omega

set_option maxRecDepth 100000 in
set_option maxHeartbeats 1000000 in
theorem narrow_no {A : Option Addr} {n : Nat} (c : Nat) (w : World) (h : ((n : Int) == 8) = false) :
    Calls Tryd.prog 40 #[.slice A n c] w fun e w' => e = .returned (.tuple #[.int .i64 0, .int .i64 1]) ∧ w = w' := by
  have h' : ¬ (n : Int) = 8 := by simpa using h
  clear h
  go_enter Tryd.func40, Tryd.ntmps40
  go_wp2_with fail
  go_ret2
  exact ⟨rfl, rfl⟩
set_option maxRecDepth 100000 in
set_option maxHeartbeats 1000000 in
theorem narrow_yes {A : Option Addr} {l : List UInt8} (hn : l.length = 8) (c : Nat) (w : World) (h : Hid (Seg w A (bvs l))) :
    Calls Tryd.prog 40 #[.slice A 8 c] w fun e w' => e = .returned (.tuple #[.int .i64 (narB l), .int .i64 0]) ∧ w = w' := by
  have HN := Lib.hid hn
  obtain ⟨b, o, rfl⟩ := h.out.addrB (by omega)
  clear hn
  go_enter Tryd.func40, Tryd.ntmps40
  go_wp2_with fail
  go_loop [4, 12] (fun v i => ∃ k : Nat, k ≤ 8 ∧ i = .int .i64 k ∧ v = .int .u64 (beN (l.take k))) (fun _ i => 8 - (intOf i).toNat)
  case atStart => exact ⟨0, by omega, rfl, rfl⟩
  case round =>
    obtain ⟨k, hk, rfl, rfl⟩ := hrel
    by_cases hlt : k < 8
    · obtain ⟨d, hd⟩ : ∃ d, l[k]? = some d := ⟨_, List.getElem?_eq_getElem (by have := HN.out; omega)⟩
      have hcell := h.out.byte hd
      have hb := beN_lt (l := l) (k := k) (by omega)
      have hpow : (256 : Nat) ^ k ≤ 72057594037927936 := Nat.pow_le_pow_right (n := 256) (by decide) (show k ≤ 7 by omega)
      have hor := or_u64 (beN (l.take k)) d (by omega)
      rw [← beN_take hd] at hor
      have HD := Lib.hid hd
      have h1 : beN (l.take k) < 72057594037927936 := by omega
      have hdl := d.toNat_lt
      clear hd hb hpow
      go_wp2_with fail
      go_round
      case rel => exact ⟨k + 1, by omega, by go_num, rfl⟩
      case measure => simp [intOf]; omega
    · obtain rfl : k = 8 := by omega
      have e1 : l.take 8 = l := List.take_of_length_le (by have := HN.out; omega)
      rw [e1]
      have e2 : narB l = wrap64 (beN l) := IntWalk.i64_left _
      have E2 := Lib.hid e2
      clear e1 e2
      go_wp2_with fail
      go_ret2
      rw [E2.out]
      exact ⟨rfl, rfl⟩
end Go.Proofs.YtbjnpomcgcbflaaDoor

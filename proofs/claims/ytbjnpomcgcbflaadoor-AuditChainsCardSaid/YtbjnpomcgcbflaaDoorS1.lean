/- Walks: a word rotated, by the program and by the document. -/
import Derived.Test.YtbjnpomcgcbflaaDoorA3
import Derived.Test.YtbjnpomcgcbflaaDoorP2
set_option linter.unusedVariables false
set_option linter.unusedSimpArgs false
namespace Go.Proofs.YtbjnpomcgcbflaaDoor
open Go.RowKit Go.Deep

theorem and31 (k : Nat) (hk : 1 ≤ k) (hk2 : k ≤ 31) : bits BinOp.and IntKind.u64 (IntKind.u64.wrap (-(k : Int))) 31 = ((32 - k : Nat) : Int) := by
  have h : ∀ j : Fin 32, 1 ≤ j.val → bits BinOp.and IntKind.u64 (IntKind.u64.wrap (-(j.val : Int))) 31 = ((32 - j.val : Nat) : Int) := by decide +kernel
  exact h ⟨k, by omega⟩ hk
set_option maxHeartbeats 400000 in
theorem rotl_any (x : Int) (k : Nat) (h0 : 0 ≤ x) (h1 : x < 4294967296) (hk : 1 ≤ k) (hk2 : k ≤ 31) (w : World) : Calls Tryd.prog 70 #[.int .u32 x, .int .i64 (-(k : Int))] w fun e w' => e = .returned (.int .u32 (rotr x k)) ∧ w = w' := by
  have ha := and31 k hk hk2
  go_enter Tryd.func70, Tryd.ntmps70
  go_wp2
  go_ret
  exact ⟨by show Ending.returned (.int .u32 (bits .or .u32 (x * 2 ^ (32 - k) % 4294967296) (x / 2 ^ (32 - (32 - k))))) = _; rw [show 32 - (32 - k) = k from by omega, bits_or_comm]; rfl, rfl⟩

set_option maxHeartbeats 400000 in
theorem turn_any (x : Int) (k : Nat) (h0 : 0 ≤ x) (h1 : x < 4294967296) (hk : 1 ≤ k) (hk2 : k ≤ 31) (w : World) : Calls Tryd.prog 64 #[.int .u32 x, .int .i64 k] w fun e w' => e = .returned (.int .u32 (rotr x k)) ∧ w = w' := by
  go_enter Tryd.func64, Tryd.ntmps64
  go_wp2_with (go_at_call 70; refine (rotl_any x k h0 h1 hk hk2 _).mono ?_; rintro e w' ⟨rfl, rfl⟩)
  go_ret
  exact ⟨rfl, rfl⟩

set_option maxHeartbeats 400000 in
theorem shaWide_any {A : Option Addr} {l : List UInt8} {n : Nat} (hn : l.length = n) (c : Nat) (w : World) (h : Seg w A (bvs l)) (h4 : 4 ≤ n) (hc : n ≤ c) (hc2 : c ≤ 9223372036854775807) :
    Calls Tryd.prog 63 #[.slice A n c] w fun e w' => e = .returned (.int .u32 (be32 (l.take 4))) ∧ w = w' := by
  obtain ⟨b, o, rfl⟩ := h.addrB (by omega)
  subst hn
  have H := Lib.hid h
  clear h
  go_enter Tryd.func63, Tryd.ntmps63
  go_wp2
  go_loop [3, 9] (fun v i => ∃ k : Nat, k ≤ 4 ∧ i = .int .i64 k ∧ v = .int .u32 (be32 (l.take k))) (fun _ i => 4 - (intOf i).toNat)
  case atStart => exact ⟨0, by omega, rfl, rfl⟩
  case round =>
    obtain ⟨k, hk, rfl, rfl⟩ := hrel
    by_cases hlt : k < 4
    · obtain ⟨d, hd⟩ : ∃ d, l[k]? = some d := ⟨_, List.getElem?_eq_getElem (by omega)⟩
      have hcd : w.cell? ⟨b, o + k, none⟩ = some (.int .u8 d.toNat) := H.out.cell (u := bv d) (by simp [bvs, hd])
      have e := be32_or l k hlt d hd
      have hb := be32_bound l k (by omega)
      have hdl := d.toNat_lt
      clear hd
      obtain ⟨X, hX⟩ : ∃ X, X = be32 (l.take k) := ⟨_, rfl⟩
      rw [← hX] at e hb ⊢
      have E := Lib.hid e
      have HX := Lib.hid hX
      clear e hX
      have hb0 := hb.1
      clear hb
      go_wp2
      go_round
      case rel => exact ⟨k + 1, by omega, by go_num, by rw [← E.out]⟩
      case measure => simp [intOf] <;> omega
    · obtain rfl : k = 4 := by omega
      go_wp2
      go_ret
      exact ⟨rfl, rfl⟩

set_option maxHeartbeats 400000 in
theorem refturn_any (x : Int) (k : Nat) (h0 : 0 ≤ x) (h1 : x < 4294967296) (hk : 1 ≤ k) (hk2 : k ≤ 31) (w : World) : Calls Tryd.prog 60 #[.int .u32 x, .int .u64 k] w fun e w' => e = .returned (.int .u32 (rotr x k)) ∧ w = w' := by
  go_enter Tryd.func60, Tryd.ntmps60
  go_wp2
  go_ret
  exact ⟨rfl, rfl⟩
end Go.Proofs.YtbjnpomcgcbflaaDoor

/- Walks: key.Encode. -/
import Derived.Test.YtbjnpomcgcbflaaDoorA4
set_option linter.unusedVariables false
set_option linter.unusedSimpArgs false
namespace Go.Proofs.YtbjnpomcgcbflaaDoor
open Go.RowKit Go.Deep

set_option maxRecDepth 100000 in
set_option maxHeartbeats 1000000 in
theorem encode_any {A : Option Addr} {ps : List (List UInt8)} {n : Nat} (hn : ps.length = n) (c : Nat) (w : World) (h : Arr BytesE 1 w A ps) (hl : ∀ p ∈ ps, p.length ≤ 1099511627776) (ht : (encB ps).length ≤ 70368744177664) (hn63 : n ≤ 1099511627776) :
    Calls Tryd.prog 37 #[.slice A n c] w (RetB w (encB ps)) := by
  subst hn
  have Hl := Lib.hid hl
  clear hl
  go_enter Tryd.func37, Tryd.ntmps37
  go_wp2_with fail
  go_loopw [3, 8] (fun v i wr => ∃ k : Nat, k ≤ ps.length ∧ i = .int .i64 k ∧ wr.ownsRow w.heap.size 5 1 v (encB (ps.take k)).length (bvs (encB (ps.take k))) ∧ Below w.heap.size w wr) (fun _ i _ => ps.length - (intOf i).toNat)
  case atStart => exact ⟨0, by omega, rfl, World.ownsRow_nil _ _ _ _, Below.refl _ _⟩
  case round =>
    obtain ⟨k, hk, rfl, hown, hB⟩ := hrel
    by_cases hlt : k < ps.length
    · obtain ⟨x, hx⟩ : ∃ x, ps[k]? = some x := ⟨_, List.getElem?_eq_getElem hlt⟩
      obtain ⟨b, o, C, rfl, hC1, ⟨Ax, cx, rfl, hcx, hsx⟩, hcell⟩ := (h.below BytesE.stays hB).get (by decide) hx
      have hc0 : wr.cell? ⟨b, o + k, none⟩ = some (.slice Ax x.length cx) := by simpa using hcell 0 _ rfl
      clear hcell hC1
      have hxl : x.length ≤ 1099511627776 := Hl.out x (List.mem_of_getElem? hx)
      have e1 := encB_take_succ hx
      have e2 := encB_take_le ps (k + 1)
      rw [e1, List.length_append, List.length_append] at e2
      have H1 := Lib.hid e1
      clear e1 hx
      have e3 : [(0 : UInt8), 1].length = 2 := rfl
      rw [e3] at e2
      clear e3
      go_wp2_with fail
      refine (replaceAll_any rfl _ _ _ _ _ _ _ _ (hsx.below (ext_trans (alloc_ext _ _) (alloc_ext _ _))) hcx (by simp) (Seg.of_block (heap_alloc2_new _ _ _) fun j u hu => by simpa [bvs, bv] using hu) hxl).mono ?_
      rintro e w1 ⟨A1, c1, rfl, hc1, -, hs1, hB1⟩
      have hB1' := ext_trans (ext_trans (alloc_ext wr _) (alloc_ext _ _)) hB1
      have hown1 := own_below hown hB1'
      have hB2 := ext_trans hB hB1'
      clear hB1 hB1' hsx
      go_wp2_with (first | (at_builtin; refine wl_append w 5 1 1 (.tmp 12) (.tmp 16) 28 (.int .u8 0) rfl rfl Tryd.underlying28 infoB rfl (by decide) (by decide) rfl rfl hown1 hs1 (by rw [bvs_length, Nat.mul_one]) bvs_one (by omega) hB2 ?_; intro v2 w2 hown2 hB3 _ _) | (at_builtin; refine wl_append w 5 1 1 (.tmp 18) (.tmp 19) 28 (.int .u8 0) rfl rfl Tryd.underlying28 infoB rfl (by decide) (by decide) rfl rfl (own_below hown2 (alloc_ext _ _)) (news := bvs [0, 1]) (Seg.of_block (heap_alloc_new _ _) fun j u hu => by simpa [bvs, bv] using hu) rfl bvs_one (by omega) (ext_trans hB3 (alloc_ext _ _)) ?_; intro v3 w3 hown3 hB4 _ _))
      go_roundw
      case rel =>
        refine ⟨k + 1, by omega, by go_num, ?_, hB4⟩
        rw [H1.out, List.length_append, List.length_append, bvs_append, bvs_append]
        exact hown3
      case measure => simp [intOf]; omega
    · obtain rfl : k = ps.length := by omega
      rw [List.take_length] at hown
      go_wp2_with fail
      go_ret
      exact RetB.of_own hown hB
end Go.Proofs.YtbjnpomcgcbflaaDoor

/- Walks: a state is summed up. -/
import Derived.Test.YtbjnpomcgcbflaaDoorS6
set_option linter.unusedVariables false
set_option linter.unusedSimpArgs false
namespace Go.Proofs.YtbjnpomcgcbflaaDoor
open Go.RowKit Go.Deep

/-- How many bytes of nothing come before the count. -/
def padZ (n : Nat) : Nat := (119 - n % 64) % 64
def be4 (x : Int) : List UInt8 := [UInt8.ofNat (x.toNat / 16777216), UInt8.ofNat (x.toNat / 65536), UInt8.ofNat (x.toNat / 256), UInt8.ofNat x.toNat]
def padded (c : List UInt8) : List UInt8 := c ++ (128 :: List.replicate (padZ c.length) 0 ++ wideB (8 * c.length))
def shaOut (c : List UInt8) : List UInt8 := (blocksTo (padded c) ((padded c).length / 64)).flatMap be4

theorem padZ_lt (n : Nat) : padZ n < 64 := Nat.mod_lt _ (by decide)

set_option maxRecDepth 100000 in
set_option maxHeartbeats 2000000 in
theorem stateSum_any {c ov : List UInt8} (bs : Nat) (w : World) (hT : Took w bs c ov) (hc : c.length ≤ 140737488355328) :
    Calls Tryd.prog 47 #[.pointer (some ⟨bs, 0, none⟩)] w (RetF w (shaOut c)) := by
  have HT := Lib.hid hT
  clear hT
  go_enter Tryd.func47, Tryd.ntmps47
  go_wp2_with (go_at_call 57; refine (copy_any bs _ HT.out).mono ?_; rintro e w1 ⟨b', rfl, hb', hT1, hB1⟩)
  have hlt1 : b' < w1.heap.size := (Array.getElem?_eq_some_iff.1 hT1.at_.cells).1
  have HT1 := Lib.hid hT1
  clear hT1
  go_loopw [4] (fun v wr => ∃ z : Nat, z ≤ padZ c.length ∧ wr.ownsRow w1.heap.size 5 1 v (1 + z) (bvs (128 :: List.replicate z 0)) ∧ Hid (Below w1.heap.size w1 wr)) (fun v _ => match v with | .slice _ n _ => 65 - n | _ => 0)
  case atStart => exact ⟨0, Nat.zero_le _, own_cast (own_lit _ _ _ [bv 128] 1 1 (Nat.le_refl _) (by decide) rfl) rfl rfl, alloc_ext _ _⟩
  case round =>
    obtain ⟨z, hz, hown, HB⟩ := hrel
    have hpz := padZ_lt c.length
    have c72 : wr.cell? ⟨bs, 72, none⟩ = some (.int .i64 c.length) := by
      rw [cell_of_row _ _ _ _ _ _ (heap_keep (heap_keep HT.out.at_.cells hB1) HB.out)]
      have h1 := HT.out.at_.h8
      have h2 := HT.out.at_.o64
      simp [stCells, u32s, bvs, h1, h2]
    obtain ⟨A, cA, rfl, hcA, hcA2, hseg, hnil⟩ := own_seg hown
    have hsum : IntKind.i64.wrap ((c.length : Int) + ((1 + z : Nat) : Int)) = (c.length : Int) + ((1 + z : Nat) : Int) := IntWalk.i64_in _ (by omega)
    by_cases hz2 : z < padZ c.length
    · have hne : ¬ (((c.length : Int) + ((1 + z : Nat) : Int)) % 64 = 56) := by
        unfold padZ at hz2 hpz
        omega
      go_wp2_with (at_builtin; refine wl_append_lit w1 5 1 1 (.tmp 22) (.tmp 23) 28 (.int .u8 0) rfl rfl Tryd.underlying28 infoB rfl (by decide) (by decide) 1 rfl rfl hown rfl (by simp [Value.oneCell']) (by omega) HB.out ?_; intro v2 w2 hown2 hB2 _ _)
      go_roundw
      case rel => exact ⟨z + 1, by omega, own_cast hown2 (by omega) (by simp [bvs, bv, List.replicate_succ']), hB2⟩
      case measure =>
        obtain ⟨A2, c2, rfl, -, -, -, -⟩ := own_seg hown2
        simp
        omega
    · obtain rfl : z = padZ c.length := by omega
      have heq : ((c.length : Int) + ((1 + padZ c.length : Nat) : Int)) % 64 = 56 := by
        unfold padZ
        omega
      go_wp2_with fail
      push_cast
      clear hz2 heq hsum hz c72
      obtain ⟨wp, hwp⟩ : ∃ x, x = wr := ⟨_, rfl⟩
      subst hwp
      go_loopw [4, 31] (fun v i wr => ∃ k : Nat, k ≤ 8 ∧ i = .int .i64 k ∧ wr.ownsRow w1.heap.size 5 1 v (1 + padZ c.length + k) (bvs (128 :: List.replicate (padZ c.length) 0 ++ (wideB (8 * c.length)).take k)) ∧ Hid (Below w1.heap.size w1 wr)) (fun _ i _ => 8 - (intOf i).toNat)
      case atStart => exact ⟨0, by omega, rfl, own_cast hown rfl (by simp), HB.out⟩
      case round =>
        obtain ⟨k, hk, rfl, hown, HB2⟩ := hrel
        by_cases hk8 : k < 8
        · go_wp2_with (at_builtin; refine wl_append_lit w1 5 1 1 (.tmp 34) (.tmp 41) 28 (.int .u8 0) rfl rfl Tryd.underlying28 infoB rfl (by decide) (by decide) 1 rfl rfl hown rfl (by simp [Value.oneCell']) (by omega) HB2.out ?_; intro v2 w2 hown2 hB2 _ _)
          refine ⟨⟨v2, _, _, ⟨k + 1, by omega, by go_num, own_cast hown2 (by omega) ?_, trivial⟩, rfl, rfl, rfl⟩, by simp [intOf]; omega⟩
          have e1 : (wideB (8 * c.length)).take (k + 1) = (wideB (8 * c.length)).take k ++ [UInt8.ofNat (((8 * c.length : Int) % 18446744073709551616).toNat / 2 ^ (8 * (7 - k)))] := by
            rw [List.take_succ_eq_append_getElem (by rw [wideB_length]; omega)]
            simp [wideB]
          rw [e1]
          simp only [bvs, List.map_cons, List.map_append, List.map_nil, List.cons_append, List.append_assoc]
          congr 3
          rw [bv_ofNat, show 56 - 8 * k = 8 * (7 - k) by omega, show (8 * (c.length : Int) % 18446744073709551616).toNat = c.length * 8 by omega]
          push_cast
          rfl
        · obtain rfl : k = 8 := by omega
          rw [List.take_of_length_le (by rw [wideB_length]; exact Nat.le_refl _)] at hown
          obtain ⟨A4, c4, rfl, hc4, hc42, hseg4, hnil4⟩ := own_seg hown
          rw [maxLen_eq] at hc42
          obtain ⟨pd, hpd⟩ : ∃ pd, pd = 128 :: List.replicate (padZ c.length) 0 ++ wideB (8 * c.length) := ⟨_, rfl⟩
          have hpl : pd.length = 1 + padZ c.length + 8 := by rw [hpd]; simp [wideB_length]; omega
          have hgeA : ∀ a, A4 = some a → some a.block ≠ some b' := fun a ha e => by
            have := own_ge hown a.block (by rw [ha]; rfl)
            injection e with e
            omega
          rw [← hpd] at hseg4 hown
          rw [← hpl] at hown hc4 ⊢
          have HPD := Lib.hid hpd
          have HO := Lib.hid hown
          have hlen : c.length + pd.length ≤ 9223372036854775807 := by omega
          have HPL := Lib.hid hpl
          clear hpd hown hpl
          have HT5 : Took wr b' c ov := ⟨⟨heap_keep HT1.out.at_.cells HB2.out, HT1.out.at_.h8, HT1.out.at_.o64⟩, HT1.out.tail⟩
          have hmk : ∀ w, (Instr.makeSlice 28 (.int .i64 0) (.int .i64 32)).run Tryd.prog w = .ok (.slice (some ⟨w.heap.size, 0, none⟩) 0 32) (w.alloc (.cells (bvs (List.replicate 32 0)).toArray 5)) := fun _ => by kernel_rfl
          have HT6 := Lib.hid HT5
          have HS4 := Lib.hid hseg4
          clear HT5 hseg4
          have hwr := write_any c4 hc4 hc42 hlen b' wr HT6.out HS4.out (fun _ => hgeA)
          go_wp2_with fail
          refine hwr.mono ?_
          rintro e w5 ⟨rfl, ⟨ov5, hT7⟩, hg5⟩
          have h7 : Hid (w5.heap[b']? = some (.cells (stCells (blocksTo (padded c) ((padded c).length / 64)) ov5 (padded c).length).toArray 81 (0, 0))) := by
            have h := hT7.at_.cells
            rw [HPD.out] at h
            exact h
          have HG5 := Lib.hid hg5
          obtain ⟨hh, hhe⟩ : ∃ hh, hh = blocksTo (padded c) ((padded c).length / 64) := ⟨_, rfl⟩
          have hh8 : hh.length = 8 := hhe ▸ blocksTo_length _ _
          have hhw : ∀ x ∈ hh, W32 x := hhe ▸ blocksTo_w32 _ _
          rw [← hhe] at h7
          have HHE := Lib.hid hhe
          have hb5 : b' < w5.heap.size := (Array.getElem?_eq_some_iff.1 h7.out).1
          have hlen8 : (u32s hh).length = 8 := by simp [u32s, hh8]
          have hra : ∀ o, (w5.alloc o).rangeAt b' 0 (u32s hh) := fun o j v hv => by
            rw [cell_of_row _ _ _ _ _ _ (heap_keep h7.out (alloc_ext w5 o)), Nat.zero_add]
            simp only [stCells, List.getElem?_toArray]
            rw [List.getElem?_append_left (List.getElem?_eq_some_iff.1 hv).1]
            exact hv
          have hra' := Lib.hid hra
          have HB5 : Hid (Below w.heap.size w w5) := by
            have h1 := ext_trans hB1 HB2.out
            exact ⟨HG5.out.os.trans h1.os, HG5.out.tape.trans h1.tape, HG5.out.output.trans h1.output, Nat.le_trans h1.size HG5.out.size, fun i hi => (HG5.out.block i (Nat.lt_of_lt_of_le hi h1.size) (by intro e; injection e with e; omega)).trans (h1.block i hi)⟩
          clear hT7 hg5 hwr hhe hra
          go_wp2_with (refine wpList_load_mid rfl 77 (.tmp 50) rfl b' 0 rfl (u32s hh) _ (hra'.out _) Tryd.underlying77 rfl (by rw [hlen8]; kernel_rfl) ?_)
          push_cast
          obtain ⟨cs8, hcs8⟩ : ∃ cs8, cs8 = (u32s hh).toArray := ⟨_, rfl⟩
          have h8get : ∀ k, k < 8 → cs8[k]? = some (.int .u32 (hh.getD k 0)) := fun k hk => by
            rw [hcs8, List.getElem?_toArray]
            exact u32s_getD (by omega)
          have h8sz : cs8.size = 8 := by rw [hcs8]; simpa using hlen8
          rw [← hcs8]
          have HCS := Lib.hid hcs8
          clear hcs8 HB HB2 HO HT1 hra' HS4 HT6
          go_loopw [7, 52] (fun v i wr => ∃ k : Nat, k ≤ 8 ∧ i = .int .i64 k ∧ wr.ownsRow w5.heap.size 5 1 v (4 * k) (bvs ((hh.take k).flatMap be4)) ∧ Hid (Below w5.heap.size w5 wr)) (fun _ i _ => 8 - (intOf i).toNat)
          case atStart => exact ⟨0, by omega, rfl, ⟨rfl, Or.inr ⟨w5.heap.size, 32, _, rfl, Nat.le_refl _, heap_alloc_new _ _, by omega, by decide, by simp [bvs], by simp [bvs]⟩⟩, alloc_ext _ _⟩
          case round =>
            obtain ⟨k, hk, rfl, hown, HB6⟩ := hrel
            by_cases hk8 : k < 8
            · have hgk := h8get k hk8
              obtain ⟨x, hx⟩ : ∃ x, x = hh.getD k 0 := ⟨_, rfl⟩
              obtain ⟨hx0, hx1⟩ : W32 x := hx ▸ getD_w32 hhw _
              rw [← hx] at hgk
              have HX := Lib.hid hx
              have H8 := Lib.hid h8get
              clear hx h8get
              have hin : (0 : Int) ≤ k ∧ (k : Int) < ((8 : Nat) : Int) := by omega
              have hix : ∀ W, (Instr.index 77 (.agg cs8) (.int .i64 k)).run Tryd.prog W = .ok (.int .u32 x) W := fun W => by
                simp [Instr.index, run_underlying Tryd.underlying77, asIntOf, go_sem, hin, hk8, hgk]
              go_wp2_with (at_builtin; refine wl_append_lit w5 5 1 1 (.tmp 55) (.tmp 67) 28 (.int .u8 0) rfl rfl Tryd.underlying28 infoB rfl (by decide) (by decide) 4 rfl rfl hown rfl (by simp [Value.oneCell']) (by omega) HB6.out ?_; intro v2 w2 hown2 hB2 _ _)
              refine ⟨⟨k + 1, by omega, by go_num, own_cast hown2 (by omega) ?_, hB2⟩, by simp [intOf]; omega⟩
              have e1 : hh.take (k + 1) = hh.take k ++ [x] := by
                rw [List.take_succ_eq_append_getElem (by omega), HX.out]
                simp [List.getD_eq_getElem?_getD, show k < hh.length by omega]
              rw [e1, List.flatMap_append, bvs_append]
              congr 1
              obtain ⟨n, rfl⟩ := Int.eq_ofNat_of_zero_le hx0
              simp [be4, bvs, bv_ofNat]
              omega
            · obtain rfl : k = 8 := by omega
              rw [List.take_of_length_le (by omega)] at hown
              go_wp2_with fail
              go_ret
              rw [shaOut, ← HHE.out]
              exact RetF.of_own hown (ext_trans HB5.out HB6.out) HB5.out.size
end Go.Proofs.YtbjnpomcgcbflaaDoor

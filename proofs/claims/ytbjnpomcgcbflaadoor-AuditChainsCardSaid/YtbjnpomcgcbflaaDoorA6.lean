/- Walks: the document's number in eight bytes, and parts as one key. -/
import Derived.Test.YtbjnpomcgcbflaaDoorA2
import Derived.Test.YtbjnpomcgcbflaaDoorP1
set_option linter.unusedVariables false
set_option linter.unusedSimpArgs false
namespace Go.Proofs.YtbjnpomcgcbflaaDoor
open Go.RowKit Go.Deep

theorem ref_wide_at (n : Int) (k : Nat) (hk : k < 8) : (n % 18446744073709551616) / 2 ^ (8 * (7 - k)) % 256 = (((n % 18446744073709551616).toNat / 2 ^ (8 * (7 - k)) % 256 : Nat) : Int) := by
  obtain ⟨m, hm⟩ := Int.eq_ofNat_of_zero_le (Int.emod_nonneg n (show (18446744073709551616 : Int) ≠ 0 by decide))
  rw [hm]
  simp
theorem fill_back {l : List UInt8} {k : Nat} (hk : k < l.length) (b : UInt8) (hb : l[k] = b) :
    (bvs (List.replicate (k + 1) 0 ++ l.drop (k + 1))).toArray.setIfInBounds k (bv b) = (bvs (List.replicate k 0 ++ l.drop k)).toArray := by
  subst hb
  rw [List.setIfInBounds_toArray]
  congr 1
  apply List.ext_getElem?
  intro i
  simp only [bvs]
  grind

set_option maxHeartbeats 1000000 in
theorem refWide_any (n : Int) (w : World) : Calls Tryd.prog 54 #[.int .i64 n] w (RetB w (wideB n)) := by
  have hmk : ∀ w, (Instr.makeSlice 28 (.int .i64 8) (.int .i64 8)).run Tryd.prog w = .ok (.slice (some ⟨w.heap.size, 0, none⟩) 8 8) (w.alloc (.cells (bvs (List.replicate 8 0)).toArray 5)) := fun _ => by kernel_rfl
  go_enter Tryd.func54, Tryd.ntmps54
  go_wp2
  go_loopw [3, 5] (fun u i wr => ∃ k : Nat, k ≤ 8 ∧ i = .int .i64 ((k : Int) - 1) ∧ u = .int .u64 ((n % 18446744073709551616) / 2 ^ (8 * (8 - k))) ∧ Hid (wr.heap[w.heap.size]? = some (.cells (bvs (List.replicate k 0 ++ (wideB n).drop k)).toArray 5 (0, 0))) ∧ Below w.heap.size w wr) (fun _ i _ => (intOf i + 1).toNat)
  case atStart =>
    refine ⟨8, by omega, rfl, ?_, ?_, (Below.refl _ _).alloc (Nat.le_refl _) _⟩
    · simp [IntKind.wrap_u64]
    · have := heap_alloc_new w (.cells (bvs (List.replicate 8 0)).toArray 5)
      simpa [Hid, wideB_length, List.drop_of_length_le] using this
  case round =>
    obtain ⟨k, hk, rfl, rfl, HG, hB⟩ := hrel
    by_cases hlt : 0 < k
    · obtain ⟨j, rfl⟩ : ∃ j, k = j + 1 := ⟨k - 1, by omega⟩
      obtain ⟨X, hX⟩ : ∃ X, X = (n % 18446744073709551616) / 2 ^ (8 * (8 - (j + 1))) := ⟨_, rfl⟩
      have hX0 : 0 ≤ X := hX ▸ Int.ediv_nonneg (Int.emod_nonneg n (by decide)) (Int.pow_nonneg (by decide))
      have hX1 : X ≤ 18446744073709551615 := by
        rw [hX]
        have h1 := Int.ediv_le_self (2 ^ (8 * (8 - (j + 1)))) (Int.emod_nonneg n (show (18446744073709551616 : Int) ≠ 0 by decide))
        have h2 := Int.emod_lt_of_pos n (show (0 : Int) < 18446744073709551616 by decide)
        omega
      rw [← hX]
      have HX := Lib.hid hX
      clear hX
      have hc : ∃ v, wr.cell? ⟨w.heap.size, j, none⟩ = some v := by
        rw [cell_of_row _ _ _ _ _ _ HG.out]
        exact ⟨_, Array.getElem?_eq_getElem (by simp [bvs, wideB_length]; omega)⟩
      obtain ⟨v0, hc⟩ := hc
      have hf := frozen_of_row wr w.heap.size j _ _ HG.out
      have ej : ((j + 1 : Nat) : Int) - 1 = j := by omega
      rw [ej]
      clear ej
      go_wp2
      go_roundw
      case rel =>
        refine ⟨j, by omega, rfl, ?_, ?_, hB.setCell (Nat.le_refl _) _⟩
        · rw [HX.out, Int.ediv_ediv_of_nonneg (Int.pow_nonneg (by decide)), show 8 * (8 - j) = 8 * (8 - (j + 1)) + 8 from by omega, Int.pow_add]
          rfl
        · have hs := heap_setCell_same wr w.heap.size j _ _ (.int .u8 (X % 256)) HG.out
          have e : (.int .u8 (X % 256) : Value) = bv (UInt8.ofNat ((n % 18446744073709551616).toNat / 2 ^ (8 * (7 - j)))) := by
            rw [bv_ofNat, HX.out, show 8 - (j + 1) = 7 - j from by omega, ref_wide_at n j (by omega)]
          rw [e, fill_back (by rw [wideB_length]; omega) _ (by simp [wideB])] at hs
          rw [e]
          exact hs
      case measure => simp [intOf] <;> omega
    · obtain rfl : k = 0 := by omega
      go_wp2
      go_ret
      exact RetB.mk' (by simp [wideB_length]) (Nat.le_refl _) (by decide) (Seg.of_block HG.out fun j u hu => by simpa using hu) hB

set_option maxHeartbeats 400000 in
theorem refZero_any (w : World) : Calls Tryd.prog 19 #[] w (RetB w (List.replicate 32 0)) := by
  have hmk : ∀ w, (Instr.makeSlice 28 (.int .i64 32) (.int .i64 32)).run Tryd.prog w = .ok (.slice (some ⟨w.heap.size, 0, none⟩) 32 32) (w.alloc (.cells (bvs (List.replicate 32 0)).toArray 5)) := fun _ => by kernel_rfl
  go_enter Tryd.func19, Tryd.ntmps19
  go_wp2
  go_ret
  refine RetB.mk' (by simp) (Nat.le_refl _) (by decide) (Seg.of_block (heap_alloc_new _ _) fun j u hu => by simpa using hu) ?_
  exact (Below.refl _ _).alloc (Nat.le_refl _) _

theorem escB_take_succ {x : List UInt8} {m : Nat} {b : UInt8} (h : x[m]? = some b) : escB (x.take (m + 1)) = escB (x.take m) ++ (if b = 0 then [0, 255] else [b]) := by
  rw [List.take_add_one, h, escB_append]
  simp [escB]
theorem escB_take_le (x : List UInt8) (m : Nat) : (escB (x.take m)).length ≤ (escB x).length := by
  conv => rhs; rw [← List.take_append_drop m x]
  rw [escB_append, List.length_append]
  omega

set_option maxRecDepth 100000 in
set_option maxHeartbeats 2000000 in
theorem refEncode_any {A : Option Addr} {ps : List (List UInt8)} {n : Nat} (hn : ps.length = n) (c : Nat) (w : World) (h : Arr BytesE 1 w A ps) (hl : ∀ p ∈ ps, p.length ≤ 1099511627776) (ht : (encB ps).length ≤ 70368744177664) (hn63 : n ≤ 1099511627776) :
    Calls Tryd.prog 43 #[.slice A n c] w (RetB w (encB ps)) := by
  subst hn
  have Hl := Lib.hid hl
  clear hl
  go_enter Tryd.func43, Tryd.ntmps43
  go_wp2_with fail
  go_loopw [3, 4] (fun v i wr => ∃ k : Nat, k ≤ ps.length ∧ i = .int .i64 k ∧ wr.ownsRow w.heap.size 5 1 v (encB (ps.take k)).length (bvs (encB (ps.take k))) ∧ Below w.heap.size w wr) (fun _ i _ => ps.length - (intOf i).toNat)
  case atStart => exact ⟨0, by omega, rfl, World.ownsRow_nil _ _ _ _, Below.refl _ _⟩
  case round =>
    obtain ⟨k, hk, rfl, hown, hB⟩ := hrel
    by_cases hlt : k < ps.length
    · obtain ⟨x, hx⟩ : ∃ x, ps[k]? = some x := ⟨_, List.getElem?_eq_getElem hlt⟩
      obtain ⟨b, o, C, rfl, hC1, ⟨Ax, cx, rfl, hcx, hsx⟩, hcell⟩ := h.get (by decide) hx
      have hcw : Hid (w.cell? ⟨b, o + k, none⟩ = some (.slice Ax x.length cx)) := by
        show _ = _
        simpa using hcell 0 _ rfl
      clear hcell hC1
      have hxl : x.length ≤ 1099511627776 := Hl.out x (List.mem_of_getElem? hx)
      have e1 := encB_take_succ hx
      have e2 := encB_take_le ps (k + 1)
      rw [e1, List.length_append, List.length_append] at e2
      have H1 := Lib.hid e1
      clear e1 hx
      have e3 : [(0 : UInt8), 1].length = 2 := rfl
      rw [e3] at e2
      clear e3
      obtain ⟨pre, hpre⟩ : ∃ pre, pre = encB (ps.take k) := ⟨_, rfl⟩
      rw [← hpre] at hown e2 H1
      clear hpre
      obtain ⟨wo, rfl⟩ : ∃ wo : World, wo = wr := ⟨_, rfl⟩
      go_wp2_with fail
      go_loopw [3, 5] (fun v j wr => ∃ m : Nat, m ≤ x.length ∧ j = .int .i64 m ∧ wr.ownsRow w.heap.size 5 1 v (pre ++ escB (x.take m)).length (bvs (pre ++ escB (x.take m))) ∧ Below w.heap.size w wr) (fun _ j _ => x.length - (intOf j).toNat)
      case atStart => exact ⟨0, by omega, rfl, by simpa [escB] using hown, hB⟩
      case round =>
        clear hown hB
        obtain ⟨m, hm, rfl, hown, hB⟩ := hrel
        have hc0 : wr.cell? ⟨b, o + k, none⟩ = some (.slice Ax x.length cx) := (hB.cell (p := ⟨b, o + k, none⟩) (World.block_lt_of_cell? w _ hcw.out)).trans hcw.out
        by_cases hlm : m < x.length
        · obtain ⟨d, hd⟩ : ∃ d, x[m]? = some d := ⟨_, List.getElem?_eq_getElem hlm⟩
          obtain ⟨bx, ox, rfl, hcd⟩ := (hsx.below hB).at_ (j := m) (u := bv d) (by simp [bvs, hd])
          have hcd' : wr.cell? ⟨bx, ox + m, none⟩ = some (.int .u8 d.toNat) := hcd
          have e4 := escB_take_succ hd
          have e5 := escB_take_le x (m + 1)
          rw [e4] at e5
          rw [List.length_append] at hown
          have Hxm : Hid ((bvs x)[m]? = some (bv d)) := by show _ = _; simp [bvs, hd]
          clear hcd hd
          by_cases h0 : d = 0
          · have ht : ((d.toNat : Int) == 0) = true := by rw [h0]; rfl
            rw [if_pos h0] at e4 e5
            simp only [List.length_append, List.length_cons, List.length_nil] at e5
            have H4 := Lib.hid e4
            have H0 := Lib.hid h0
            clear e4 h0
            go_wp2_with (first | (at_builtin; refine wl_append_lit w 5 1 1 (.tmp 21) (.tmp 29) 28 (.int .u8 0) rfl rfl Tryd.underlying28 infoB rfl (by decide) (by decide) 1 rfl rfl hown rfl (by simp [Value.oneCell']) (by omega) hB ?_; intro v2 w2 hown2 hB2 _ _; have hc2 : w2.cell? ⟨b, o + k, none⟩ = some (.slice (some ⟨bx, ox, none⟩) x.length cx) := (hB2.cell (p := ⟨b, o + k, none⟩) (World.block_lt_of_cell? w _ hcw.out)).trans hcw.out; have hd2 : w2.cell? ⟨bx, ox + m, none⟩ = some (.int .u8 d.toNat) := (hsx.below hB2).cell (u := bv d) Hxm.out) | (at_builtin; refine wl_append_lit w 5 1 1 (.tmp 39) (.tmp 40) 28 (.int .u8 0) rfl rfl Tryd.underlying28 infoB rfl (by decide) (by decide) 1 rfl rfl hown2 rfl (by simp [Value.oneCell']) (by omega) hB2 ?_; intro v3 w3 hown3 hB3 _ _))
            go_roundw
            case rel =>
              refine ⟨m + 1, by omega, by go_num, ?_, hB3⟩
              rw [H4.out]
              exact own_cast hown3 (by simp only [List.length_append, List.length_cons, List.length_nil]; omega) (by rw [H0.out]; simp [bvs, bv])
            case measure => simp [intOf] <;> omega
          · have ht : ((d.toNat : Int) == 0) = false := by
              rw [beq_eq_false_iff_ne]
              intro h
              exact h0 (UInt8.toNat_inj.1 (by simpa using h))
            rw [if_neg h0] at e4 e5
            simp only [List.length_append, List.length_cons, List.length_nil] at e5
            have H4 := Lib.hid e4
            clear e4 h0
            go_wp2_with (at_builtin; refine wl_append_lit w 5 1 1 (.tmp 21) (.tmp 29) 28 (.int .u8 0) rfl rfl Tryd.underlying28 infoB rfl (by decide) (by decide) 1 rfl rfl hown rfl (by simp [Value.oneCell']) (by omega) hB ?_; intro v2 w2 hown2 hB2 _ _; have hc2 : w2.cell? ⟨b, o + k, none⟩ = some (.slice (some ⟨bx, ox, none⟩) x.length cx) := (hB2.cell (p := ⟨b, o + k, none⟩) (World.block_lt_of_cell? w _ hcw.out)).trans hcw.out; have hd2 : w2.cell? ⟨bx, ox + m, none⟩ = some (.int .u8 d.toNat) := (hsx.below hB2).cell (u := bv d) Hxm.out)
            go_roundw
            case rel =>
              refine ⟨m + 1, by omega, by go_num, ?_, hB2⟩
              rw [H4.out]
              exact own_cast hown2 (by simp only [List.length_append, List.length_cons, List.length_nil]; omega) (by simp [bvs, bv])
            case measure => simp [intOf] <;> omega
        · obtain rfl : m = x.length := by omega
          rw [List.take_length] at hown
          go_wp2_with (first | (at_builtin; refine wl_append_lit w 5 1 1 (.tmp 42) (.tmp 43) 28 (.int .u8 0) rfl rfl Tryd.underlying28 infoB rfl (by decide) (by decide) 1 rfl rfl hown rfl (by simp [Value.oneCell']) (by simp only [List.length_append]; omega) hB ?_; intro v2 w2 hown2 hB2 _ _) | (at_builtin; refine wl_append_lit w 5 1 1 (.tmp 45) (.tmp 46) 28 (.int .u8 0) rfl rfl Tryd.underlying28 infoB rfl (by decide) (by decide) 1 rfl rfl hown2 rfl (by simp [Value.oneCell']) (by simp only [List.length_append]; omega) hB2 ?_; intro v3 w3 hown3 hB3 _ _))
          go_roundw
          case rel =>
            refine ⟨k + 1, by omega, by go_num, ?_, hB3⟩
            rw [H1.out]
            exact own_cast hown3 (by simp only [List.length_append, List.length_cons, List.length_nil]) (by simp [bvs, bv])
          case measure => simp [intOf] <;> omega
    · obtain rfl : k = ps.length := by omega
      rw [List.take_length] at hown
      go_wp2_with fail
      go_ret
      exact RetB.of_own hown hB
end Go.Proofs.YtbjnpomcgcbflaaDoor

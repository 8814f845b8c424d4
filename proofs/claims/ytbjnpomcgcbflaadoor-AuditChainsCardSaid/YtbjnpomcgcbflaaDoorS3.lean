/- Walks: a block is worked into a state. -/
import Derived.Test.YtbjnpomcgcbflaaDoorS2
import Derived.Test.YtbjnpomcgcbflaaDoorP3
import Derived.Test.YtbjnpomcgcbflaaDoorReg
import Derived.Test.YtbjnpomcgcbflaaDoorS4
set_option linter.unusedVariables false
set_option linter.unusedSimpArgs false
namespace Go.Proofs.YtbjnpomcgcbflaaDoor
open Go.RowKit Go.Deep

theorem u32s_getD {l : List Int} {i : Nat} (h : i < l.length) : (u32s l)[i]? = some (.int .u32 (l.getD i 0)) := by
  simp [u32s, List.getD_eq_getElem?_getD, h]
theorem u32_fill {l : List Int} {n k : Nat} (hl : l.length = k) (hk : k < n) (x : Int) :
    (u32s (l ++ List.replicate (n - k) 0)).toArray.setIfInBounds k (.int .u32 x) = (u32s (l ++ [x] ++ List.replicate (n - (k + 1)) 0)).toArray := by
  rw [List.setIfInBounds_toArray]
  congr 1
  apply List.ext_getElem?
  intro i
  simp only [u32s]
  grind
set_option maxHeartbeats 400000 in
theorem turn_num (x k : Int) (h0 : 0 ≤ x) (h1 : x < 4294967296) (hk : 1 ≤ k) (hk2 : k ≤ 31) (w : World) : Calls Tryd.prog 64 #[.int .u32 x, .int .i64 k] w fun e w' => e = .returned (.int .u32 (rotr x k.toNat)) ∧ w = w' := by
  obtain ⟨j, rfl⟩ := Int.eq_ofNat_of_zero_le (show 0 ≤ k by omega)
  exact turn_any x j h0 h1 (by omega) (by omega) w

theorem turn_still (x k : Int) (h0 : 0 ≤ x) (h1 : x < 4294967296) (hk : 1 ≤ k) (hk2 : k ≤ 31) (w : World) : Calls Tryd.prog 64 #[.int .u32 x, .int .i64 k] w fun e w' => e = .returned (.int .u32 (rotr x k.toNat)) ∧ w' = w :=
  (turn_num x k h0 h1 hk hk2 w).mono fun _ _ ⟨h, k⟩ => ⟨h, k.symm⟩

theorem shaK_w32 : ∀ x ∈ shaK, W32 x := by
  have h : shaK.all (fun x => decide (0 ≤ x ∧ x < 4294967296)) = true := by kernel_rfl
  intro x hx
  show 0 ≤ x ∧ x < 4294967296
  exact of_decide_eq_true (List.all_eq_true.1 h x hx)

/-- The words after k of the eight sums. -/
def sumTo (h v : List Int) (k : Nat) : List Int := (List.range 8).map fun i => if i < k then add32 (h.getD i 0) (v.getD i 0) else h.getD i 0
theorem sumTo_zero (v : List Int) {h : List Int} (h8 : h.length = 8) : sumTo h v 0 = h := by
  match h, h8 with
  | [x0, x1, x2, x3, x4, x5, x6, x7], _ => rfl
theorem sumTo_length (h v : List Int) (k : Nat) : (sumTo h v k).length = 8 := by simp [sumTo]
theorem sumTo_getD (h v : List Int) (k i : Nat) (hi : i < 8) : (sumTo h v k)[i]? = some (if i < k then add32 (h.getD i 0) (v.getD i 0) else h.getD i 0) := by
  simp [sumTo, hi]
theorem st_set {h ov : _} {n x : Int} {k : Nat} (hk : k < h.length) : (stCells h ov n).toArray.setIfInBounds k (.int .u32 x) = (stCells (h.set k x) ov n).toArray := by
  rw [List.setIfInBounds_toArray]
  congr 1
  simp only [stCells, u32s, List.map_set]
  rw [List.set_append_left _ _ (by simpa using hk)]
theorem sumTo_set {h v : List Int} {k : Nat} (hk : k < 8) : (sumTo h v k).set k (add32 (h.getD k 0) (v.getD k 0)) = sumTo h v (k + 1) := by
  apply List.ext_getElem?
  intro i
  by_cases hi : i < 8
  · rw [sumTo_getD _ _ _ _ hi, List.getElem?_set]
    split
    · subst_vars
      simp [sumTo_length, hi]
    · rw [sumTo_getD _ _ _ _ hi]
      by_cases hik : i < k
      · rw [if_pos hik, if_pos (by omega)]
      · rw [if_neg hik, if_neg (by omega)]
  · rw [List.getElem?_eq_none (by simp [sumTo_length]; omega), List.getElem?_eq_none (by simp [sumTo_length]; omega)]
theorem gb_set {w w' : World} {b : Nat} (h : w.grownBy w' (some b)) (j : Nat) (v : Value) : w.grownBy (w'.setCell ⟨b, j, none⟩ v) (some b) :=
  ⟨h.os, h.tape, h.output, by simpa [World.setCell] using h.size, fun i hi hne => (RowKit.Below.heap_setCell _ _ _ _ (by intro e; exact hne (by rw [e]))).trans (h.block i hi hne)⟩
theorem gb_drew {w w' : World} {row : Option Nat} (h : w.grownBy w' row) (n : Nat) : w.grownBy (w'.drewN n) row := ⟨h.os, h.tape, h.output, h.size, h.block⟩

set_option maxRecDepth 100000 in
set_option maxHeartbeats 2000000 in
theorem block_any {A : Option Addr} {m : List UInt8} (hm : m.length = 64) (c : Nat) (hc : 64 ≤ c) (hc2 : c ≤ 9223372036854775807) (bs : Nat) {h : List Int} {ov : List UInt8} {n : Int} (hw : ∀ x ∈ h, W32 x) (w : World) (hs : StateAt w bs h ov n) (hb : Seg w A (bvs m)) :
    Calls Tryd.prog 56 #[.pointer (some ⟨bs, 0, none⟩), .slice A 64 c] w fun e w' => e = .returned (.tuple #[]) ∧ StateAt w' bs (compress h shaK m) ov n ∧ w.grownBy w' (some bs) := by
  obtain ⟨b, o, rfl⟩ := hb.addrB (by omega)
  have hbs : bs < w.heap.size := (Array.getElem?_eq_some_iff.1 hs.cells).1
  obtain ⟨i8, hi8, hsz8⟩ := infoU8 infoB
  go_enter Tryd.func56, Tryd.ntmps56
  go_wp2_with fail
  go_loopw [20] (fun i wr => ∃ k : Nat, k ≤ 64 ∧ i = .int .i64 k ∧ Hid (wr.heap[w.heap.size]? = some (.cells (u32s (schedTo m k ++ List.replicate (64 - k) 0)).toArray 86 (0, 0))) ∧ Below w.heap.size w wr) (fun i _ => 64 - (intOf i).toNat)
  case atStart => exact ⟨0, by omega, rfl, heap_alloc_new _ _, alloc_ext _ _⟩
  case round =>
    obtain ⟨k, hk, rfl, HG, hB⟩ := hrel
    by_cases hlt : k < 64
    · have hfr := frozen_of_row wr w.heap.size k _ _ HG.out
      have hck : ∃ v0, wr.cell? ⟨w.heap.size, k, none⟩ = some v0 := by
        rw [cell_of_row _ _ _ _ _ _ HG.out]
        exact ⟨_, Array.getElem?_eq_getElem (by simp [u32s, schedTo_length]; omega)⟩
      obtain ⟨v0, hck⟩ := hck
      by_cases h16 : k < 16
      · obtain ⟨A1, cut1, cA1, -, -⟩ := cut_from 28 5 Tryd.underlying28 hi8 (some ⟨b, o, none⟩) 64 c (4 * (k : Int)) (by omega) (by omega)
        simp only [hsz8, show (4 * (k : Int)).toNat = 4 * k from by omega] at cut1 cA1
        have hS1 : Seg wr A1 (bvs (m.drop (4 * k))) := by
          rw [bvs_drop]
          simpa using seg_from (sz := 1) (n := 64) (hb.below hB) (by rw [bvs_length, hm]) hc cA1 (by omega)
        have HC := Lib.hid cA1
        clear cA1
        go_wp2_with (go_at_call 63; refine (shaWide_any (l := m.drop (4 * k)) (by rw [List.length_drop, hm]) _ _ hS1 (by omega) (by omega) (by omega)).mono ?_; rintro e w' ⟨rfl, rfl⟩)
        go_roundw
        case rel =>
          refine ⟨k + 1, by omega, by go_num, ?_, hB.setCell (Nat.le_refl _) _⟩
          have hs1 := heap_setCell_same wr w.heap.size k _ _ (.int .u32 (be32 ((m.drop (4 * k)).take 4))) HG.out
          rw [u32_fill (schedTo_length m k) hlt] at hs1
          show _ = _
          rw [schedTo, if_pos h16]
          exact hs1
        case measure => simp [intOf] <;> omega
      · have hcj : ∀ j, j < k → wr.cell? ⟨w.heap.size, j, none⟩ = some (.int .u32 ((schedTo m k).getD j 0)) := fun j hj => by
          rw [cell_of_row _ _ _ _ _ _ HG.out]
          have e := u32s_getD (l := schedTo m k) (i := j) (by rw [schedTo_length]; exact hj)
          rw [← e]
          simp only [u32s, List.map_append, List.getElem?_toArray]
          rw [List.getElem?_append_left (by simp [schedTo_length]; exact hj)]
        have c15 := hcj (k - 15) (by omega)
        have c2 := hcj (k - 2) (by omega)
        have c7 := hcj (k - 7) (by omega)
        have c16 := hcj (k - 16) (by omega)
        clear hcj
        obtain ⟨x, hx⟩ : ∃ x, x = (schedTo m k).getD (k - 15) 0 := ⟨_, rfl⟩
        obtain ⟨y, hy⟩ : ∃ y, y = (schedTo m k).getD (k - 2) 0 := ⟨_, rfl⟩
        obtain ⟨z7, hz7⟩ : ∃ y, y = (schedTo m k).getD (k - 7) 0 := ⟨_, rfl⟩
        obtain ⟨z16, hz16⟩ : ∃ y, y = (schedTo m k).getD (k - 16) 0 := ⟨_, rfl⟩
        have wx : W32 x := hx ▸ getD_w32 (schedTo_w32 m k) _
        have wy : W32 y := hy ▸ getD_w32 (schedTo_w32 m k) _
        have wz7 : W32 z7 := hz7 ▸ getD_w32 (schedTo_w32 m k) _
        have wz16 : W32 z16 := hz16 ▸ getD_w32 (schedTo_w32 m k) _
        rw [← hx] at c15
        rw [← hy] at c2
        rw [← hz7] at c7
        rw [← hz16] at c16
        have HV := Lib.hid (And.intro hx (And.intro hy (And.intro hz7 hz16)))
        clear hx hy hz7 hz16
        obtain ⟨wx0, wx1⟩ := wx
        obtain ⟨wy0, wy1⟩ := wy
        obtain ⟨wz70, wz71⟩ := wz7
        obtain ⟨wz160, wz161⟩ := wz16
        have s15 : IntKind.i64.wrap ((k : Int) - 15) = (k : Int) - 15 := IntWalk.i64_in _ (by omega)
        have s2 : IntKind.i64.wrap ((k : Int) - 2) = (k : Int) - 2 := IntWalk.i64_in _ (by omega)
        have s7 : IntKind.i64.wrap ((k : Int) - 7) = (k : Int) - 7 := IntWalk.i64_in _ (by omega)
        have s16 : IntKind.i64.wrap ((k : Int) - 16) = (k : Int) - 16 := IntWalk.i64_in _ (by omega)
        have b15 : 0 ≤ (k : Int) - 15 := by omega
        have b2 : 0 ≤ (k : Int) - 2 := by omega
        have b7 : 0 ≤ (k : Int) - 7 := by omega
        have b16 : 0 ≤ (k : Int) - 16 := by omega
        have n15 : ((k : Int) - 15).toNat = k - 15 := by omega
        have n2 : ((k : Int) - 2).toNat = k - 2 := by omega
        have n7 : ((k : Int) - 7).toNat = k - 7 := by omega
        have n16 : ((k : Int) - 16).toNat = k - 16 := by omega
        have b7' : (7 : Int) ≤ k := by omega
        have b16' : (16 : Int) ≤ k := by omega
        have u7 : (k : Int) - 7 < 64 := by omega
        have u16 : (k : Int) - 16 < 64 := by omega
        go_wp2_with fail
        go_quiet (fail)
        go_wp2_with fail
        refine wp_region_still_tail 29 (by kernel_rfl) (by kernel_rfl) ?_
        simp only [List.take_succ_cons, List.take_zero, List.drop_succ_cons, List.drop_zero]
        change wpStill _ _ (World.drew _) _ _ _
        repeat (first | still_call (turn_still _ _ (by omega) (by omega) (by omega) (by omega) _) | still_step)
        refine wpStill_nil ?_
        change wpList _ _ _ _ _ (World.drew _)
        go_wp2_with fail
        go_roundw
        case rel =>
          refine ⟨k + 1, by omega, by go_num, ?_, ?_⟩
          · have hd : (wr.drewN (nq + 1)).heap[w.heap.size]? = some (.cells (u32s (schedTo m k ++ List.replicate (64 - k) 0)).toArray 86 (0, 0)) := HG.out
            have hs1 := heap_setCell_same (wr.drewN (nq + 1)) w.heap.size k _ _ (.int .u32 (nextW (schedTo m k) k)) hd
            rw [u32_fill (schedTo_length m k) hlt] at hs1
            have e : (bits BinOp.xor IntKind.u32 (bits BinOp.xor IntKind.u32 (rotr y 17) (rotr y 19)) (y / 1024) + z7 + bits BinOp.xor IntKind.u32 (bits BinOp.xor IntKind.u32 (rotr x 7) (rotr x 18)) (x / 8) + z16) % 4294967296 = nextW (schedTo m k) k := by
              rw [HV.out.1, HV.out.2.1, HV.out.2.2.1, HV.out.2.2.2]
              unfold nextW add32 ssig1 ssig0 xor32
              omega
            rw [e]
            show _ = _
            rw [schedTo, if_neg h16]
            exact hs1
          · exact (hB.trans ⟨rfl, rfl, rfl, Nat.le_refl _, fun _ _ => rfl⟩ : Below w.heap.size w (wr.drewN (nq + 1))).setCell (Nat.le_refl _) _
        case measure => simp [intOf] <;> omega
    · obtain rfl : k = 64 := by omega
      have HG' : Hid (wr.heap[w.heap.size]? = some (.cells (u32s (schedTo m 64)).toArray 86 (0, 0))) := by simpa using HG
      clear HG
      have hst := hB.block bs hbs
      rw [hs.cells] at hst
      have hh8 := hs.h8
      have S0 : Hid (wr.heap[bs]? = some (.cells (stCells h ov n).toArray 81 (0, 0))) := hst
      clear hst
      have hlen : (u32s h).length = 8 := by simp [u32s, hh8]
      go_wp2_with fail
      rw [show ((64 : Nat) : Int) = 64 from rfl]
      refine block_r9 (h := h) bs hs.h8 S0 (by rfl) (by rfl) ?_
      intro v0 v1 v2 v3 v4 B C w1 hB1 hBB hCC hBc hCc
      simp only [Act.put]
      go_wp2_with fail
      obtain ⟨wq, hwq⟩ : ∃ x, x = wr := ⟨_, rfl⟩
      subst hwq
      have hwr : w.heap.size < wq.heap.size := (Array.getElem?_eq_some_iff.1 HG'.out).1
      go_loopw [75] (fun i wx => ∃ k : Nat, k ≤ 64 ∧ i = .int .i64 k ∧ Hid (wx.heap[B]? = some (.cells (u32s (roundsTo h (schedTo m 64) shaK k)).toArray 77 (0, 0)) ∧ wx.heap[C]? = some (.cells (u32s shaK).toArray 86 (0, 0))) ∧ Hid (Below wq.heap.size wq wx)) (fun i _ => 64 - (intOf i).toNat)
      case atStart => exact ⟨0, by omega, rfl, ⟨hBc, hCc⟩, hB1⟩
      case round =>
        obtain ⟨k, hk, rfl, HBC, HB2⟩ := hrel
        by_cases hlt : k < 64
        · have hsched := heap_keep HG'.out HB2.out
          obtain ⟨v, hv⟩ : ∃ v, v = roundsTo h (schedTo m 64) shaK k := ⟨_, rfl⟩
          have hvl : v.length = 8 := hv ▸ roundsTo_length h _ _ hh8 k
          have hvw : ∀ x ∈ v, W32 x := hv ▸ roundsTo_w32 hw k
          rw [← hv] at HBC
          obtain ⟨x0, x1, x2, x3, x4, x5, x6, x7, rfl⟩ : ∃ x0 x1 x2 x3 x4 x5 x6 x7, v = [x0, x1, x2, x3, x4, x5, x6, x7] := by
            match v, hvl with
            | [x0, x1, x2, x3, x4, x5, x6, x7], _ => exact ⟨_, _, _, _, _, _, _, _, rfl⟩
          obtain ⟨hx0, hx1, hx2, hx3, hx4, hx5, hx6, hx7⟩ : W32 x0 ∧ W32 x1 ∧ W32 x2 ∧ W32 x3 ∧ W32 x4 ∧ W32 x5 ∧ W32 x6 ∧ W32 x7 := by simpa using hvw
          clear hvw hvl
          have HV := Lib.hid hv
          clear hv
          have cB : ∀ j, wr.cell? ⟨B, j, none⟩ = (u32s [x0, x1, x2, x3, x4, x5, x6, x7]).toArray[j]? := fun j => cell_of_row _ _ _ _ _ _ HBC.out.1
          have c0 : wr.cell? ⟨B, 0, none⟩ = some (.int .u32 x0) := cB 0
          have c1 : wr.cell? ⟨B, 1, none⟩ = some (.int .u32 x1) := cB 1
          have c2 : wr.cell? ⟨B, 2, none⟩ = some (.int .u32 x2) := cB 2
          have c3 : wr.cell? ⟨B, 3, none⟩ = some (.int .u32 x3) := cB 3
          have c4 : wr.cell? ⟨B, 4, none⟩ = some (.int .u32 x4) := cB 4
          have c5 : wr.cell? ⟨B, 5, none⟩ = some (.int .u32 x5) := cB 5
          have c6 : wr.cell? ⟨B, 6, none⟩ = some (.int .u32 x6) := cB 6
          have c7 : wr.cell? ⟨B, 7, none⟩ = some (.int .u32 x7) := cB 7
          clear cB
          obtain ⟨kk, hkk⟩ : ∃ kk, kk = shaK.getD k 0 := ⟨_, rfl⟩
          obtain ⟨ww, hww⟩ : ∃ ww, ww = (schedTo m 64).getD k 0 := ⟨_, rfl⟩
          have wk : W32 kk := hkk ▸ getD_w32 shaK_w32 _
          have wwb : W32 ww := hww ▸ getD_w32 (schedTo_w32 m 64) _
          have cK : wr.cell? ⟨C, k, none⟩ = some (.int .u32 kk) := by
            rw [cell_of_row _ _ _ _ _ _ HBC.out.2, hkk]
            simpa using u32s_getD (l := shaK) (i := k) (by simpa [shaK] using hlt)
          have cS : wr.cell? ⟨w.heap.size, k, none⟩ = some (.int .u32 ww) := by
            rw [cell_of_row _ _ _ _ _ _ hsched, hww]
            simpa using u32s_getD (l := schedTo m 64) (i := k) (by rw [schedTo_length]; exact hlt)
          have HS := Lib.hid hsched
          clear hsched
          have HKW := Lib.hid (And.intro hkk hww)
          clear hkk hww
          obtain ⟨_, _⟩ := hx0
          obtain ⟨_, _⟩ := hx1
          obtain ⟨_, _⟩ := hx2
          obtain ⟨_, _⟩ := hx3
          obtain ⟨_, _⟩ := hx4
          obtain ⟨_, _⟩ := hx5
          obtain ⟨_, _⟩ := hx6
          obtain ⟨_, _⟩ := hx7
          obtain ⟨_, _⟩ := wk
          obtain ⟨_, _⟩ := wwb
          go_wp2_with fail
          go_quiet (fail)
          go_wp2_with fail
          refine wp_region_still_tail 27 (by kernel_rfl) (by kernel_rfl) ?_
          simp only [List.take_succ_cons, List.take_zero, List.drop_succ_cons, List.drop_zero]
          change wpStill _ _ (World.drew _) _ _ _
          repeat (first | still_call (turn_still _ _ (by omega) (by omega) (by omega) (by omega) _) | still_step)
          refine wpStill_nil ?_
          change wpList _ _ _ _ _ (World.drew _)
          go_wp2_with (first | (go_at_call 64; refine (turn_num _ _ (by omega) (by omega) (by omega) (by omega) _).mono ?_; rintro e w' ⟨rfl, rfl⟩) | (refine wpList_store_row rfl 77 (.tmp 8) (.tmp 151) rfl B _ rfl rfl 77 _ HBC.out.1 (by rfl) (by simp [u32s]) (by simp [Value.oneCell']) ?_))
          go_roundw
          case rel =>
            refine ⟨k + 1, by omega, by go_num, ⟨?_, ?_⟩, ?_⟩
            · rw [roundsTo, ← HV.out, ← HKW.out.1, ← HKW.out.2]
              refine (setRow_heap _ _ _ _ _ _ HBC.out.1).trans ?_
              simp only [show IntKind.u32.signed = false from rfl, Bool.false_eq_true, if_false, u32s, List.map_cons, List.map_nil, roundV, add32, xor32, and32, List.getD_cons_zero, List.getD_cons_succ, Option.some.injEq, Obj.cells.injEq, Array.mk.injEq, List.cons.injEq, Value.int.injEq, true_and, and_true]
              refine ⟨?_, ?_⟩ <;> omega
            · exact (setRow_other _ _ _ _ (type_ne HBC.out.2 HBC.out.1 (by decide))).trans HBC.out.2
            · exact below_setRow (show Below wq.heap.size wq (wr.drewN _) from HB2.out.trans ⟨rfl, rfl, rfl, Nat.le_refl _, fun _ _ => rfl⟩) hBB _
          case measure => simp [intOf] <;> omega
        · obtain rfl : k = 64 := by omega
          have S1 : Hid (wr.heap[bs]? = some (.cells (stCells h ov n).toArray 81 (0, 0))) := heap_keep S0.out HB2.out
          obtain ⟨v, hv⟩ : ∃ v, v = roundsTo h (schedTo m 64) shaK 64 := ⟨_, rfl⟩
          have hvl : v.length = 8 := hv ▸ roundsTo_length h _ _ hh8 64
          have hvw : ∀ x ∈ v, W32 x := hv ▸ roundsTo_w32 hw 64
          rw [← hv] at HBC
          have HBv : Hid (wr.heap[B]? = some (.cells (u32s v).toArray 77 (0, 0))) := HBC.out.1
          have HV := Lib.hid hv
          clear hv HBC
          have hBw := ext_trans hB HB2.out
          have HG2 : Hid (w.grownBy wr (some bs)) := ⟨hBw.os, hBw.tape, hBw.output, hBw.size, fun i hi _ => hBw.block i hi⟩
          obtain ⟨wp, hwp⟩ : ∃ x, x = wr := ⟨_, rfl⟩
          subst hwp
          go_wp2_with fail
          rw [show ((64 : Nat) : Int) = 64 from rfl]
          go_loopw [153] (fun i wx => ∃ k : Nat, k ≤ 8 ∧ i = .int .i64 k ∧ Hid (wx.heap[bs]? = some (.cells (stCells (sumTo h v k) ov n).toArray 81 (0, 0)) ∧ wx.heap[B]? = some (.cells (u32s v).toArray 77 (0, 0))) ∧ Hid (w.grownBy wx (some bs))) (fun i _ => 8 - (intOf i).toNat)
          case atStart => exact ⟨0, by omega, rfl, ⟨by rw [sumTo_zero v hh8]; exact S1.out, HBv.out⟩, HG2.out⟩
          case round =>
            obtain ⟨k, hk, rfl, HBC, HB3⟩ := hrel
            by_cases hlt : k < 8
            · have hfr := frozen_of_row wr bs k _ _ HBC.out.1
              have cS : wr.cell? ⟨bs, k, none⟩ = some (.int .u32 (h.getD k 0)) := by
                rw [cell_of_row _ _ _ _ _ _ HBC.out.1]
                simp only [stCells, List.getElem?_toArray]
                rw [List.getElem?_append_left (by simp [u32s, sumTo_length]; omega)]
                simp only [u32s, List.getElem?_map, sumTo_getD _ _ _ _ hlt, Option.map_some]
                rw [if_neg (by omega)]
              have cV : wr.cell? ⟨B, k, none⟩ = some (.int .u32 (v.getD k 0)) := by
                rw [cell_of_row _ _ _ _ _ _ HBC.out.2]
                simpa using u32s_getD (l := v) (i := k) (by omega)
              obtain ⟨x, hx⟩ : ∃ x, x = h.getD k 0 := ⟨_, rfl⟩
              obtain ⟨y, hy⟩ : ∃ y, y = v.getD k 0 := ⟨_, rfl⟩
              obtain ⟨_, _⟩ : W32 x := hx ▸ getD_w32 hw _
              obtain ⟨_, _⟩ : W32 y := hy ▸ getD_w32 hvw _
              rw [← hx] at cS
              rw [← hy] at cV
              have HXY := Lib.hid (And.intro hx hy)
              clear hx hy
              go_wp2_with fail
              refine wp_region_still_tail 13 (by kernel_rfl) (by kernel_rfl) ?_
              simp only [List.take_succ_cons, List.take_zero, List.drop_succ_cons, List.drop_zero]
              change wpStill _ _ (World.drew _) _ _ _
              repeat still_step
              refine wpStill_nil ?_
              change wpList _ _ _ _ _ (World.drew _)
              go_wp2_with fail
              go_roundw
              case rel =>
                refine ⟨k + 1, by omega, by go_num, ⟨?_, ?_⟩, ?_⟩
                · rw [← sumTo_set hlt, ← st_set (by rw [sumTo_length]; exact hlt), ← HXY.out.1, ← HXY.out.2]
                  exact heap_setCell_same _ _ _ _ _ _ HBC.out.1
                · exact (RowKit.Below.heap_setCell _ _ _ _ (type_ne HBC.out.2 HBC.out.1 (by decide))).trans HBC.out.2
                · exact gb_set (gb_drew HB3.out _) _ _
              case measure => simp [intOf] <;> omega
            · obtain rfl : k = 8 := by omega
              have e8 : sumTo h v 8 = compress h shaK m := by
                rw [HV.out]
                unfold sumTo compress
                apply List.map_congr_left
                intro i hi
                rw [if_pos (List.mem_range.1 hi)]
              rw [e8] at HBC
              go_wp2_with fail
              refine bodyPost_end (v := .tuple #[]) (results_none rfl _ _ _) rfl ⟨rfl, ⟨HBC.out.1, compress_length _ _ _, hs.o64⟩, HB3.out⟩
end Go.Proofs.YtbjnpomcgcbflaaDoor

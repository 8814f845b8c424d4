/- Walks: a state takes bytes in. -/
import Derived.Test.YtbjnpomcgcbflaaDoorS3
import Derived.Test.YtbjnpomcgcbflaaDoorP4
set_option linter.unusedVariables false
set_option linter.unusedSimpArgs false
namespace Go.Proofs.YtbjnpomcgcbflaaDoor
open Go.RowKit Go.Deep

theorem gb_setRow {w w' : World} {b : Nat} (h : w.grownBy w' (some b)) (cs : Array Value) : w.grownBy (w'.setRow b cs) (some b) :=
  ⟨h.os, h.tape, h.output, by simpa using h.size, fun i hi hne => (setRow_other _ _ _ _ (by intro e; exact hne (by rw [e]))).trans (h.block i hi hne)⟩
theorem stCells_laid {h ov d : _} {n : Int} {r : Nat} (h8 : h.length = 8) (hov : ov.length = 64) (hk : r + d.length ≤ 64) :
    (stCells h ov n).toArray.toList.take (8 + r) ++ bvs d ++ (stCells h ov n).toArray.toList.drop (8 + r + (bvs d).length) = stCells h (laidIn ov r d) n := by
  have hl : (u32s h).length = 8 := by simp [u32s, h8]
  simp only [stCells, laidIn, bvs, List.map_append, List.map_take, List.map_drop, List.length_map]
  rw [List.take_append, List.drop_append, hl, List.take_of_length_le (by omega), List.drop_of_length_le (by omega)]
  rw [show 8 + r - 8 = r by omega, show 8 + r + d.length - 8 = r + d.length by omega]
  rw [List.take_append_of_le_length (by simp; omega), List.drop_append_of_le_length (by simp; omega)]
  simp

theorem over_len : Tryd.prog.arrayLen 79 = 64 := by kernel_rfl
theorem over_elem : Tryd.prog.elem 79 = 5 := by kernel_rfl
theorem over_from (bs r : Nat) (hr : r < 64) (W : World) : (Instr.sliceAt 79 (.pointer (some ⟨bs, 8, none⟩)) (some (.int .i64 r)) none none).run Tryd.prog W = .ok (.slice (some ⟨bs, 8 + r, none⟩) (64 - r) (64 - r)) W := by
  obtain ⟨i8, hi8, hsz8⟩ := infoU8 infoB
  rw [run_sliceAt_array_l W 79 ⟨bs, 8, none⟩ (by rw [over_len, over_elem]; exact Tryd.underlying79) .i64 r (by omega) (by rw [over_len]; omega), over_elem, over_len]
  simp [sizeOf, typeInfo, hi8, hsz8, slicedAt, Result.andThen, add_flat]
  omega
theorem over_all (bs : Nat) (W : World) : (Instr.sliceAt 79 (.pointer (some ⟨bs, 8, none⟩)) none none none).run Tryd.prog W = .ok (.slice (some ⟨bs, 8, none⟩) 64 64) W := by
  obtain ⟨i8, hi8, hsz8⟩ := infoU8 infoB
  rw [run_sliceAt_array_all W 79 ⟨bs, 8, none⟩ (by rw [over_len, over_elem]; exact Tryd.underlying79), over_elem, over_len]
  simp [sizeOf, typeInfo, hi8, hsz8, slicedAt, Result.andThen, add_flat]

set_option maxRecDepth 100000 in
set_option maxHeartbeats 2000000 in
theorem write_any {A : Option Addr} {x b ov : List UInt8} (c : Nat) (hc : b.length ≤ c) (hc2 : c ≤ 9223372036854775807) (hx : x.length + b.length ≤ 9223372036854775807) (bs : Nat) (w : World) (hs : Took w bs x ov) (hb : Seg w A (bvs b)) (hne : b ≠ [] → ∀ a, A = some a → some a.block ≠ some bs) :
    Calls Tryd.prog 46 #[.pointer (some ⟨bs, 0, none⟩), .slice A b.length c] w fun e w' => e = .returned (.tuple #[]) ∧ (∃ ov', Took w' bs (x ++ b) ov') ∧ w.grownBy w' (some bs) := by
  obtain ⟨i8, hi8, hsz8⟩ := infoU8 infoB
  go_enter Tryd.func46, Tryd.ntmps46
  go_wp2_with fail
  go_loopw [1] (fun v wr => ∃ (y d ov : List UInt8) (A : Option Addr) (c : Nat), v = .slice A d.length c ∧ y ++ d = x ++ b ∧ d.length ≤ c ∧ c ≤ 9223372036854775807 ∧ Took wr bs y ov ∧ Seg wr A (bvs d) ∧ (d ≠ [] → ∀ a, A = some a → some a.block ≠ some bs) ∧ Hid (w.grownBy wr (some bs))) (fun v _ => match v with | .slice _ n _ => n | _ => 0)
  case atStart => exact ⟨x, b, ov, A, c, rfl, rfl, hc, hc2, hs, hb, hne, gb_refl _ _⟩
  case round =>
    clear hs hb hne hc hc2
    obtain ⟨y, d, ov, A, c, rfl, hyd, hc, hc2, hT, hS, hne, HG⟩ := hrel
    have hyl : y.length + d.length ≤ 9223372036854775807 := by
      have := congrArg List.length hyd
      simp at this
      omega
    by_cases hd : 0 < d.length
    · replace hne := hne (fun e => by rw [e] at hd; simp at hd)
      obtain ⟨bA, oA, rfl⟩ := hS.addrB hd
      have hc0 := hT.at_.cells
      have hfr := frozen_of_row wr bs 72 _ _ hc0
      have c72 : wr.cell? ⟨bs, 72, none⟩ = some (.int .i64 y.length) := by
        rw [cell_of_row _ _ _ _ _ _ hc0]
        have h1 := hT.at_.h8
        have h2 := hT.at_.o64
        simp [stCells, u32s, bvs, h1, h2]
      have HT := Lib.hid hT
      have HC0 := Lib.hid hc0
      have h8 := hT.at_.h8
      have h64 := hT.at_.o64
      clear hT hc0
      obtain ⟨r, hr⟩ : ∃ r, r = y.length % 64 := ⟨_, rfl⟩
      have hr64 : r < 64 := by omega
      have hrI : (y.length : Int) % 64 = (r : Int) := by omega
      have HR := Lib.hid (And.intro hr hrI)
      have hsl := over_from bs r hr64
      obtain ⟨k, hk⟩ : ∃ k, k = Nat.min d.length (64 - r) := ⟨_, rfl⟩
      have hk' : k = min d.length (64 - r) := hk
      have hk1 : 1 ≤ k := by omega
      have hk2 : k ≤ d.length := by omega
      have hk3 : r + k ≤ 64 := by omega
      obtain ⟨A1, cut1, cA1, cA2, -⟩ := cut_from 28 5 Tryd.underlying28 hi8 (some ⟨bA, oA, none⟩) d.length c (k : Int) (by omega) (by omega)
      simp only [hsz8, show (k : Int).toNat = k from by omega] at cut1 cA1 cA2
      have dl : (d.take k).length = k := by simp; omega
      have dlb : (bvs (d.take k)).length = k := by rw [bvs_length, dl]
      have hne2 : bA ≠ bs := fun e => hne _ rfl (by rw [e])
      have HS : Hid (∀ j v, (bvs (d.take k))[j]? = some v → wr.cell? ((⟨bA, oA, none⟩ : Addr).add j) = some v) := by
        rw [show bvs (d.take k) = (bvs d).take k from by simp [bvs, List.map_take]]
        exact (hS.take k).news
      have HSd := Lib.hid hS
      have HKM := Lib.hid (And.intro hk hk')
      have hone : Hid (∀ v ∈ bvs (d.take k), v.oneCell' = true) := by
        intro v hv
        simp only [bvs, List.mem_map] at hv
        obtain ⟨_, _, rfl⟩ := hv
        rfl
      have HSA : Hid (Seg wr A1 (bvs (d.drop k))) := by
        have h := seg_from (A' := A1) (m := k) (sz := 1) (n := d.length) hS (by rw [bvs_length, Nat.mul_one]) hc (fun b o e hl => by rw [cA1 b o e hl, Nat.mul_one]) hk2
        rw [Nat.mul_one] at h
        rw [show bvs (d.drop k) = (bvs d).drop k from by simp [bvs, List.map_drop]]
        exact h
      have HNA : Hid (∀ a, A1 = some a → some a.block ≠ some bs) := by
        intro a ha
        rcases Nat.lt_or_ge k c with hlc | hlc
        · rw [cA1 bA oA rfl hlc] at ha
          cases ha
          exact fun e => hne2 (by injection e)
        · rw [cA2 (by omega)] at ha
          cases ha
          exact fun e => hne2 (by injection e)
      clear hS hr hk hk' cA1 cA2
      rw [show ((r : Nat) : Int) = (r : Int) from rfl] at hrI
      have hcp := run_copy_row (P := Tryd.prog) wr 28 28 3 5 bs (8 + r) (64 - r) (64 - r) ⟨bA, oA, none⟩ d.length c _ 81 (bvs (d.take k)) Tryd.underlying28 (by rw [hi8]; simp [hsz8]) HC0.out (dlb.trans HKM.out.1) HS.out (by simp [stCells, u32s, bvs, h8, h64, dl]; omega) hone.out
      rw [stCells_laid h8 h64 (by rw [dl]; exact hk3), dlb] at hcp
      obtain ⟨ov1, ho1⟩ : ∃ ov1, ov1 = laidIn ov r (d.take k) := ⟨_, rfl⟩
      have ho64 : ov1.length = 64 := ho1 ▸ laidIn_length h64 (by rw [dl]; exact hk3)
      rw [← ho1] at hcp
      have hblk := Lib.hid ho1
      clear ho1
      obtain ⟨w2, hw2⟩ : ∃ w2, w2 = wr.setRow bs (stCells (blocksTo y (y.length / 64)) ov1 y.length).toArray := ⟨_, rfl⟩
      have H2 : Hid (w2.heap[bs]? = some (.cells (stCells (blocksTo y (y.length / 64)) ov1 y.length).toArray 81 (0, 0))) := by rw [hw2]; exact setRow_heap _ _ _ _ _ _ HC0.out
      have G2 : Hid (wr.grownBy w2 (some bs)) := by rw [hw2]; exact gb_setRow (gb_refl _ _) _
      rw [← hw2] at hcp
      clear hw2
      have hcell : ∀ (W : World) (o2 : List UInt8) (n : Int), o2.length = 64 → W.heap[bs]? = some (.cells (stCells (blocksTo y (y.length / 64)) o2 n).toArray 81 (0, 0)) → W.cell? ⟨bs, 72, none⟩ = some (.int .i64 n) := fun W o2 n h2 hh => by
        rw [cell_of_row _ _ _ _ _ _ hh]
        simp [stCells, u32s, bvs, h8, h2]
      have c72' := hcell w2 ov1 _ ho64 H2.out
      have hfr2 := frozen_of_row w2 bs 72 _ _ H2.out
      have hset : (stCells (blocksTo y (y.length / 64)) ov1 y.length).toArray.setIfInBounds 72 (.int .i64 ((y.length : Int) + k)) = (stCells (blocksTo y (y.length / 64)) ov1 ((y.length : Int) + k)).toArray := by
        rw [List.setIfInBounds_toArray]
        simp [stCells, u32s, bvs, h8, ho64, List.set_append]
      have H3' := heap_setCell_same w2 bs 72 _ _ (.int .i64 ((y.length : Int) + k)) H2.out
      rw [hset] at H3'
      have H3 := Lib.hid H3'
      have HX := Lib.hid hcell
      clear dl hset H3' hcell
      have hsum : IntKind.i64.wrap ((y.length : Int) + k) = (y.length : Int) + k := IntWalk.i64_in _ (by omega)
      have hall := over_all bs
      have HYD : Hid (y ++ d.take k ++ d.drop k = x ++ b) := by
        rw [List.append_assoc, List.take_append_drop]
        exact hyd
      have hdk : (d.drop k).length = d.length - k := List.length_drop
      have HN : Hid (((y ++ d.take k).length : Nat) = (y.length : Int) + k) := by
        have : (d.take k).length = k := by simp; omega
        show _ = _
        rw [List.length_append, this]
        omega
      have HTK : Hid ((d.take k).length = k) := by
        show _ = _
        simp
        omega
      by_cases hfull : (y.length : Int) % 64 + k = 64
      · have HF := Lib.hid hfull
        have hS3 : Seg (w2.setCell ⟨bs, 72, none⟩ (.int .i64 ((y.length : Int) + k))) (some ⟨bs, 8, none⟩) (bvs ov1) := Seg.of_block H3.out fun j u hu => by
          have hj : j < 64 := by
            have := (List.getElem?_eq_some_iff.1 hu).1
            rw [bvs_length, ho64] at this
            exact this
          have hl : (u32s (blocksTo y (y.length / 64))).length = 8 := by simp [u32s, h8]
          simp only [stCells, List.getElem?_toArray]
          rw [List.getElem?_append_right (by omega), hl, show 8 + j - 8 = j by omega, List.getElem?_append_left (by rw [bvs_length, ho64]; exact hj)]
          exact hu
        have HS3 := Lib.hid hS3
        clear hS3
        go_wp2_with (go_at_call 56; refine (block_any ho64 64 (by omega) (by omega) bs (blocksTo_w32 _ _) _ ⟨H3.out, h8, ho64⟩ HS3.out).mono ?_; rintro e w4 ⟨rfl, hs4, hg4⟩)
        go_roundw
        case rel =>
          have hf := took_full (d := d.take k) h64 HT.out.tail (by rw [HTK.out]; have := HR.out.2; omega)
          rw [← HR.out.1] at hf
          rw [← hblk.out] at hf
          refine ⟨y ++ d.take k, d.drop k, ov1, A1, c - k, by rw [hdk], HYD.out, by omega, by omega, ⟨?_, hf.2⟩, ?_, fun _ => HNA.out, ?_⟩
          · rw [hf.1, HN.out]
            exact hs4
          · exact (HSA.out.grown (gb_set G2.out _ _) HNA.out).grown hg4 HNA.out
          · exact gb_trans HG.out (gb_trans (gb_set G2.out _ _) hg4)
        case measure =>
          simp only [hdk]
          omega
      · go_wp2_with fail
        go_roundw
        case rel =>
          have hf := took_less (d := d.take k) h64 HT.out.tail (by rw [HTK.out]; have := HR.out.2; omega)
          rw [← HR.out.1] at hf
          rw [← hblk.out] at hf
          refine ⟨y ++ d.take k, d.drop k, ov1, A1, c - k, by rw [hdk], HYD.out, by omega, by omega, ⟨?_, hf.2⟩, ?_, fun _ => HNA.out, ?_⟩
          · rw [hf.1, HN.out]
            exact ⟨H3.out, h8, ho64⟩
          · exact HSA.out.grown (gb_set G2.out _ _) HNA.out
          · exact gb_trans HG.out (gb_set G2.out _ _)
        case measure =>
          simp only [hdk]
          omega
    · obtain rfl : d = [] := List.eq_nil_of_length_eq_zero (by omega)
      go_wp2_with fail
      rw [List.append_nil] at hyd
      subst hyd
      exact bodyPost_end (v := .tuple #[]) (results_none rfl _ _ _) rfl ⟨rfl, ⟨ov, hT⟩, HG.out⟩
end Go.Proofs.YtbjnpomcgcbflaaDoor

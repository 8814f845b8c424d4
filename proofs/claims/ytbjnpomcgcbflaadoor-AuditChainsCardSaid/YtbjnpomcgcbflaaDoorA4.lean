/- Walks: bytes.ReplaceAll at one nought and at nought and 255. -/
import Derived.Test.YtbjnpomcgcbflaaDoorA3
import Derived.Test.YtbjnpomcgcbflaaDoorP1
import Derived.StillTailTactics
set_option linter.unusedVariables false
set_option linter.unusedSimpArgs false
namespace Go.Proofs.YtbjnpomcgcbflaaDoor
open Go.RowKit Go.Deep

set_option maxRecDepth 100000 in
set_option maxHeartbeats 1000000 in
theorem replace_none {A : Option Addr} {l : List UInt8} (c c1 c2 o1 o2 : Nat) (b1 b2 : Nat) (w : World) (h : Seg w A (bvs l)) (h1 : w.cell? ⟨b1, o1, none⟩ = some (.int .u8 0)) (hz : l.count 0 = 0) (hl : l.length ≤ 70368744177664) :
    Calls Tryd.prog 61 #[.slice A l.length c, .slice (some ⟨b1, o1, none⟩) 1 c1, .slice (some ⟨b2, o2, none⟩) 2 c2, .int .i64 (-1)] w (RetB w l) := by
  have hz' : ((Lib.countByte l (0 : Int).toNat.toUInt8 : Nat) : Int) = 0 := by show ((l.count 0 : Nat) : Int) = 0; rw [hz]; rfl
  have Hz := Lib.hid hz'
  clear hz' hz
  go_enter Tryd.func61, Tryd.ntmps61
  go_wp2_with (first | (go_at_call 66; refine (count_any c b1 o1 c1 0 _ h h1).mono ?_; rintro e w' ⟨rfl, rfl⟩; rw [Hz.out]) | (at_builtin; refine wl_append w 5 1 1 (.const (.slice none 0 0)) (.tmp 24) 28 (.int .u8 0) rfl rfl Tryd.underlying28 infoB rfl (by decide) (by decide) rfl rfl (World.ownsRow_nil _ _ _ _) h (by rw [bvs_length, Nat.mul_one]) bvs_one (by omega) (Below.refl _ _) ?_; intro v1 w1 own1 B1 _ _))
  go_ret
  exact RetB.of_own (l := l) (by simpa using own1) B1

theorem splice_fill {E X : List UInt8} {N : Nat} (h : E.length + X.length ≤ N) : splice (bvs (E ++ List.replicate (N - E.length) 0)) E.length (bvs X) = bvs (E ++ X ++ List.replicate (N - (E ++ X).length) 0) := by
  unfold splice
  apply List.ext_getElem?
  intro i
  simp only [bvs]
  grind

set_option maxRecDepth 100000 in
set_option maxHeartbeats 2000000 in
theorem replace_some {A : Option Addr} {l : List UInt8} (c c1 c2 o1 o2 : Nat) (b1 b2 : Nat) (w : World) (h : Seg w A (bvs l)) (hc : l.length ≤ c) (h1 : w.cell? ⟨b1, o1, none⟩ = some (.int .u8 0)) (h2 : Seg w (some ⟨b2, o2, none⟩) (bvs [0, 255])) (hz : 0 < l.count 0) (hl : l.length ≤ 1099511627776) :
    Calls Tryd.prog 61 #[.slice A l.length c, .slice (some ⟨b1, o1, none⟩) 1 c1, .slice (some ⟨b2, o2, none⟩) 2 c2, .int .i64 (-1)] w (RetB w (escB l)) := by
  obtain ⟨cnt, hcnt⟩ : ∃ cnt, cnt = l.count 0 := ⟨_, rfl⟩
  have hle : cnt ≤ l.length := hcnt ▸ List.count_le_length
  have hcp : 0 < cnt := hcnt ▸ hz
  have hz' : ((Lib.countByte l (0 : Int).toNat.toUInt8 : Nat) : Int) = cnt := by show ((l.count 0 : Nat) : Int) = cnt; rw [hcnt]
  have Hz := Lib.hid hz'
  have Hcnt := Lib.hid hcnt
  clear hz' hz hcnt
  have hmk : ∀ W, (Instr.makeSlice 28 (.int .i64 ((l.length : Int) + cnt)) (.int .i64 ((l.length : Int) + cnt))).run Tryd.prog W = .ok (.slice (some ⟨W.heap.size, 0, none⟩) (l.length + cnt) (l.length + cnt)) (W.alloc (.cells (madeCells #[.int .u8 0] (l.length + cnt)) 5)) := fun W => by
    have := run_make_row' 28 5 (.int .u8 0) 1 Tryd.underlying28 infoB rfl .i64 .i64 (l.length + cnt) (by omega) (by omega) W
    simpa using this
  have hb1 : ((cnt : Int) == 0) = false := by simp; omega
  go_enter Tryd.func61, Tryd.ntmps61
  go_wp2_with (go_at_call 66; refine (count_any c b1 o1 c1 0 _ h h1).mono ?_; rintro e w' ⟨rfl, rfl⟩; rw [Hz.out])
  go_loopw [11, 12, 49] (fun tw ts ti wr => ∃ i s : Nat, i ≤ cnt ∧ s ≤ l.length ∧ Hid ((l.take s).count 0 = i) ∧ ti = .int .i64 i ∧ ts = .int .i64 s ∧ tw = .int .i64 ((s : Int) + i) ∧ Hid (wr.heap[w.heap.size]? = some (.cells (bvs (escB (l.take s) ++ List.replicate (l.length + cnt - (escB (l.take s)).length) 0)).toArray 5 (0, 0))) ∧ Below w.heap.size w wr) (fun _ _ ti _ => cnt - (intOf ti).toNat)
  case atStart => exact ⟨0, 0, by omega, by omega, by simp [Hid], rfl, rfl, rfl, by
    have := heap_alloc_new w (.cells (madeCells #[.int .u8 0] (l.length + cnt)) 5)
    simp only [Hid, this]
    congr 2
    apply Array.ext'
    simp [toList_madeCells_one, escB, bvs, bv], (Below.refl _ _).alloc (Nat.le_refl _) _⟩
  case round =>
    obtain ⟨i, s, hi, hs, Hi, rfl, rfl, rfl, HG, hB⟩ := hrel
    by_cases hlt : i < cnt
    · have hcd : 0 < (l.drop s).count 0 := by
        have e := Hcnt.out
        rw [← List.take_append_drop s l, List.count_append, Hi.out] at e
        omega
      obtain ⟨p, hp1, hp2, hp3, hp4⟩ := indexByte_split _ hcd
      rw [List.length_drop] at hp2
      have Hp : Hid (Lib.indexByte (l.drop s) (0 : Int).toNat.toUInt8 = (p : Int)) := hp1
      clear hp1
      have hS : Seg wr A (bvs l) := h.below hB
      have h1r : wr.cell? ⟨b1, o1, none⟩ = some (.int .u8 0) := (hB.cell (p := ⟨b1, o1, none⟩) (World.block_lt_of_cell? w _ h1)).trans h1
      have h2r := h2.below hB
      obtain ⟨i8, hi8, hsz8⟩ := infoU8 (infoB)
      obtain ⟨A1, cut1, cA1, -, -⟩ := cut_from 28 5 Tryd.underlying28 hi8 A l.length c (s : Int) (by omega) (by omega)
      obtain ⟨A2, cut2, cA2, -, -⟩ := cut_from 28 5 Tryd.underlying28 hi8 (some ⟨w.heap.size, 0, none⟩) (l.length + cnt) (l.length + cnt) ((s : Int) + i) (by omega) (by omega)
      obtain ⟨A3, cut3, cA3, -, -⟩ := cut_mid 28 5 Tryd.underlying28 hi8 A l.length c (s : Int) ((s : Int) + p) (by omega) (by omega) (by omega)
      simp only [Int.toNat_natCast, hsz8, show ((s : Int) + i).toNat = s + i from by omega, show ((s : Int) + p).toNat - s = p from by omega] at cut1 cA1 cut2 cA2 cut3 cA3
      clear hsz8 hi8
      have hS1 : Seg wr A1 (bvs (l.drop s)) := by
        rw [bvs_drop]
        simpa using seg_from (sz := 1) hS (by rw [bvs_length, Nat.mul_one]) hc cA1 hs
      have hS3 : Seg wr A3 (bvs ((l.drop s).take p)) := by
        rw [bvs_take, bvs_drop]
        simpa using (seg_from (sz := 1) hS (by rw [bvs_length, Nat.mul_one]) hc cA3 hs).take p
      have HC := Lib.hid (And.intro cA1 (And.intro cA2 cA3))
      clear cA1 cA2 cA3
      have eX : (bvs ((l.drop s).take p)).length = p := by simp [bvs]; omega
      have eE : (escB (l.take s)).length = s + i := by rw [escB_length, Hi.out]; simp; omega
      have HX := Lib.hid (And.intro eX eE)
      clear eX eE
      go_wp2_with (go_at_call 67; refine (index_any (l := l.drop s) (by simp) _ b1 o1 c1 0 _ hS1 h1r).mono ?_; rintro e w' ⟨rfl, rfl⟩; rw [Hp.out])
      have f1 : Hid ((bvs ((l.drop s).take p)).length = min p (l.length + cnt - (s + i))) := by
        show _ = _
        rw [HX.out.1]
        exact (Nat.min_eq_left (by omega)).symm
      have f2 : Hid (bvs ((l.drop s).take p) ≠ [] → A2 = some ⟨w.heap.size, s + i, none⟩) := fun hp => by simpa using HC.out.2.1 w.heap.size 0 rfl (by omega)
      have hSd : Seg wr.drew A3 (bvs ((l.drop s).take p)) := hS3.below (drew_ext _)
      have f3 : Hid (s + i + (bvs ((l.drop s).take p)).length ≤ (bvs (escB (l.take s) ++ List.replicate (l.length + cnt - (escB (l.take s)).length) 0)).length) := by
        show _ ≤ _
        rw [HX.out.1, bvs_length, List.length_append, List.length_replicate, HX.out.2]
        omega
      have HGd : Hid (wr.drew.heap[w.heap.size]? = some (.cells (bvs (escB (l.take s) ++ List.replicate (l.length + cnt - (escB (l.take s)).length) 0)).toArray 5 (0, 0))) := HG
      go_region_held3 (fun _ : World => True) (trivial) ((refine st_copy rfl (.tmp 61) (.tmp 65) 28 28 5 rfl Tryd.underlying28 (by kernel_rfl) rfl rfl w.heap.size (s + i) HGd.out f1.out f2.out hSd f3.out bvs_one hB.drew (Nat.le_refl _) ?_; intro w2 HG2 hB2; simp only [HX.out.1]))
      have HG3 : Hid (w2.heap[w.heap.size]? = some (.cells (bvs (escB (l.take s) ++ (l.drop s).take p ++ List.replicate (l.length + cnt - (escB (l.take s) ++ (l.drop s).take p).length) 0)).toArray 5 (0, 0))) := by
        have e0 := splice_fill (E := escB (l.take s)) (X := (l.drop s).take p) (N := l.length + cnt) (by rw [HX.out.2, List.length_take, List.length_drop]; omega)
        have e1 := HG2.out
        rw [← HX.out.2, e0] at e1
        exact e1
      clear HG2 HGd HG f1 f2 f3
      have h2s := h2.below hB2
      have hm : (l.take (s + p + 1)) = l.take s ++ ((l.drop s).take p ++ [0]) := by
        rw [Nat.add_assoc, List.take_add, List.take_add_one, List.getElem?_drop]
        have e := congrArg (fun q : List UInt8 => q[0]?) hp4
        simp only [List.getElem?_drop, Nat.add_zero, List.getElem?_cons_zero] at e
        rw [e]
        rfl
      have e1 : (l.take (s + p + 1)).count 0 = i + 1 := by
        rw [hm, List.count_append, List.count_append, Hi.out, hp3]
        rfl
      have e2 : escB (l.take (s + p + 1)) = escB (l.take s) ++ (l.drop s).take p ++ [0, 255] := by
        rw [hm, escB_append, escB_append, escB_none hp3, List.append_assoc]
        rfl
      have H12 := Lib.hid (And.intro e1 e2)
      clear e1 e2 hm hp3 hp4
      have g1 : Hid ((bvs [0, 255]).length = min 2 (l.length + cnt - (s + i + p))) := (Nat.min_eq_left (show 2 ≤ _ by omega)).symm
      have eE2 : (escB (l.take s) ++ (l.drop s).take p).length = s + i + p := by
        rw [List.length_append, HX.out.2, List.length_take, List.length_drop]
        omega
      have g3 : Hid (s + i + p + (bvs [0, 255]).length ≤ (bvs (escB (l.take s) ++ (l.drop s).take p ++ List.replicate (l.length + cnt - (escB (l.take s) ++ (l.drop s).take p).length) 0)).length) := by
        show _ ≤ _
        generalize escB (l.take s) ++ (l.drop s).take p = F at *
        rw [bvs_length, bvs_length, List.length_append, List.length_replicate, eE2]
        simp
        omega
      have HE2 := Lib.hid eE2
      have hne4 : ¬ (l.length + cnt = s + i + p) := by omega
      clear eE2
      go_wp2_with (refine wl_copy rfl (.tmp 71) (.tmp 72) 28 28 5 rfl Tryd.underlying28 (by kernel_rfl) rfl rfl w.heap.size (s + i + p) HG3.out g1.out (fun _ => rfl) h2s g3.out bvs_one hB2 (Nat.le_refl _) ?_; intro w3 HG4 hB3; simp only [bvs_length, List.length_cons, List.length_nil])
      go_roundw
      case rel =>
        refine ⟨i + 1, s + p + 1, by omega, by omega, H12.out.1, by go_num, by go_num, ?_, ?_, hB3⟩
        · simp only [Value.int.injEq, true_and]
          omega
        · show _ = _
          rw [H12.out.2]
          have e0 := splice_fill (E := escB (l.take s) ++ (l.drop s).take p) (X := [0, 255]) (N := l.length + cnt) (by rw [HE2.out]; simp; omega)
          have e1 := HG4.out
          rw [← HE2.out, e0] at e1
          exact e1
      case measure => simp [intOf]; omega
    · obtain rfl : i = cnt := by omega
      have hr0 : (l.drop s).count 0 = 0 := by
        have e := Hcnt.out
        rw [← List.take_append_drop s l, List.count_append, Hi.out] at e
        omega
      have eE : (escB (l.take s)).length = s + i := by rw [escB_length, Hi.out]; simp; omega
      have eL : escB l = escB (l.take s) ++ l.drop s := by
        conv => lhs; rw [← List.take_append_drop s l]
        rw [escB_append, escB_none hr0]
      have HX := Lib.hid (And.intro eL eE)
      clear eL eE hr0
      have hS : Seg wr A (bvs l) := h.below hB
      obtain ⟨i8, hi8, hsz8⟩ := infoU8 (infoB)
      obtain ⟨A1, cut1, cA1, -, -⟩ := cut_from 28 5 Tryd.underlying28 hi8 A l.length c (s : Int) (by omega) (by omega)
      obtain ⟨A2, cut2, cA2, -, -⟩ := cut_from 28 5 Tryd.underlying28 hi8 (some ⟨w.heap.size, 0, none⟩) (l.length + i) (l.length + i) ((s : Int) + i) (by omega) (by omega)
      simp only [Int.toNat_natCast, hsz8, show ((s : Int) + i).toNat = s + i from by omega] at cut1 cA1 cut2 cA2
      clear hsz8 hi8
      have hS1 : Seg wr.drew A1 (bvs (l.drop s)) := by
        rw [bvs_drop]
        exact Seg.below (by simpa using seg_from (sz := 1) hS (by rw [bvs_length, Nat.mul_one]) hc cA1 hs) (drew_ext _)
      have f1 : Hid ((bvs (l.drop s)).length = min (l.length - s) (l.length + i - (s + i))) := by
        show _ = _
        rw [bvs_length, List.length_drop]
        exact (Nat.min_eq_left (by omega)).symm
      have f2 : Hid (bvs (l.drop s) ≠ [] → A2 = some ⟨w.heap.size, s + i, none⟩) := fun hp => by
        have : s < l.length := by
          rcases Nat.lt_or_ge s l.length with h | h
          · exact h
          · exact absurd (by rw [List.drop_eq_nil_of_le h]; rfl) hp
        simpa using cA2 w.heap.size 0 rfl (by omega)
      have f3 : Hid (s + i + (bvs (l.drop s)).length ≤ (bvs (escB (l.take s) ++ List.replicate (l.length + i - (escB (l.take s)).length) 0)).length) := by
        show _ ≤ _
        rw [bvs_length, bvs_length, List.length_append, List.length_replicate, HX.out.2, List.length_drop]
        omega
      have HGd : Hid (wr.drew.heap[w.heap.size]? = some (.cells (bvs (escB (l.take s) ++ List.replicate (l.length + i - (escB (l.take s)).length) 0)).toArray 5 (0, 0))) := HG
      clear cA1 cA2
      have eD : Hid ((bvs (l.drop s)).length = l.length - s) := by show _ = _; rw [bvs_length, List.length_drop]
      have eC : ((l.length - s : Nat) : Int) = (l.length : Int) - s := by omega
      have HC := Lib.hid eC
      clear eC
      go_wp2
      go_region_held3 (fun _ : World => True) (trivial) ((refine st_copy rfl (.tmp 123) (.tmp 126) 28 28 5 rfl Tryd.underlying28 (by kernel_rfl) rfl rfl w.heap.size (s + i) HGd.out f1.out f2.out hS1 f3.out bvs_one hB.drew (Nat.le_refl _) ?_; intro w2 HG2 hB2; simp only [eD.out]; rw [HC.out]))
      go_wp2
      go_ret
      refine RetB.mk' (l := escB l) (by rw [escB_length]; have := Hcnt.out; omega) (by omega) (by omega) (Seg.of_block HG2.out fun j u hu => ?_) hB2
      have e0 := splice_fill (E := escB (l.take s)) (X := l.drop s) (N := l.length + i) (by rw [HX.out.2, List.length_drop]; omega)
      have e1 : (escB (l.take s) ++ l.drop s).length = l.length + i := by rw [List.length_append, HX.out.2, List.length_drop]; omega
      rw [e1] at e0
      simp only [HX.out.2] at e0 hu ⊢
      rw [e0]
      rw [HX.out.1] at hu
      simpa using hu

set_option maxHeartbeats 400000 in
theorem replaceAll_any {A : Option Addr} {l : List UInt8} {n : Nat} (hn : l.length = n) (c c1 c2 o1 o2 : Nat) (b1 b2 : Nat) (w : World) (h : Seg w A (bvs l)) (hc : n ≤ c) (h1 : w.cell? ⟨b1, o1, none⟩ = some (.int .u8 0)) (h2 : Seg w (some ⟨b2, o2, none⟩) (bvs [0, 255])) (hl : n ≤ 1099511627776) :
    Calls Tryd.prog 51 #[.slice A n c, .slice (some ⟨b1, o1, none⟩) 1 c1, .slice (some ⟨b2, o2, none⟩) 2 c2] w (RetB w (escB l)) := by
  subst hn
  have hr : Calls Tryd.prog 61 #[.slice A l.length c, .slice (some ⟨b1, o1, none⟩) 1 c1, .slice (some ⟨b2, o2, none⟩) 2 c2, .int .i64 (-1)] w (RetB w (escB l)) := by
    by_cases hz : l.count 0 = 0
    · rw [escB_none hz]
      exact replace_none c c1 c2 o1 o2 b1 b2 w h h1 hz (by omega)
    · exact replace_some c c1 c2 o1 o2 b1 b2 w h hc h1 h2 (by omega) hl
  have HR := Lib.hid hr
  clear hr h h2
  go_enter Tryd.func51, Tryd.ntmps51
  go_wp2_with (go_at_call 61; refine HR.out.mono ?_; rintro e w' ⟨A', c', rfl, hc', hc2', hs', hb'⟩)
  go_ret
  exact RetB.mk' rfl hc' hc2' hs' hb'
end Go.Proofs.YtbjnpomcgcbflaaDoor

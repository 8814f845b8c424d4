/- The walk of an entry of bytes (audit.Read). -/
import Derived.Test.YtbjnpomcgcbflaaDoorD3
import Derived.Test.YtbjnpomcgcbflaaDoorB12
import Derived.StillTailTactics
set_option linter.unusedVariables false
set_option linter.unusedSimpArgs false
namespace Go.Proofs.YtbjnpomcgcbflaaDoor
open Go.RowKit Go.Deep

theorem readB_none {l : List UInt8} (h : decB l = none) : readB l = none := by unfold readB; rw [h]
theorem readB_len {l : List UInt8} {ps : List (List UInt8)} (h : decB l = some ps) (hn : ps.length ≠ 7) : readB l = none := by
  unfold readB
  rw [h]
  split
  · rename_i e
    injection e with e
    subst e
    exact absurd rfl hn
  · rfl
theorem readB_seven {l n t c w x p h : List UInt8} (e : decB l = some [n, t, c, w, x, p, h]) :
    readB l = if n.length = 8 ∧ t.length = 8 ∧ c.length = 8 then some { no := narB n, time := narB t, code := narB c, who := ⟨w.toArray⟩, what := ⟨x.toArray⟩, prev := p, hash := h } else none := by
  unfold readB
  rw [e]
theorem narB_i64 (l : List UInt8) : I64 (narB l) := by
  unfold narB I64
  simp only [IntKind.wrap_i64]
  omega
/-- What num.Narrow answers. -/
def narE (l : List UInt8) : Int × Int := if l.length = 8 then (narB l, 0) else (0, 1)
theorem narE_yes {l : List UInt8} (h : l.length = 8) : narE l = (narB l, 0) := if_pos h
theorem narE_no {l : List UInt8} (h : ¬ l.length = 8) : narE l = (0, 1) := if_neg h
theorem narrow_any {A : Option Addr} {l : List UInt8} {n : Nat} (hn : l.length = n) (c : Nat) (w : World) (h : Hid (Seg w A (bvs l))) :
    Calls Tryd.prog 40 #[.slice A n c] w fun e w' => e = .returned (.tuple #[.int .i64 (narE l).1, .int .i64 (narE l).2]) ∧ w = w' := by
  by_cases h8 : n = 8
  · subst h8
    rw [narE_yes hn]
    exact narrow_yes hn c w h
  · rw [narE_no (by omega)]
    exact narrow_no c w (by simpa using (show ¬ (n : Int) = 8 by omega))
theorem results_ct {P : Program} {fn : Func} {p u : Tmp} {ty : TypeId} (h : fn.results = #[.cell p ty, .tmp u]) (tmps : Array Value) (w : World) (g : Nat) (t : TypeId) (cs : Array Value) (fr : Nat × Nat) (d : TypeDesc)
    (hp : tmps.getD p undef = .pointer (some ⟨g, 0, none⟩)) (hg : w.heap[g]? = some (.cells cs t fr))
    (hu : P.underlying ty = some d) (hd : (match d with | .struct _ | .array _ _ => true | _ => false) = true) (hi : (P.info? ty).map (·.size) = some cs.size) :
    (results fn tmps).run P w = .ok (.tuple #[.agg cs, tmps.getD u undef]) w := by
  have hp' : tmps[p]?.getD undef = .pointer (some ⟨g, 0, none⟩) := by simpa using hp
  simp [results, h, hp', asAddr, run_loadVar_row w g t ty cs fr d hg hu hd hi]
theorem wl_conv_bs {P : Program} {ops : Array Oper} {rest : List Oper} {o : Oper} {a : Act} {Q : Exit → Act → World → Prop} {w : World} (hgd : o.guard = none) (src dst e : TypeId) (x : Operand) (ho : o.op = .convert src dst x) (hs : P.underlying src = some (.slice e)) (he : P.underlying e = some (.int .u8)) (hd : P.underlying dst = some .string)
    {A : Option Addr} {l : List UInt8} {n c : Nat} (hn : n = l.length) (hx : a.eval x = .slice A n c) (hseg : Seg w A (bvs l)) (h : wpList P ops Q rest (a.put o.dst (.string ⟨l.toArray⟩)) w) : wpList P ops Q (o :: rest) a w := by
  subst hn
  refine wpList_plain hgd fun K hK => ?_
  unfold Oper.wp execOp
  simp only [ho, Sem.run_bind, hx, run_string_seg (P := P) src dst e hs he hd w c hseg]
  exact hK _ _ h

theorem wpStill_conv_bs {P : Program} {ops : Array Oper} {rest : List Oper} {o : Oper} {a : Act} {Q : Act → Prop} {w : World} (hgd : o.guard = none) (src dst e : TypeId) (x : Operand) (ho : o.op = .convert src dst x) (hs : P.underlying src = some (.slice e)) (he : P.underlying e = some (.int .u8)) (hd : P.underlying dst = some .string)
    {A : Option Addr} {l : List UInt8} {n c : Nat} (hn : n = l.length) (hx : a.eval x = .slice A n c) (hseg : Seg w A (bvs l)) (h : wpStill P ops w Q rest (a.put o.dst (.string ⟨l.toArray⟩))) : wpStill P ops w Q (o :: rest) a := by
  subst hn
  refine wpStill_step fun K hK => ?_
  have hw : Region.wanted o (yielded ops a.tmps) = true := by simp [Region.wanted, hgd]
  rw [if_pos hw]
  unfold Oper.still execOp
  simp only [ho, Sem.run_bind, hx, run_string_seg (P := P) src dst e hs he hd w c hseg]
  exact ⟨rfl, hK _ h⟩

def RetRead (w : World) (l : List UInt8) (r : Ending) (w' : World) : Prop :=
  (readB l = none ∧ r = .returned (.tuple #[.agg #[.int .i64 0, .int .i64 0, .int .i64 0, .string ⟨#[]⟩, .string ⟨#[]⟩, .slice none 0 0, .slice none 0 0], .bool false]) ∧ Below w.heap.size w w') ∨
  ∃ e A c B d, readB l = some e ∧ r = .returned (.tuple #[.agg #[.int .i64 e.no, .int .i64 e.time, .int .i64 e.code, .string e.who, .string e.what, .slice A e.prev.length c, .slice B e.hash.length d], .bool true]) ∧ EntIn w' e A c B d ∧ Below w.heap.size w w'
def BytesC (w : World) (cs : List Value) (x : List UInt8) : Prop := ∃ A c, cs = [.slice A x.length c] ∧ x.length ≤ c ∧ c ≤ 9223372036854775807 ∧ Seg w A (bvs x)
theorem BytesC.stays : Stays BytesC := fun w w' cs x hb ⟨A, c, h1, h2, h3, h4⟩ => ⟨A, c, h1, h2, h3, h4.below hb⟩
theorem arr7 {w : World} {A : Option Addr} {ps : List (List UInt8)} (h : Arr BytesC 1 w A ps) {k : Nat} {x : List UInt8} (hx : ps[k]? = some x) :
    ∃ b o Ax cx, A = some ⟨b, o, none⟩ ∧ w.cell? ⟨b, o + k, none⟩ = some (.slice Ax x.length cx) ∧ x.length ≤ cx ∧ cx ≤ 9223372036854775807 ∧ Seg w Ax (bvs x) := by
  obtain ⟨b, o, C, hA, hC1, ⟨Ax, cx, rfl, hcx, hcx2, hsx⟩, hcell⟩ := h.get (by decide) hx
  exact ⟨b, o, Ax, cx, hA, by simpa using hcell 0 _ rfl, hcx, hcx2, hsx⟩
def nums (ps : List (List UInt8)) (k : Nat) : Array Value := #[.int .i64 (if 0 < k then narB (ps.getD 0 []) else 0), .int .i64 (if 1 < k then narB (ps.getD 1 []) else 0), .int .i64 (if 2 < k then narB (ps.getD 2 []) else 0)]

theorem nums_set {ps : List (List UInt8)} {k : Nat} {x : List UInt8} (hx : ps[k]? = some x) (hk : k < 3) : (nums ps k).setIfInBounds k (.int .i64 (narB x)) = nums ps (k + 1) := by
  have e : ps.getD k [] = x := by simp [List.getD_eq_getElem?_getD, hx]
  rw [← e]
  clear e hx
  rcases (by omega : k = 0 ∨ k = 1 ∨ k = 2) with rfl | rfl | rfl <;> rfl
theorem seven_of {ps : List (List UInt8)} (h : ps.length = 7) : ∃ p0 p1 p2 p3 p4 p5 p6, ps = [p0, p1, p2, p3, p4, p5, p6] := by
  match ps, h with
  | [a, b, c, d, e, f, g], _ => exact ⟨a, b, c, d, e, f, g, rfl⟩
theorem readB_bad {l : List UInt8} {ps : List (List UInt8)} {k : Nat} {x : List UInt8} (hd : decB l = some ps) (h7 : ps.length = 7) (hk : k < 3) (hx : ps[k]? = some x) (h8 : ¬ x.length = 8) : readB l = none := by
  obtain ⟨p0, p1, p2, p3, p4, p5, p6, rfl⟩ := seven_of h7
  rw [readB_seven hd, if_neg]
  rintro ⟨h1, h2, h3⟩
  rcases (by omega : k = 0 ∨ k = 1 ∨ k = 2) with rfl | rfl | rfl <;> (cases hx; contradiction)

set_option maxRecDepth 100000 in
set_option maxHeartbeats 2000000 in
theorem read_any {A : Option Addr} {l : List UInt8} {n : Nat} (hn : l.length = n) (c : Nat) (hc : n ≤ c) (hc2 : c ≤ 9223372036854775807) (hl : n ≤ 1099511627776) (w : World) (h : Hid (Seg w A (bvs l))) :
    Calls Tryd.prog 27 #[.slice A n c] w (RetRead w l) := by
  have k1 := decode_any hn c hc hc2 hl (w.alloc (.cells #[.int .i64 0, .int .i64 0, .int .i64 0, .string ⟨#[]⟩, .string ⟨#[]⟩, .slice none 0 0, .slice none 0 0] 30)) (h.out.below (alloc_ext _ _))
  go_enter Tryd.func27, Tryd.ntmps27
  go_wp2_with fail
  refine k1.mono ?_
  rintro r w1 (⟨hd, rfl, hb1⟩ | ⟨ps, v, hd, rfl, ho, hb1⟩)
  · have HD := Lib.hid (readB_none hd)
    have H0 := Lib.hid (heap_keep (heap_alloc_new w _) hb1)
    have HB := Lib.hid (ext_trans (alloc_ext _ _) hb1)
    clear k1 hd hb1
    go_wp2_with (refine wpList_store_row rfl 30 (.tmp 2) (.tmp 20) rfl w.heap.size _ rfl rfl _ _ H0.out infoEntSz rfl (by simp [Value.oneCell']) ?_)
    exact bodyPost_ret (results_ct rfl _ _ w.heap.size _ _ _ _ rfl (setRow_heap _ _ _ _ _ _ H0.out) Tryd.underlying30 rfl infoEntSz) rfl (.inl ⟨HD.out, rfl, below_setRow HB.out (Nat.le_refl _) _⟩)
  · obtain ⟨Av, cv, rfl, hcv, hcv2, har, -⟩ := (ho.own (E' := BytesC) fun base row w cs x ⟨A, c, h1, h2, h3, h4, _⟩ => ⟨A, c, h1, h2, h3, h4⟩).arr
    have H0 := Lib.hid (heap_keep (heap_alloc_new w _) hb1)
    have HB := Lib.hid (ext_trans (alloc_ext _ _) hb1)
    have HA := Lib.hid har
    have hsz : w.heap.size < w1.heap.size := by have := hb1.size; simp at this; omega
    clear k1 hb1 ho har
    by_cases h7 : ps.length = 7
    · rw [h7] at hcv ⊢
      have HD := Lib.hid hd
      have H7 := Lib.hid h7
      clear hd h7
      go_wp2_with fail
      go_loopw [5, 21] (fun v5 v21 wr => ∃ k : Nat, k ≤ 3 ∧ v21 = .int .i64 k ∧ v5 = .int .i64 0 ∧ Hid (∀ j x, j < k → ps[j]? = some x → x.length = 8) ∧ Hid (wr.heap[w1.heap.size]? = some (.cells (nums ps k) 61 (0, 0))) ∧ Hid (Below w1.heap.size w1 wr)) (fun _ v21 _ => 3 - (intOf v21).toNat)
      case atStart => exact ⟨0, by omega, rfl, rfl, fun _ _ h _ => by omega, heap_alloc_new _ _, alloc_ext _ _⟩
      case round =>
        obtain ⟨k, hk, rfl, rfl, H8, HR, HB1⟩ := hrel
        by_cases hlt : k < 3
        · obtain ⟨x, hx⟩ : ∃ x, ps[k]? = some x := ⟨_, List.getElem?_eq_getElem (by have := H7.out; omega)⟩
          obtain ⟨b, o, Ax, cx, rfl, hcell, hx1, hx2, hs⟩ := arr7 (HA.out.below BytesC.stays HB1.out) hx
          have k2 := narrow_any (l := x) rfl cx wr hs
          have HX := Lib.hid hx
          clear hx hs hx1 hx2
          have hc1 := cell_of_row wr w1.heap.size k _ _ _ HR.out
          have hf1 := frozen_of_row wr w1.heap.size k _ _ HR.out
          have hS := heap_setCell_same wr w1.heap.size k _ _ (.int .i64 (narE x).1) HR.out
          have HQ : Hid (∀ v, Below w1.heap.size w1 (wr.setCell ⟨w1.heap.size, k, none⟩ v)) := fun v => HB1.out.setCell (p := ⟨w1.heap.size, k, none⟩) (Nat.le_refl _) v
          rcases (by omega : k = 0 ∨ k = 1 ∨ k = 2) with rfl | rfl | rfl
          all_goals
            simp only [nums, List.getElem?_toArray, List.getElem?_cons_zero, List.getElem?_cons_succ] at hc1
            try simp only [Nat.add_zero] at hcell
            have HS := Lib.hid hS
            clear hS
            go_wp2_with fail
            refine k2.mono ?_
            rintro r w2 ⟨rfl, rfl⟩
            clear k2
            by_cases h8 : x.length = 8
            · rw [narE_yes h8] at HS ⊢
              have H8' := Lib.hid h8
              clear h8
              have HBz := Lib.hid (HQ.out (.int .i64 (narB x)))
              go_wp2_with fail
              go_roundw
              case rel =>
                refine ⟨_, by omega, by go_num, rfl, fun j y hj hy => ?_, (nums_set HX.out (by omega)) ▸ HS.out, HBz.out⟩
                rcases Nat.lt_succ_iff_lt_or_eq.1 hj with h | h
                · exact H8.out j y h hy
                · rw [h, HX.out] at hy
                  cases hy
                  exact H8'.out
              case measure => simp [intOf]
            · rw [narE_no h8] at HS ⊢
              have HRN := Lib.hid (readB_bad HD.out H7.out (by omega) HX.out h8)
              have H8' := Lib.hid h8
              clear h8
              have hBz := HQ.out (.int .i64 0)
              have H0' := Lib.hid (heap_keep H0.out hBz)
              have HBz := Lib.hid (ext_trans HB.out hBz)
              clear hBz
              go_wp2_with (refine wpList_store_row rfl 30 (.tmp 2) (.tmp 36) rfl w.heap.size _ rfl rfl _ _ H0'.out infoEntSz rfl (by simp [Value.oneCell']) ?_)
              exact bodyPost_ret (results_ct rfl _ _ w.heap.size _ _ _ _ rfl (setRow_heap _ _ _ _ _ _ H0'.out) Tryd.underlying30 rfl infoEntSz) rfl (.inl ⟨HRN.out, rfl, below_setRow HBz.out (Nat.le_refl _) _⟩)
        · obtain rfl : k = 3 := by omega
          obtain ⟨p0, p1, p2, p3, p4, p5, p6, rfl⟩ := seven_of H7.out
          have hrd := readB_seven HD.out
          rw [if_pos ⟨H8.out 0 _ (by decide) rfl, H8.out 1 _ (by decide) rfl, H8.out 2 _ (by decide) rfl⟩] at hrd
          have HRD := Lib.hid hrd
          clear hrd
          obtain ⟨b, o, A0, c0, rfl, -⟩ := arr7 (HA.out.below BytesC.stays HB1.out) (k := 3) rfl
          go_wp2_with fail
          refine wp_region_still_tail 21 (by kernel_rfl) (by kernel_rfl) ?_
          simp only [List.take_succ_cons, List.take_zero, List.drop_succ_cons, List.drop_zero]
          change wpStill _ _ wr.drew (fun a' => wpList _ _ _ _ a' wr.drew) _ _
          have hB2 := ext_trans HB1.out (drew_ext wr)
          have hR2 : wr.drew.heap[w1.heap.size]? = some (.cells #[.int .i64 (narB p0), .int .i64 (narB p1), .int .i64 (narB p2)] 61 (0, 0)) := heap_keep HR.out (drew_ext wr)
          generalize hwd : wr.drew = wd at hB2 hR2 ⊢
          clear hwd
          have hA := HA.out.below BytesC.stays hB2
          obtain ⟨_, _, A3, c3, e3, x3, a3, b3, s3⟩ := arr7 hA (k := 3) rfl
          cases e3
          obtain ⟨_, _, A4, c4, e4, x4, a4, b4, s4⟩ := arr7 hA (k := 4) rfl
          cases e4
          obtain ⟨_, _, A5, c5, e5, x5, a5, b5, s5⟩ := arr7 hA (k := 5) rfl
          cases e5
          obtain ⟨_, _, A6, c6, e6, x6, a6, b6, s6⟩ := arr7 hA (k := 6) rfl
          cases e6
          have y0 := cell_of_row wd w1.heap.size 0 _ _ _ hR2
          have y1 := cell_of_row wd w1.heap.size 1 _ _ _ hR2
          have y2 := cell_of_row wd w1.heap.size 2 _ _ _ hR2
          simp only [List.getElem?_toArray, List.getElem?_cons_zero, List.getElem?_cons_succ] at y0 y1 y2
          have h0 := heap_keep H0.out hB2
          have H0' := Lib.hid h0
          have hno : ∀ b, b = w.heap.size → ∃ C T fr, wd.heap[b]? = some (.cells C T fr) ∧ noU8 C.toList := fun b hb => by
            subst hb
            exact ⟨_, _, _, h0, by simp [noU8, bv]⟩
          have S3 := Lib.hid s3
          have S4 := Lib.hid s4
          have HF := Lib.hid (show ∀ cs, EntIn (wd.setRow w.heap.size cs) { no := narB p0, time := narB p1, code := narB p2, who := ⟨p3.toArray⟩, what := ⟨p4.toArray⟩, prev := p5, hash := p6 } A5 c5 A6 c6 from fun cs =>
            ⟨a5, b5, a6, b6, s5.off _ hno (fun b hb _ => setRow_other _ _ _ _ hb), s6.off _ hno (fun b hb _ => setRow_other _ _ _ _ hb), ⟨narB_i64 _, narB_i64 _, narB_i64 _⟩⟩)
          have HBz := Lib.hid (ext_trans HB.out hB2)
          clear hA hR2 hB2 h0 hno s3 s4 s5 s6 a3 a4 a5 a6 b3 b4 b5 b6
          repeat (first | (refine wpStill_conv_bs rfl 28 9 5 (.tmp 46) rfl Tryd.underlying28 Tryd.underlying5 Tryd.underlying9 rfl rfl S3.out ?_) | (refine wpStill_conv_bs rfl 28 9 5 (.tmp 50) rfl Tryd.underlying28 Tryd.underlying5 Tryd.underlying9 rfl rfl S4.out ?_) | still_step)
          refine wpStill_nil ?_
          go_wp2_with (refine wpList_store_row rfl 30 (.tmp 2) (.tmp 58) rfl w.heap.size _ rfl rfl _ _ H0'.out infoEntSz rfl (by simp [Value.oneCell']) ?_)
          exact bodyPost_ret (results_ct rfl _ _ w.heap.size _ _ _ _ rfl (setRow_heap _ _ _ _ _ _ H0'.out) Tryd.underlying30 rfl infoEntSz) rfl (.inr ⟨_, A5, c5, A6, c6, HRD.out, rfl, HF.out _, below_setRow HBz.out (Nat.le_refl _) _⟩)
    · have HD := Lib.hid (readB_len hd h7)
      have h7' : ((ps.length : Int) == 7) = false := by simpa using (show ¬ (ps.length : Int) = 7 by omega)
      clear hd h7
      go_wp2_with (refine wpList_store_row rfl 30 (.tmp 2) (.tmp 20) rfl w.heap.size _ rfl rfl _ _ H0.out infoEntSz rfl (by simp [Value.oneCell']) ?_)
      exact bodyPost_ret (results_ct rfl _ _ w.heap.size _ _ _ _ rfl (setRow_heap _ _ _ _ _ _ H0.out) Tryd.underlying30 rfl infoEntSz) rfl (.inl ⟨HD.out, rfl, below_setRow HB.out (Nat.le_refl _) _⟩)
end Go.Proofs.YtbjnpomcgcbflaaDoor

/- Walks: the head of some entries. -/
import Derived.Test.YtbjnpomcgcbflaaDoorB3
set_option linter.unusedVariables false
set_option linter.unusedSimpArgs false
namespace Go.Proofs.YtbjnpomcgcbflaaDoor
open Go.RowKit Go.Deep

theorem EntE.flat : Flat EntE 7 := fun w cs x ⟨A, c, B, d, h, _⟩ => by
  subst h
  exact ⟨rfl, fun u hu => by simp [entCells] at hu; rcases hu with rfl | rfl | rfl | rfl | rfl | rfl | rfl <;> rfl⟩
theorem infoEnt : (Tryd.prog.info? 30).map (fun i => (i.zero, i.size, i.bytes)) = some (some (.agg #[.int .i64 0, .int .i64 0, .int .i64 0, .string ⟨#[]⟩, .string ⟨#[]⟩, .slice none 0 0, .slice none 0 0]), 7, 104) := by kernel_rfl
theorem infoEntSz : (Tryd.prog.info? 30).map (·.size) = some 7 := by kernel_rfl
theorem headB_snoc' {l : List Ent} {m : Nat} {e : Ent} (hm : l.length = m + 1) (he : l[m]? = some e) : headB l = e.hash := by
  unfold headB
  rw [List.getLast?_eq_getElem?, hm, Nat.add_sub_cancel, he]

set_option maxRecDepth 100000 in
set_option maxHeartbeats 400000 in
theorem head_any {A : Option Addr} {l : List Ent} {n : Nat} (hn : l.length = n) (hn2 : n ≤ 1099511627776) (c : Nat) (w : World) (h : Hid (Arr EntE 7 w A l)) (hl : Hid (∀ e ∈ l, EntLe e)) :
    Calls Tryd.prog 16 #[.slice A n c] w (RetF w (headB l)) := by
  rcases Nat.eq_zero_or_pos n with h0 | h0
  · subst h0
    have HN := Lib.hid hn
    clear hn
    go_enter Tryd.func16, Tryd.ntmps16
    go_wp2_with (go_at_call 18; refine (zero_any _).mono ?_; rintro r w1 ⟨A9, c9, rfl, hc9, hc92, hs9, hB9, hf9⟩)
    go_ret
    obtain rfl := List.eq_nil_of_length_eq_zero HN.out
    exact ⟨A9, c9, rfl, hc9, hc92, hs9, hB9, hf9⟩
  · obtain ⟨m, rfl⟩ : ∃ m, n = m + 1 := ⟨n - 1, by omega⟩
    have he : l[m]? = some l[m] := List.getElem?_eq_getElem (by omega)
    obtain ⟨b, o, C, rfl, hC, ⟨A1, c1, B1, d1, rfl, hi⟩, hcell⟩ := h.out.get (by decide) he
    have c6 := hcell 6 _ rfl
    have hh := headB_snoc' hn he
    rw [hh]
    have hle : l[m].hash.length ≤ 70368744177664 := by have := (hl.out l[m] (List.getElem_mem _)).hash; omega
    have HI := Lib.hid hi
    have HN := Lib.hid hn
    generalize l[m] = e at *
    clear hn he hcell hC hi hh
    go_enter Tryd.func16, Tryd.ntmps16
    go_wp2_with fail
    refine (cloneB_any d1 w HI.out.sh hle).mono ?_
    rintro r w1 ⟨A9, c9, rfl, hc9, hc92, hs9, hB9, hf9⟩
    go_wp2_with fail
    go_ret
    exact ⟨A9, c9, rfl, hc9, hc92, hs9, hB9, hf9⟩

/-- The same in what calls of the document's head: the last one's own slice. -/
def RetS (w : World) (l : List UInt8) (e : Ending) (w' : World) : Prop := ∃ v, e = .returned v ∧ SlB l v w' ∧ Below w.heap.size w w'
set_option maxRecDepth 100000 in
set_option maxHeartbeats 400000 in
theorem refHead_any {A : Option Addr} {l : List Ent} {n : Nat} (hn : l.length = n) (hn2 : n ≤ 1099511627776) (c : Nat) (w : World) (h : Hid (Arr EntE 7 w A l)) :
    Calls Tryd.prog 17 #[.slice A n c] w (RetB w (headB l)) := by
  rcases Nat.eq_zero_or_pos n with h0 | h0
  · subst h0
    have HN := Lib.hid hn
    clear hn
    go_enter Tryd.func17, Tryd.ntmps17
    go_wp2_with (go_at_call 19; refine (refZero_any _).mono ?_; rintro r w1 ⟨A9, c9, rfl, hc9, hc92, hs9, hB9⟩)
    go_ret
    obtain rfl := List.eq_nil_of_length_eq_zero HN.out
    exact ⟨A9, c9, rfl, hc9, hc92, hs9, hB9⟩
  · obtain ⟨m, rfl⟩ : ∃ m, n = m + 1 := ⟨n - 1, by omega⟩
    have he : l[m]? = some l[m] := List.getElem?_eq_getElem (by omega)
    obtain ⟨b, o, C, rfl, hC, ⟨A1, c1, B1, d1, rfl, hi⟩, hcell⟩ := h.out.get (by decide) he
    have c6 := hcell 6 _ rfl
    have hh := headB_snoc' hn he
    rw [hh]
    have HI := Lib.hid hi
    generalize l[m] = e at *
    clear hn he hcell hC hi hh
    go_enter Tryd.func17, Tryd.ntmps17
    go_wp2_with fail
    go_ret
    exact ⟨B1, d1, rfl, HI.out.hd, HI.out.hd2, HI.out.sh, Below.refl _ _⟩

/-! ### What bears no bytes is apart from bytes -/
def noU8 (C : List Value) : Prop := ∀ v ∈ C, ∀ d : UInt8, v ≠ bv d
theorem Seg.off {w w' : World} {A : Option Addr} {l : List UInt8} (h : Seg w A (bvs l)) (S : Nat → Prop) (hS : ∀ b, S b → ∃ C T fr, w.heap[b]? = some (.cells C T fr) ∧ noU8 C.toList) (hw : ∀ b, ¬ S b → b < w.heap.size → w'.heap[b]? = w.heap[b]?) : Seg w' A (bvs l) := by
  by_cases hl : l = []
  · subst hl
    exact Seg.nil _ _
  · refine ⟨fun hne => ?_⟩
    obtain ⟨b, o, rfl, C, T, fr, hh, hc⟩ := h.out hne
    have hb : ¬ S b := fun hs => by
      obtain ⟨C', T', fr', hh', hn⟩ := hS b hs
      rw [hh] at hh'
      injection hh' with hh'
      injection hh' with e1 _ _
      subst e1
      obtain ⟨d, l', rfl⟩ := List.exists_cons_of_ne_nil hl
      have := hc 0 (bv d) (by simp [bvs])
      exact hn _ (List.mem_of_getElem? (i := o + 0) (by simpa using this)) d rfl
    refine ⟨b, o, rfl, C, T, fr, ?_, hc⟩
    rw [hw b hb (Array.getElem?_eq_some_iff.1 hh).1]
    exact hh
theorem setCell_setRow_off (w : World) (b1 j b0 : Nat) (v : Value) (cs : Array Value) : ∀ b, ¬ (b = b0 ∨ b = b1) → b < w.heap.size → ((w.setCell ⟨b1, j, none⟩ v).setRow b0 cs).heap[b]? = w.heap[b]? := fun b hb _ => by
  rw [setRow_other _ _ _ _ (fun e => hb (.inl e)), heap_setCell_other _ _ _ _ (fun e => hb (.inr e))]

/-! ### The entry behind some -/
theorem bcell {W w1 : World} (hb : Below W.heap.size W w1) : (∀ b o, b < W.heap.size → w1.cell? ⟨b, o, none⟩ = W.cell? ⟨b, o, none⟩) ∧ (∀ b o, b < W.heap.size → w1.frozen? ⟨b, o, none⟩ = W.frozen? ⟨b, o, none⟩) :=
  ⟨fun b o h => hb.cell (p := ⟨b, o, none⟩) h, fun b o h => hb.frozen (p := ⟨b, o, none⟩) h⟩
theorem headB_le {l : List Ent} (h : ∀ e ∈ l, EntLe e) : (headB l).length ≤ 1099511627776 := by
  unfold headB
  cases hq : l.getLast? with
  | none => simp [zeroB]
  | some e => exact (h e (List.mem_of_getLast? hq)).hash
theorem shaOut_length (b : List UInt8) : (shaOut b).length = 32 := by
  unfold shaOut
  have h : ∀ l : List Int, (l.flatMap be4).length = 4 * l.length := fun l => by
    induction l with
    | nil => rfl
    | cons x l ih =>
      have e : (be4 x).length = 4 := rfl
      rw [List.flatMap_cons, List.length_append, ih, e, List.length_cons]
      omega
  rw [h, blocksTo_length]
/-- A call that hands back an entry. -/
def RetE (w : World) (e : Ent) (r : Ending) (w' : World) : Prop := ∃ A c B d, r = .returned (.agg #[.int .i64 e.no, .int .i64 e.time, .int .i64 e.code, .string e.who, .string e.what, .slice A e.prev.length c, .slice B e.hash.length d]) ∧ EntIn w' e A c B d ∧ Below w.heap.size w w' ∧ Fresh w A ∧ Fresh w B
set_option maxRecDepth 100000 in
set_option maxHeartbeats 1000000 in
theorem next_any {A : Option Addr} {l : List Ent} {n : Nat} (hn : l.length = n) (hn2 : n ≤ 1099511627776) (c : Nat) (time code : Int) (who what : ByteArray) (w : World) (h : Hid (Arr EntE 7 w A l)) (hl : Hid (∀ e ∈ l, EntLe e)) (hsz : Hid (who.size ≤ 1099511627776 ∧ what.size ≤ 1099511627776)) (hfit : Hid (I64 time ∧ I64 code)) :
    Calls Tryd.prog 14 #[.slice A n c, .int .i64 time, .int .i64 code, .string who, .string what] w (RetE w (nextB l time code who what)) := by
  subst hn
  have k1 := head_any rfl hn2 c (w.alloc (.cells #[.int .i64 0, .int .i64 0, .int .i64 0, .string ⟨#[]⟩, .string ⟨#[]⟩, .slice none 0 0, .slice none 0 0] 30)) (h.out.below EntE.stays (alloc_ext _ _)) hl
  go_enter Tryd.func14, Tryd.ntmps14
  go_wp2_with fail
  refine k1.mono ?_
  rintro r w1 ⟨A1, c1, rfl, hc1, hc12, hs1, hB1, hf1⟩
  have HF1 := Lib.hid (hf1.mono (alloc_ext w _))
  clear hf1
  have hi : EntIn (w1.alloc (.cells #[.int .i64 l.length, .int .i64 time, .int .i64 code, .string who, .string what, .slice A1 (headB l).length c1, .slice none 0 0] 30)) { no := l.length, time, code, who, what, prev := headB l, hash := [] } A1 c1 none 0 :=
    ⟨hc1, hc12, Nat.le_refl _, by decide, hs1.below (alloc_ext _ _), Seg.nil _ _, ⟨⟨by show -9223372036854775808 ≤ (l.length : Int); omega, by show (l.length : Int) ≤ 9223372036854775807; omega⟩, hfit.out.1, hfit.out.2⟩⟩
  have hle : EntLe { no := l.length, time, code, who, what, prev := headB l, hash := [] } := ⟨hsz.out.1, hsz.out.2, headB_le hl.out, by simp⟩
  have HLB := Lib.hid (bodyB_le hle)
  have k2 := body_any _ _ _ _ _ _ (Lib.hid hi) (Lib.hid hle)
  have HS1 := Lib.hid hs1
  have HB1 := Lib.hid (ext_trans (alloc_ext _ _) hB1)
  have HA := Lib.hid (heap_keep (heap_alloc_new w _) hB1)
  have hz1 : w.heap.size < w1.heap.size := by have := hB1.size; simp at this; omega
  clear k1 hi hle hB1 hs1
  go_wp2_with fail
  refine k2.mono ?_
  rintro r w2 ⟨A2, c2, rfl, hc2, hc22, hs2, hB2⟩
  have k3 := shaSum_any rfl c2 hc2 hc22 (by have := HLB.out; omega) w2 hs2
  clear k2 hs2 hc2 hc22
  go_wp2_with fail
  refine k3.mono ?_
  rintro r w3 ⟨A3, c3, rfl, hc3, hc32, hs3, hB3, hf3⟩
  have HF3 := Lib.hid (hf3.mono (ext_trans HB1.out (ext_trans (alloc_ext w1 _) hB2)))
  clear hf3
  have hB23 := ext_trans hB2 hB3
  have R11 := heap_keep (heap_alloc_new w1 _) hB23
  have R10 := heap_keep (heap_keep HA.out (alloc_ext _ _)) hB23
  have c6 := cell_of_row w3 w1.heap.size 6 _ _ _ R11
  simp only [List.getElem?_toArray, List.getElem?_cons_zero, List.getElem?_cons_succ] at c6
  have f6 := frozen_of_row w3 w1.heap.size 6 _ _ R11
  have S11 := heap_setCell_same w3 w1.heap.size 6 _ _ (.slice A3 (shaOut (bodyB { no := l.length, time, code, who, what, prev := headB l, hash := [] })).length c3) R11
  simp only [List.setIfInBounds_toArray, List.set_cons_zero, List.set_cons_succ] at S11
  have S10 := (heap_setCell_other w3 ⟨w1.heap.size, 6, none⟩ w.heap.size (.slice A3 (shaOut (bodyB { no := l.length, time, code, who, what, prev := headB l, hash := [] })).length c3) (by show w.heap.size ≠ w1.heap.size; omega)).trans R10
  have H11 := Lib.hid S11
  have H10 := Lib.hid S10
  have hBz := ext_trans HB1.out (ext_trans (alloc_ext w1 _) hB23)
  have hBs := (hBz.setCell (p := ⟨w1.heap.size, 6, none⟩) (by show w.heap.size ≤ w1.heap.size; omega) (.slice A3 (shaOut (bodyB { no := l.length, time, code, who, what, prev := headB l, hash := [] })).length c3))
  have HBS := Lib.hid hBs
  have H3 := Lib.hid (And.intro hc3 (And.intro hc32 hs3))
  have HR := Lib.hid (And.intro R10 R11)
  have HX := Lib.hid (And.intro (HS1.out.below (ext_trans (alloc_ext w1 _) hB23)) HS1.out)
  clear k3 hB2 hB3 hc3 hc32 hs3 hB23 R11 R10 S11 S10 hBz hBs
  go_wp2_with (first | (refine wpList_load_row rfl 30 (.tmp 11) rfl w1.heap.size rfl _ _ _ _ H11.out Tryd.underlying30 rfl infoEntSz ?_) | (refine wpList_store_row rfl 30 (.tmp 10) (.tmp 25) rfl w.heap.size _ rfl rfl _ _ H10.out infoEntSz rfl (by simp [Value.oneCell']) ?_))
  refine bodyPost_ret (v := .agg _) (results_cell_row rfl _ _ w.heap.size _ _ _ _ rfl (setRow_heap _ _ _ _ _ _ H10.out) Tryd.underlying30 rfl infoEntSz) rfl ⟨A1, c1, A3, c3, ?_, ?_, ?_, HF1.out, HF3.out⟩
  · rfl
  · have hno : ∀ b, (b = w.heap.size ∨ b = w1.heap.size) → ∃ C T fr, w3.heap[b]? = some (.cells C T fr) ∧ noU8 C.toList := fun b hb => by
      rcases hb with rfl | rfl
      · exact ⟨_, _, _, HR.out.1, by simp [noU8, bv]⟩
      · exact ⟨_, _, _, HR.out.2, by simp [noU8, bv]⟩
    exact ⟨hc1, hc12, H3.out.1, H3.out.2.1, HX.out.1.off _ hno (setCell_setRow_off _ _ _ _ _ _), H3.out.2.2.off _ hno (setCell_setRow_off _ _ _ _ _ _), ⟨⟨by show -9223372036854775808 ≤ (l.length : Int); omega, by show (l.length : Int) ≤ 9223372036854775807; omega⟩, hfit.out.1, hfit.out.2⟩⟩
  · exact below_setRow HBS.out (Nat.le_refl _) _
end Go.Proofs.YtbjnpomcgcbflaaDoor

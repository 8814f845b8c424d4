/- Walks: what an entry says in parts, what of it is summed (by the program, and by the document). Written by wip/gen/XB1.py. -/
import Derived.Test.YtbjnpomcgcbflaaDoorP6
import Derived.Test.YtbjnpomcgcbflaaDoorFac
import Derived.Test.YtbjnpomcgcbflaaDoorA5
import Derived.Test.YtbjnpomcgcbflaaDoorA3c
import Derived.Test.YtbjnpomcgcbflaaDoorA6
set_option linter.unusedVariables false
set_option linter.unusedSimpArgs false
namespace Go.Proofs.YtbjnpomcgcbflaaDoor
open Go.RowKit Go.Deep

/-- An entry's cells. -/
def entCells (e : Ent) (A : Option Addr) (c : Nat) (B : Option Addr) (d : Nat) : List Value :=
  [.int .i64 e.no, .int .i64 e.time, .int .i64 e.code, .string e.who, .string e.what, .slice A e.prev.length c, .slice B e.hash.length d]
structure EntIn (w : World) (e : Ent) (A : Option Addr) (c : Nat) (B : Option Addr) (d : Nat) : Prop where
  hc : e.prev.length ≤ c
  hc2 : c ≤ 9223372036854775807
  hd : e.hash.length ≤ d
  hd2 : d ≤ 9223372036854775807
  sp : Seg w A (bvs e.prev)
  sh : Seg w B (bvs e.hash)
  fits : e.Fits
theorem EntIn.below {w w' : World} {e : Ent} {A : Option Addr} {c : Nat} {B : Option Addr} {d : Nat} (h : EntIn w e A c B d) (hb : Below w.heap.size w w') : EntIn w' e A c B d :=
  ⟨h.hc, h.hc2, h.hd, h.hd2, h.sp.below hb, h.sh.below hb, h.fits⟩
def EntE (w : World) (cs : List Value) (e : Ent) : Prop := ∃ A c B d, cs = entCells e A c B d ∧ EntIn w e A c B d
theorem EntE.stays : Stays EntE := fun w w' cs e hb ⟨A, c, B, d, h, hi⟩ => ⟨A, c, B, d, h, hi.below hb⟩
/-- An entry that is short enough. -/
structure EntLe (e : Ent) : Prop where
  who : e.who.size ≤ 1099511627776
  what : e.what.size ≤ 1099511627776
  prev : e.prev.length ≤ 1099511627776
  hash : e.hash.length ≤ 1099511627776

theorem Arr.lit1 {α : Type} {E : World → List Value → α → Prop} (hE : Stays E) {w : World} {T : TypeId} {cs : List Value} {l : List α} (hl : cs.length = l.length) (h : ∀ (i : Nat) (v : Value) (x : α), cs[i]? = some v → l[i]? = some x → E w [v] x) :
    Arr E 1 (w.alloc (.cells cs.toArray T)) (some ⟨w.heap.size, 0, none⟩) l := by
  refine ⟨cs, Seg.of_block (heap_alloc_new _ _) fun j u hu => by simpa using hu, by omega, fun i x hx => hE _ _ _ _ (alloc_ext _ _) ?_⟩
  have hi : i < cs.length := by
    have := (List.getElem?_eq_some_iff.1 hx).1
    omega
  have e : (cs.drop (i * 1)).take 1 = [cs[i]] := by
    rw [Nat.mul_one, List.take_one, List.head?_drop, List.getElem?_eq_getElem hi]
    rfl
  rw [e]
  exact h i _ x (List.getElem?_eq_getElem hi) hx
theorem SlB.bytesE {l : List UInt8} {v : Value} {w : World} (h : SlB l v w) : BytesE w [v] l := by
  obtain ⟨A, c, rfl, h1, _, h3⟩ := h
  exact ⟨A, c, rfl, h1, h3⟩
/-- A slice of slices of bytes that is full. -/
def SlBs (l : List (List UInt8)) (v : Value) (w : World) : Prop := ∃ A, v = .slice A l.length l.length ∧ Arr BytesE 1 w A l
theorem SlBs.below {l : List (List UInt8)} {v : Value} {w w' : World} (h : SlBs l v w) (hb : Below w.heap.size w w') : SlBs l v w' := by
  obtain ⟨A, rfl, h1⟩ := h
  exact ⟨A, rfl, h1.below BytesE.stays hb⟩
theorem saidB_six {w : World} {e : Ent} {T : TypeId} {v1 v2 v3 v4 v5 v6 : Value} (h1 : SlB (wideB e.no) v1 w) (h2 : SlB (wideB e.time) v2 w) (h3 : SlB (wideB e.code) v3 w) (h4 : SlB (baL e.who) v4 w) (h5 : SlB (baL e.what) v5 w) (h6 : SlB e.prev v6 w) :
    SlBs (saidB e) (.slice (some ⟨w.heap.size, 0, none⟩) 6 6) (w.alloc (.cells #[v1, v2, v3, v4, v5, v6] T)) := by
  refine ⟨_, rfl, Arr.lit1 (cs := [v1, v2, v3, v4, v5, v6]) BytesE.stays rfl fun i v x hv hx => ?_⟩
  match i, hv, hx with
  | 0, hv, hx => cases hv; cases hx; exact h1.bytesE
  | 1, hv, hx => cases hv; cases hx; exact h2.bytesE
  | 2, hv, hx => cases hv; cases hx; exact h3.bytesE
  | 3, hv, hx => cases hv; cases hx; exact h4.bytesE
  | 4, hv, hx => cases hv; cases hx; exact h5.bytesE
  | 5, hv, hx => cases hv; cases hx; exact h6.bytesE
  | n + 6, hv, hx => simp at hv
set_option maxRecDepth 100000 in
set_option maxHeartbeats 2000000 in
theorem said_r1 {Q : Exit → Act → World → Prop} {a0 : Act} {w0 : World} (e : Ent) (A : Option Addr) (c : Nat) (B : Option Addr) (d : Nat) (b : Nat) (z1 : a0.tmps.getD 1 undef = .pointer (some ⟨b, 0, none⟩)) (hHC : ∀ j v, (entCells e A c B d)[j]? = some v → w0.cell? ⟨b, j, none⟩ = some v) (hHI : EntIn w0 e A c B d) (hHL : EntLe e) (zsz : a0.tmps.size = 21)
    (hQ : ∀ (v2 v5 v8 v11 v14 v17 v18 : Value) (w1 : World), Below w0.heap.size w0 w1 → SlB (wideB e.no) (v2) w1 → SlB (wideB e.time) (v5) w1 → SlB (wideB e.code) (v8) w1 → SlB (baL e.who) (v11) w1 → SlB (baL e.what) (v14) w1 → SlBs (saidB e) (v17) w1 → SlBs (saidB e) (v18) w1 → Q .normal (((((((((((((((((((a0.put (some 3) (.pointer (some ⟨b, 0, none⟩))).put (some 4) (.int .i64 e.no)).put (some 5) v2).put (some 6) (.pointer (some ⟨b, 1, none⟩))).put (some 7) (.int .i64 e.time)).put (some 8) v5).put (some 9) (.pointer (some ⟨b, 2, none⟩))).put (some 10) (.int .i64 e.code)).put (some 11) v8).put (some 12) (.pointer (some ⟨b, 3, none⟩))).put (some 13) (.string e.who)).put (some 14) v11).put (some 15) (.pointer (some ⟨b, 4, none⟩))).put (some 16) (.string e.what)).put (some 17) v14).put (some 18) (.pointer (some ⟨b, 5, none⟩))).put (some 19) (.slice A e.prev.length c)).put (some 20) v17).put (some 2) v18) w1) :
    (regOf Tryd.f38 1).wp Tryd.prog Q a0 w0 := by
  have Z1 := Lib.hid z1
  clear z1
  have HC := Lib.hid hHC
  clear hHC
  have HI := Lib.hid hHI
  clear hHI
  have HL := Lib.hid hHL
  clear hHL
  have HQ := Lib.hid hQ
  clear hQ
  conv => arg 2; whnf
  refine wp_region_facts true (by kernel_rfl) (by kernel_rfl) 21 (by kernel_rfl) zsz (by kernel_rfl) (Below w0.heap.size w0) (fun w w' => Below w.heap.size w w') (drewIf_ext _ _) (fun _ _ h k => ext_trans h k) (fun i v w => match i with
    | 0 => v = .pointer (some ⟨b, 0, none⟩)
    | 1 => v = .int .i64 e.no
    | 2 => SlB (wideB e.no) (v) w
    | 3 => v = .pointer (some ⟨b, 1, none⟩)
    | 4 => v = .int .i64 e.time
    | 5 => SlB (wideB e.time) (v) w
    | 6 => v = .pointer (some ⟨b, 2, none⟩)
    | 7 => v = .int .i64 e.code
    | 8 => SlB (wideB e.code) (v) w
    | 9 => v = .pointer (some ⟨b, 3, none⟩)
    | 10 => v = .string e.who
    | 11 => SlB (baL e.who) (v) w
    | 12 => v = .pointer (some ⟨b, 4, none⟩)
    | 13 => v = .string e.what
    | 14 => SlB (baL e.what) (v) w
    | 15 => v = .pointer (some ⟨b, 5, none⟩)
    | 16 => v = .slice A e.prev.length c
    | 17 => SlBs (saidB e) (v) w
    | 18 => SlBs (saidB e) (v) w
    | _ => True) ?_ ?_ ?_
  · intro i v w w' h hb
    match i, h with
    | 0, h => exact h
    | 1, h => exact h
    | 2, h => exact SlB.below h hb
    | 3, h => exact h
    | 4, h => exact h
    | 5, h => exact SlB.below h hb
    | 6, h => exact h
    | 7, h => exact h
    | 8, h => exact SlB.below h hb
    | 9, h => exact h
    | 10, h => exact h
    | 11, h => exact SlB.below h hb
    | 12, h => exact h
    | 13, h => exact h
    | 14, h => exact SlB.below h hb
    | 15, h => exact h
    | 16, h => exact h
    | 17, h => exact SlBs.below h hb
    | 18, h => exact SlBs.below h hb
    | _ + 19, _ => trivial
  refine Obs.cons (fun σ a w hB hσ hp K hK => ?_) ?_
  · rw [if_pos (by rfl)]
    have e1 : σ 1 = .pointer (some ⟨b, 0, none⟩) := (hσ 1 (by kernel_rfl)).trans Z1.out
    have HK := Lib.hid hK
    have HB := Lib.hid hB
    clear hK hp hσ hB
    unfold stepS
    go_simp
    exact HK.out _ _ (Below.refl _ _) rfl
  refine Obs.cons (fun σ a w hB hσ hp K hK => ?_) ?_
  · rw [if_pos (by rfl)]
    have e3 : σ 3 = .pointer (some ⟨b, 0, none⟩) := (hp 0 rfl)
    have hc := cell_later hB (HC.out 0 _ rfl)
    have HK := Lib.hid hK
    have HB := Lib.hid hB
    clear hK hp hσ hB
    unfold stepS
    go_simp
    exact HK.out _ _ (Below.refl _ _) rfl
  refine Obs.cons (fun σ a w hB hσ hp K hK => ?_) ?_
  · rw [if_pos (by rfl)]
    have e4 : σ 4 = .int .i64 e.no := (hp 1 rfl)
    refine stepS_call _ Tryd.func52 (by kernel_rfl) (by kernel_rfl) _ _ rfl _ rfl ?_
    simp only [List.map_toArray, List.map_cons, List.map_nil, evalS, e4]
    refine Calls.mono (numWide_any _ _) ?_
    rintro e w1 ⟨A, c, rfl, hc, hc2, hs, hb⟩
    exact ⟨_, rfl, hK _ _ (hb) ⟨A, c, rfl, hc, hc2, hs⟩⟩
  refine Obs.cons (fun σ a w hB hσ hp K hK => ?_) ?_
  · rw [if_pos (by rfl)]
    have e1 : σ 1 = .pointer (some ⟨b, 0, none⟩) := (hσ 1 (by kernel_rfl)).trans Z1.out
    have HK := Lib.hid hK
    have HB := Lib.hid hB
    clear hK hp hσ hB
    unfold stepS
    go_simp
    exact HK.out _ _ (Below.refl _ _) rfl
  refine Obs.cons (fun σ a w hB hσ hp K hK => ?_) ?_
  · rw [if_pos (by rfl)]
    have e6 : σ 6 = .pointer (some ⟨b, 1, none⟩) := (hp 3 rfl)
    have hc := cell_later hB (HC.out 1 _ rfl)
    have HK := Lib.hid hK
    have HB := Lib.hid hB
    clear hK hp hσ hB
    unfold stepS
    go_simp
    exact HK.out _ _ (Below.refl _ _) rfl
  refine Obs.cons (fun σ a w hB hσ hp K hK => ?_) ?_
  · rw [if_pos (by rfl)]
    have e7 : σ 7 = .int .i64 e.time := (hp 4 rfl)
    refine stepS_call _ Tryd.func52 (by kernel_rfl) (by kernel_rfl) _ _ rfl _ rfl ?_
    simp only [List.map_toArray, List.map_cons, List.map_nil, evalS, e7]
    refine Calls.mono (numWide_any _ _) ?_
    rintro e w1 ⟨A, c, rfl, hc, hc2, hs, hb⟩
    exact ⟨_, rfl, hK _ _ (hb) ⟨A, c, rfl, hc, hc2, hs⟩⟩
  refine Obs.cons (fun σ a w hB hσ hp K hK => ?_) ?_
  · rw [if_pos (by rfl)]
    have e1 : σ 1 = .pointer (some ⟨b, 0, none⟩) := (hσ 1 (by kernel_rfl)).trans Z1.out
    have HK := Lib.hid hK
    have HB := Lib.hid hB
    clear hK hp hσ hB
    unfold stepS
    go_simp
    exact HK.out _ _ (Below.refl _ _) rfl
  refine Obs.cons (fun σ a w hB hσ hp K hK => ?_) ?_
  · rw [if_pos (by rfl)]
    have e9 : σ 9 = .pointer (some ⟨b, 2, none⟩) := (hp 6 rfl)
    have hc := cell_later hB (HC.out 2 _ rfl)
    have HK := Lib.hid hK
    have HB := Lib.hid hB
    clear hK hp hσ hB
    unfold stepS
    go_simp
    exact HK.out _ _ (Below.refl _ _) rfl
  refine Obs.cons (fun σ a w hB hσ hp K hK => ?_) ?_
  · rw [if_pos (by rfl)]
    have e10 : σ 10 = .int .i64 e.code := (hp 7 rfl)
    refine stepS_call _ Tryd.func52 (by kernel_rfl) (by kernel_rfl) _ _ rfl _ rfl ?_
    simp only [List.map_toArray, List.map_cons, List.map_nil, evalS, e10]
    refine Calls.mono (numWide_any _ _) ?_
    rintro e w1 ⟨A, c, rfl, hc, hc2, hs, hb⟩
    exact ⟨_, rfl, hK _ _ (hb) ⟨A, c, rfl, hc, hc2, hs⟩⟩
  refine Obs.cons (fun σ a w hB hσ hp K hK => ?_) ?_
  · rw [if_pos (by rfl)]
    have e1 : σ 1 = .pointer (some ⟨b, 0, none⟩) := (hσ 1 (by kernel_rfl)).trans Z1.out
    have HK := Lib.hid hK
    have HB := Lib.hid hB
    clear hK hp hσ hB
    unfold stepS
    go_simp
    exact HK.out _ _ (Below.refl _ _) rfl
  refine Obs.cons (fun σ a w hB hσ hp K hK => ?_) ?_
  · rw [if_pos (by rfl)]
    have e12 : σ 12 = .pointer (some ⟨b, 3, none⟩) := (hp 9 rfl)
    have hc := cell_later hB (HC.out 3 _ rfl)
    have HK := Lib.hid hK
    have HB := Lib.hid hB
    clear hK hp hσ hB
    unfold stepS
    go_simp
    exact HK.out _ _ (Below.refl _ _) rfl
  refine Obs.cons (fun σ a w hB hσ hp K hK => ?_) ?_
  · rw [if_pos (by rfl)]
    have e13 : σ 13 = .string e.who := (hp 10 rfl)
    refine stepS_conv_sb _ _ _ _ rfl Tryd.underlying9 Tryd.underlying28 Tryd.underlying5 _ e13 (by have := HL.out.who; omega) ?_
    exact fun v w1 hb hs => hK _ _ hb hs
  refine Obs.cons (fun σ a w hB hσ hp K hK => ?_) ?_
  · rw [if_pos (by rfl)]
    have e1 : σ 1 = .pointer (some ⟨b, 0, none⟩) := (hσ 1 (by kernel_rfl)).trans Z1.out
    have HK := Lib.hid hK
    have HB := Lib.hid hB
    clear hK hp hσ hB
    unfold stepS
    go_simp
    exact HK.out _ _ (Below.refl _ _) rfl
  refine Obs.cons (fun σ a w hB hσ hp K hK => ?_) ?_
  · rw [if_pos (by rfl)]
    have e15 : σ 15 = .pointer (some ⟨b, 4, none⟩) := (hp 12 rfl)
    have hc := cell_later hB (HC.out 4 _ rfl)
    have HK := Lib.hid hK
    have HB := Lib.hid hB
    clear hK hp hσ hB
    unfold stepS
    go_simp
    exact HK.out _ _ (Below.refl _ _) rfl
  refine Obs.cons (fun σ a w hB hσ hp K hK => ?_) ?_
  · rw [if_pos (by rfl)]
    have e16 : σ 16 = .string e.what := (hp 13 rfl)
    refine stepS_conv_sb _ _ _ _ rfl Tryd.underlying9 Tryd.underlying28 Tryd.underlying5 _ e16 (by have := HL.out.what; omega) ?_
    exact fun v w1 hb hs => hK _ _ hb hs
  refine Obs.cons (fun σ a w hB hσ hp K hK => ?_) ?_
  · rw [if_pos (by rfl)]
    have e1 : σ 1 = .pointer (some ⟨b, 0, none⟩) := (hσ 1 (by kernel_rfl)).trans Z1.out
    have HK := Lib.hid hK
    have HB := Lib.hid hB
    clear hK hp hσ hB
    unfold stepS
    go_simp
    exact HK.out _ _ (Below.refl _ _) rfl
  refine Obs.cons (fun σ a w hB hσ hp K hK => ?_) ?_
  · rw [if_pos (by rfl)]
    have e18 : σ 18 = .pointer (some ⟨b, 5, none⟩) := (hp 15 rfl)
    have hc := cell_later hB (HC.out 5 _ rfl)
    have HK := Lib.hid hK
    have HB := Lib.hid hB
    clear hK hp hσ hB
    unfold stepS
    go_simp
    exact HK.out _ _ (Below.refl _ _) rfl
  refine Obs.cons (fun σ a w hB hσ hp K hK => ?_) ?_
  · rw [if_pos (by rfl)]
    have e5 : SlB (wideB e.no) (σ 5) w := (hp 2 rfl)
    have e8 : SlB (wideB e.time) (σ 8) w := (hp 5 rfl)
    have e11 : SlB (wideB e.code) (σ 11) w := (hp 8 rfl)
    have e14 : SlB (baL e.who) (σ 14) w := (hp 11 rfl)
    have e17 : SlB (baL e.what) (σ 17) w := (hp 14 rfl)
    have e19 : σ 19 = .slice A e.prev.length c := (hp 16 rfl)
    have h6 := saidB_six (T := 28) (e := e) e5 e8 e11 e14 e17 (show SlB e.prev (σ 19) w from ⟨A, c, e19, HI.out.hc, HI.out.hc2, HI.out.sp.below hB⟩)
    obtain ⟨A5, c5, q5, -⟩ := e5
    obtain ⟨A8, c8, q8, -⟩ := e8
    obtain ⟨A11, c11, q11, -⟩ := e11
    obtain ⟨A14, c14, q14, -⟩ := e14
    obtain ⟨A17, c17, q17, -⟩ := e17
    rw [q5, q8, q11, q14, q17, e19] at h6
    have HK := Lib.hid hK
    have H6 := Lib.hid h6
    clear hK hp hσ hB h6
    unfold stepS
    go_simp
    exact HK.out _ _ (alloc_ext _ _) H6.out
  refine Obs.cons (fun σ a w hB hσ hp K hK => ?_) ?_
  · rw [if_pos (by rfl)]
    have e20 : SlBs (saidB e) (σ 20) w := (hp 17 rfl)
    refine stepS_assign _ rfl _ rfl ?_
    exact hK _ _ (Below.refl _ _) e20
  · exact Obs.nil _
  · intro σ w hB hf
    have f0 : σ 3 = .pointer (some ⟨b, 0, none⟩) := hf 0 (by decide)
    have f1 : σ 4 = .int .i64 e.no := hf 1 (by decide)
    have f2 : SlB (wideB e.no) (σ 5) w := hf 2 (by decide)
    have f3 : σ 6 = .pointer (some ⟨b, 1, none⟩) := hf 3 (by decide)
    have f4 : σ 7 = .int .i64 e.time := hf 4 (by decide)
    have f5 : SlB (wideB e.time) (σ 8) w := hf 5 (by decide)
    have f6 : σ 9 = .pointer (some ⟨b, 2, none⟩) := hf 6 (by decide)
    have f7 : σ 10 = .int .i64 e.code := hf 7 (by decide)
    have f8 : SlB (wideB e.code) (σ 11) w := hf 8 (by decide)
    have f9 : σ 12 = .pointer (some ⟨b, 3, none⟩) := hf 9 (by decide)
    have f10 : σ 13 = .string e.who := hf 10 (by decide)
    have f11 : SlB (baL e.who) (σ 14) w := hf 11 (by decide)
    have f12 : σ 15 = .pointer (some ⟨b, 4, none⟩) := hf 12 (by decide)
    have f13 : σ 16 = .string e.what := hf 13 (by decide)
    have f14 : SlB (baL e.what) (σ 17) w := hf 14 (by decide)
    have f15 : σ 18 = .pointer (some ⟨b, 5, none⟩) := hf 15 (by decide)
    have f16 : σ 19 = .slice A e.prev.length c := hf 16 (by decide)
    have f17 : SlBs (saidB e) (σ 20) w := hf 17 (by decide)
    have f18 : SlBs (saidB e) (σ 2) w := hf 18 (by decide)
    have hq := HQ.out (σ 5) (σ 8) (σ 11) (σ 14) (σ 17) (σ 20) (σ 2) w hB f2 f5 f8 f11 f14 f17 f18
    simp only [dstsL, List.filterMap_cons, List.filterMap_nil, setAll]
    rw [f0, f1, f3, f4, f6, f7, f9, f10, f12, f13, f15, f16]
    simp only [Act.put] at hq
    exact hq
set_option maxRecDepth 100000 in
set_option maxHeartbeats 2000000 in
theorem parts_r1 {Q : Exit → Act → World → Prop} {a0 : Act} {w0 : World} (e : Ent) (A : Option Addr) (c : Nat) (B : Option Addr) (d : Nat) (b : Nat) (z1 : a0.tmps.getD 1 undef = .pointer (some ⟨b, 0, none⟩)) (hHC : ∀ j v, (entCells e A c B d)[j]? = some v → w0.cell? ⟨b, j, none⟩ = some v) (hHI : EntIn w0 e A c B d) (hHL : EntLe e) (zsz : a0.tmps.size = 21)
    (hQ : ∀ (v2 v5 v8 v11 v14 v17 v18 : Value) (w1 : World), Below w0.heap.size w0 w1 → SlB (wideB e.no) (v2) w1 → SlB (wideB e.time) (v5) w1 → SlB (wideB e.code) (v8) w1 → SlB (baL e.who) (v11) w1 → SlB (baL e.what) (v14) w1 → SlBs (saidB e) (v17) w1 → SlBs (saidB e) (v18) w1 → Q .normal (((((((((((((((((((a0.put (some 3) (.pointer (some ⟨b, 0, none⟩))).put (some 4) (.int .i64 e.no)).put (some 5) v2).put (some 6) (.pointer (some ⟨b, 1, none⟩))).put (some 7) (.int .i64 e.time)).put (some 8) v5).put (some 9) (.pointer (some ⟨b, 2, none⟩))).put (some 10) (.int .i64 e.code)).put (some 11) v8).put (some 12) (.pointer (some ⟨b, 3, none⟩))).put (some 13) (.string e.who)).put (some 14) v11).put (some 15) (.pointer (some ⟨b, 4, none⟩))).put (some 16) (.string e.what)).put (some 17) v14).put (some 18) (.pointer (some ⟨b, 5, none⟩))).put (some 19) (.slice A e.prev.length c)).put (some 20) v17).put (some 2) v18) w1) :
    (regOf Tryd.f44 1).wp Tryd.prog Q a0 w0 := by
  have Z1 := Lib.hid z1
  clear z1
  have HC := Lib.hid hHC
  clear hHC
  have HI := Lib.hid hHI
  clear hHI
  have HL := Lib.hid hHL
  clear hHL
  have HQ := Lib.hid hQ
  clear hQ
  conv => arg 2; whnf
  refine wp_region_facts true (by kernel_rfl) (by kernel_rfl) 21 (by kernel_rfl) zsz (by kernel_rfl) (Below w0.heap.size w0) (fun w w' => Below w.heap.size w w') (drewIf_ext _ _) (fun _ _ h k => ext_trans h k) (fun i v w => match i with
    | 0 => v = .pointer (some ⟨b, 0, none⟩)
    | 1 => v = .int .i64 e.no
    | 2 => SlB (wideB e.no) (v) w
    | 3 => v = .pointer (some ⟨b, 1, none⟩)
    | 4 => v = .int .i64 e.time
    | 5 => SlB (wideB e.time) (v) w
    | 6 => v = .pointer (some ⟨b, 2, none⟩)
    | 7 => v = .int .i64 e.code
    | 8 => SlB (wideB e.code) (v) w
    | 9 => v = .pointer (some ⟨b, 3, none⟩)
    | 10 => v = .string e.who
    | 11 => SlB (baL e.who) (v) w
    | 12 => v = .pointer (some ⟨b, 4, none⟩)
    | 13 => v = .string e.what
    | 14 => SlB (baL e.what) (v) w
    | 15 => v = .pointer (some ⟨b, 5, none⟩)
    | 16 => v = .slice A e.prev.length c
    | 17 => SlBs (saidB e) (v) w
    | 18 => SlBs (saidB e) (v) w
    | _ => True) ?_ ?_ ?_
  · intro i v w w' h hb
    match i, h with
    | 0, h => exact h
    | 1, h => exact h
    | 2, h => exact SlB.below h hb
    | 3, h => exact h
    | 4, h => exact h
    | 5, h => exact SlB.below h hb
    | 6, h => exact h
    | 7, h => exact h
    | 8, h => exact SlB.below h hb
    | 9, h => exact h
    | 10, h => exact h
    | 11, h => exact SlB.below h hb
    | 12, h => exact h
    | 13, h => exact h
    | 14, h => exact SlB.below h hb
    | 15, h => exact h
    | 16, h => exact h
    | 17, h => exact SlBs.below h hb
    | 18, h => exact SlBs.below h hb
    | _ + 19, _ => trivial
  refine Obs.cons (fun σ a w hB hσ hp K hK => ?_) ?_
  · rw [if_pos (by rfl)]
    have e1 : σ 1 = .pointer (some ⟨b, 0, none⟩) := (hσ 1 (by kernel_rfl)).trans Z1.out
    have HK := Lib.hid hK
    have HB := Lib.hid hB
    clear hK hp hσ hB
    unfold stepS
    go_simp
    exact HK.out _ _ (Below.refl _ _) rfl
  refine Obs.cons (fun σ a w hB hσ hp K hK => ?_) ?_
  · rw [if_pos (by rfl)]
    have e3 : σ 3 = .pointer (some ⟨b, 0, none⟩) := (hp 0 rfl)
    have hc := cell_later hB (HC.out 0 _ rfl)
    have HK := Lib.hid hK
    have HB := Lib.hid hB
    clear hK hp hσ hB
    unfold stepS
    go_simp
    exact HK.out _ _ (Below.refl _ _) rfl
  refine Obs.cons (fun σ a w hB hσ hp K hK => ?_) ?_
  · rw [if_pos (by rfl)]
    have e4 : σ 4 = .int .i64 e.no := (hp 1 rfl)
    refine stepS_call _ Tryd.func54 (by kernel_rfl) (by kernel_rfl) _ _ rfl _ rfl ?_
    simp only [List.map_toArray, List.map_cons, List.map_nil, evalS, e4]
    refine Calls.mono (refWide_any _ _) ?_
    rintro e w1 ⟨A, c, rfl, hc, hc2, hs, hb⟩
    exact ⟨_, rfl, hK _ _ (hb) ⟨A, c, rfl, hc, hc2, hs⟩⟩
  refine Obs.cons (fun σ a w hB hσ hp K hK => ?_) ?_
  · rw [if_pos (by rfl)]
    have e1 : σ 1 = .pointer (some ⟨b, 0, none⟩) := (hσ 1 (by kernel_rfl)).trans Z1.out
    have HK := Lib.hid hK
    have HB := Lib.hid hB
    clear hK hp hσ hB
    unfold stepS
    go_simp
    exact HK.out _ _ (Below.refl _ _) rfl
  refine Obs.cons (fun σ a w hB hσ hp K hK => ?_) ?_
  · rw [if_pos (by rfl)]
    have e6 : σ 6 = .pointer (some ⟨b, 1, none⟩) := (hp 3 rfl)
    have hc := cell_later hB (HC.out 1 _ rfl)
    have HK := Lib.hid hK
    have HB := Lib.hid hB
    clear hK hp hσ hB
    unfold stepS
    go_simp
    exact HK.out _ _ (Below.refl _ _) rfl
  refine Obs.cons (fun σ a w hB hσ hp K hK => ?_) ?_
  · rw [if_pos (by rfl)]
    have e7 : σ 7 = .int .i64 e.time := (hp 4 rfl)
    refine stepS_call _ Tryd.func54 (by kernel_rfl) (by kernel_rfl) _ _ rfl _ rfl ?_
    simp only [List.map_toArray, List.map_cons, List.map_nil, evalS, e7]
    refine Calls.mono (refWide_any _ _) ?_
    rintro e w1 ⟨A, c, rfl, hc, hc2, hs, hb⟩
    exact ⟨_, rfl, hK _ _ (hb) ⟨A, c, rfl, hc, hc2, hs⟩⟩
  refine Obs.cons (fun σ a w hB hσ hp K hK => ?_) ?_
  · rw [if_pos (by rfl)]
    have e1 : σ 1 = .pointer (some ⟨b, 0, none⟩) := (hσ 1 (by kernel_rfl)).trans Z1.out
    have HK := Lib.hid hK
    have HB := Lib.hid hB
    clear hK hp hσ hB
    unfold stepS
    go_simp
    exact HK.out _ _ (Below.refl _ _) rfl
  refine Obs.cons (fun σ a w hB hσ hp K hK => ?_) ?_
  · rw [if_pos (by rfl)]
    have e9 : σ 9 = .pointer (some ⟨b, 2, none⟩) := (hp 6 rfl)
    have hc := cell_later hB (HC.out 2 _ rfl)
    have HK := Lib.hid hK
    have HB := Lib.hid hB
    clear hK hp hσ hB
    unfold stepS
    go_simp
    exact HK.out _ _ (Below.refl _ _) rfl
  refine Obs.cons (fun σ a w hB hσ hp K hK => ?_) ?_
  · rw [if_pos (by rfl)]
    have e10 : σ 10 = .int .i64 e.code := (hp 7 rfl)
    refine stepS_call _ Tryd.func54 (by kernel_rfl) (by kernel_rfl) _ _ rfl _ rfl ?_
    simp only [List.map_toArray, List.map_cons, List.map_nil, evalS, e10]
    refine Calls.mono (refWide_any _ _) ?_
    rintro e w1 ⟨A, c, rfl, hc, hc2, hs, hb⟩
    exact ⟨_, rfl, hK _ _ (hb) ⟨A, c, rfl, hc, hc2, hs⟩⟩
  refine Obs.cons (fun σ a w hB hσ hp K hK => ?_) ?_
  · rw [if_pos (by rfl)]
    have e1 : σ 1 = .pointer (some ⟨b, 0, none⟩) := (hσ 1 (by kernel_rfl)).trans Z1.out
    have HK := Lib.hid hK
    have HB := Lib.hid hB
    clear hK hp hσ hB
    unfold stepS
    go_simp
    exact HK.out _ _ (Below.refl _ _) rfl
  refine Obs.cons (fun σ a w hB hσ hp K hK => ?_) ?_
  · rw [if_pos (by rfl)]
    have e12 : σ 12 = .pointer (some ⟨b, 3, none⟩) := (hp 9 rfl)
    have hc := cell_later hB (HC.out 3 _ rfl)
    have HK := Lib.hid hK
    have HB := Lib.hid hB
    clear hK hp hσ hB
    unfold stepS
    go_simp
    exact HK.out _ _ (Below.refl _ _) rfl
  refine Obs.cons (fun σ a w hB hσ hp K hK => ?_) ?_
  · rw [if_pos (by rfl)]
    have e13 : σ 13 = .string e.who := (hp 10 rfl)
    refine stepS_conv_sb _ _ _ _ rfl Tryd.underlying9 Tryd.underlying28 Tryd.underlying5 _ e13 (by have := HL.out.who; omega) ?_
    exact fun v w1 hb hs => hK _ _ hb hs
  refine Obs.cons (fun σ a w hB hσ hp K hK => ?_) ?_
  · rw [if_pos (by rfl)]
    have e1 : σ 1 = .pointer (some ⟨b, 0, none⟩) := (hσ 1 (by kernel_rfl)).trans Z1.out
    have HK := Lib.hid hK
    have HB := Lib.hid hB
    clear hK hp hσ hB
    unfold stepS
    go_simp
    exact HK.out _ _ (Below.refl _ _) rfl
  refine Obs.cons (fun σ a w hB hσ hp K hK => ?_) ?_
  · rw [if_pos (by rfl)]
    have e15 : σ 15 = .pointer (some ⟨b, 4, none⟩) := (hp 12 rfl)
    have hc := cell_later hB (HC.out 4 _ rfl)
    have HK := Lib.hid hK
    have HB := Lib.hid hB
    clear hK hp hσ hB
    unfold stepS
    go_simp
    exact HK.out _ _ (Below.refl _ _) rfl
  refine Obs.cons (fun σ a w hB hσ hp K hK => ?_) ?_
  · rw [if_pos (by rfl)]
    have e16 : σ 16 = .string e.what := (hp 13 rfl)
    refine stepS_conv_sb _ _ _ _ rfl Tryd.underlying9 Tryd.underlying28 Tryd.underlying5 _ e16 (by have := HL.out.what; omega) ?_
    exact fun v w1 hb hs => hK _ _ hb hs
  refine Obs.cons (fun σ a w hB hσ hp K hK => ?_) ?_
  · rw [if_pos (by rfl)]
    have e1 : σ 1 = .pointer (some ⟨b, 0, none⟩) := (hσ 1 (by kernel_rfl)).trans Z1.out
    have HK := Lib.hid hK
    have HB := Lib.hid hB
    clear hK hp hσ hB
    unfold stepS
    go_simp
    exact HK.out _ _ (Below.refl _ _) rfl
  refine Obs.cons (fun σ a w hB hσ hp K hK => ?_) ?_
  · rw [if_pos (by rfl)]
    have e18 : σ 18 = .pointer (some ⟨b, 5, none⟩) := (hp 15 rfl)
    have hc := cell_later hB (HC.out 5 _ rfl)
    have HK := Lib.hid hK
    have HB := Lib.hid hB
    clear hK hp hσ hB
    unfold stepS
    go_simp
    exact HK.out _ _ (Below.refl _ _) rfl
  refine Obs.cons (fun σ a w hB hσ hp K hK => ?_) ?_
  · rw [if_pos (by rfl)]
    have e5 : SlB (wideB e.no) (σ 5) w := (hp 2 rfl)
    have e8 : SlB (wideB e.time) (σ 8) w := (hp 5 rfl)
    have e11 : SlB (wideB e.code) (σ 11) w := (hp 8 rfl)
    have e14 : SlB (baL e.who) (σ 14) w := (hp 11 rfl)
    have e17 : SlB (baL e.what) (σ 17) w := (hp 14 rfl)
    have e19 : σ 19 = .slice A e.prev.length c := (hp 16 rfl)
    have h6 := saidB_six (T := 28) (e := e) e5 e8 e11 e14 e17 (show SlB e.prev (σ 19) w from ⟨A, c, e19, HI.out.hc, HI.out.hc2, HI.out.sp.below hB⟩)
    obtain ⟨A5, c5, q5, -⟩ := e5
    obtain ⟨A8, c8, q8, -⟩ := e8
    obtain ⟨A11, c11, q11, -⟩ := e11
    obtain ⟨A14, c14, q14, -⟩ := e14
    obtain ⟨A17, c17, q17, -⟩ := e17
    rw [q5, q8, q11, q14, q17, e19] at h6
    have HK := Lib.hid hK
    have H6 := Lib.hid h6
    clear hK hp hσ hB h6
    unfold stepS
    go_simp
    exact HK.out _ _ (alloc_ext _ _) H6.out
  refine Obs.cons (fun σ a w hB hσ hp K hK => ?_) ?_
  · rw [if_pos (by rfl)]
    have e20 : SlBs (saidB e) (σ 20) w := (hp 17 rfl)
    refine stepS_assign _ rfl _ rfl ?_
    exact hK _ _ (Below.refl _ _) e20
  · exact Obs.nil _
  · intro σ w hB hf
    have f0 : σ 3 = .pointer (some ⟨b, 0, none⟩) := hf 0 (by decide)
    have f1 : σ 4 = .int .i64 e.no := hf 1 (by decide)
    have f2 : SlB (wideB e.no) (σ 5) w := hf 2 (by decide)
    have f3 : σ 6 = .pointer (some ⟨b, 1, none⟩) := hf 3 (by decide)
    have f4 : σ 7 = .int .i64 e.time := hf 4 (by decide)
    have f5 : SlB (wideB e.time) (σ 8) w := hf 5 (by decide)
    have f6 : σ 9 = .pointer (some ⟨b, 2, none⟩) := hf 6 (by decide)
    have f7 : σ 10 = .int .i64 e.code := hf 7 (by decide)
    have f8 : SlB (wideB e.code) (σ 11) w := hf 8 (by decide)
    have f9 : σ 12 = .pointer (some ⟨b, 3, none⟩) := hf 9 (by decide)
    have f10 : σ 13 = .string e.who := hf 10 (by decide)
    have f11 : SlB (baL e.who) (σ 14) w := hf 11 (by decide)
    have f12 : σ 15 = .pointer (some ⟨b, 4, none⟩) := hf 12 (by decide)
    have f13 : σ 16 = .string e.what := hf 13 (by decide)
    have f14 : SlB (baL e.what) (σ 17) w := hf 14 (by decide)
    have f15 : σ 18 = .pointer (some ⟨b, 5, none⟩) := hf 15 (by decide)
    have f16 : σ 19 = .slice A e.prev.length c := hf 16 (by decide)
    have f17 : SlBs (saidB e) (σ 20) w := hf 17 (by decide)
    have f18 : SlBs (saidB e) (σ 2) w := hf 18 (by decide)
    have hq := HQ.out (σ 5) (σ 8) (σ 11) (σ 14) (σ 17) (σ 20) (σ 2) w hB f2 f5 f8 f11 f14 f17 f18
    simp only [dstsL, List.filterMap_cons, List.filterMap_nil, setAll]
    rw [f0, f1, f3, f4, f6, f7, f9, f10, f12, f13, f15, f16]
    simp only [Act.put] at hq
    exact hq
end Go.Proofs.YtbjnpomcgcbflaaDoor

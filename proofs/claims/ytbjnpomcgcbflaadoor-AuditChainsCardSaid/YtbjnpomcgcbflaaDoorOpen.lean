/- What the arguments read as: slices of entries, of what calls say, of bytes. -/
import Derived.Test.YtbjnpomcgcbflaaDoorB12
import Derived.Deep.Slices
import Derived.Deep.Fields
import Derived.ChangeSame
import Derived.Carry
import Derived.ProofKit
import Derived.OpenShut
import Derived.ShutString
import Derived.ChangeOld
import Derived.DataShut
set_option linter.unusedVariables false
set_option linter.unusedSimpArgs false
namespace Go.Proofs.YtbjnpomcgcbflaaDoor
open Go.RowKit Go.Deep Go.ChangeShapes Go.WideShapes

section
variable {H : Type} {enc : TypeId × Value → H} {P : Program} {w : World} {base : Nat} {spare : Nat → Bool} {held : Bool}
theorem open_slice_fields {t e : TypeId} {fs : Array Field} {fuel : Nat} {cs : List Value} {x : DataW H × List MemPlace} (ht : P.underlying t = some (.slice e)) (he : P.underlying e = some (.struct fs))
    (hone : oneCellFields P fs = true) (hC : P.cellsOf e = fs.size) (h : DataW.trod enc P w base spare held fuel t cs = some x) :
    (cs = [.slice none 0 0] ∧ x = (.nil, [])) ∨
    ∃ (a : Addr) (len cap m : Nat) (D : Nat → DataW H) (Pl : Nat → List MemPlace), cs = [.slice (some a) len cap] ∧ base ≤ a.block ∧ len ≤ cap ∧ cap ≤ maxLen ∧ m = (if spare a.block then cap else len) ∧
      x = (.slice ((List.range len).map D) ((List.range (m - len)).map fun j => D (len + j)), MemPlace.row a (m * fs.size) ++ (List.range m).flatMap Pl) ∧
      ∀ i, i < m → ∃ (ys : List (DataW H × List MemPlace)) (n : Nat), D i = .agg (ys.map (·.1)) ∧ Pl i = ys.flatMap (·.2) ∧ ys.length = fs.size ∧
        ∀ (j : Nat) (f : Field), fs[j]? = some f → ∃ (v : Value) (y : DataW H × List MemPlace), w.cell? (a.add (i * fs.size + j)) = some v ∧ ys[j]? = some y ∧ DataW.trod enc P w base spare held n f.type [v] = some y := by
  rcases open_slice ht h with h0 | ⟨a, len, cap, m, n, D, Pl, hcs, hb, hl, hm, hmm, hx, hi⟩
  · exact .inl h0
  · refine .inr ⟨a, len, cap, m, D, Pl, hcs, hb, hl, hm, hmm, by rw [hC] at hx; exact hx, fun i him => ?_⟩
    obtain ⟨cs', hc, ht'⟩ := hi i him
    rw [hC] at hc
    obtain ⟨ys, n', hn', hy, hlen, hyl, hf⟩ := DataW.trod_struct he ht'
    obtain ⟨_, hcl, hat⟩ := World.cells?_some hc
    simp only [Prod.mk.injEq] at hy
    refine ⟨ys, n', hy.1, hy.2, hyl, fun j f hj => ?_⟩
    obtain ⟨ho, hk⟩ := hone_of hone j f hj
    have hjl : j < fs.size := (Array.getElem?_eq_some_iff.1 hj).1
    have hcell := hat j hjl
    have hv : cs'[j]? = some (cs'[j]'(by omega)) := List.getElem?_eq_getElem (by omega)
    have h1 := hf j f hj
    rw [ho, hk] at h1
    have hone' : (cs'.drop j).take 1 = [cs'[j]'(by omega)] := by
      rw [List.drop_eq_getElem_cons (by omega)]
      rfl
    rw [hone'] at h1
    have hys : ys[j]? = some (ys[j]'(by omega)) := List.getElem?_eq_getElem (by omega)
    refine ⟨_, _, ?_, hys, h1.trans hys⟩
    rw [← Go.Deep.add_add, hcell, hv]

theorem seg_of_cells {w : World} {x : Addr} {cs : List Value} (h : ∀ j u, cs[j]? = some u → w.cell? (x.add j) = some u) : Seg w (some x) cs := by
  refine ⟨fun hne => ?_⟩
  obtain ⟨u, cs', rfl⟩ := List.exists_cons_of_ne_nil hne
  have h0 := h 0 u rfl
  obtain ⟨b, o, sp⟩ := x
  cases sp with
  | some s =>
    simp [World.cell?, Addr.add] at h0
    split at h0 <;> simp_all
  | none =>
    rw [add_flat] at h0
    unfold World.cell? at h0
    simp only at h0
    split at h0
    · rename_i c T fr hh
      refine ⟨b, o, rfl, c, T, fr, hh, fun j v hv => ?_⟩
      have hj := h j v hv
      rw [add_flat] at hj
      unfold World.cell? at hj
      simpa [hh] using hj
    · cases h0
theorem wf_u8 {n : Int} (h : (Lit.int .u8 n).wf = true) : 0 ≤ n ∧ n < 256 := by
  have h := (Lit.wf_int_iff .u8 n).1 h
  have e1 : IntKind.u8.min = 0 := by decide
  have e2 : IntKind.u8.max = 255 := by decide
  omega
theorem wf_i64 {n : Int} (h : (Lit.int .i64 n).wf = true) : -9223372036854775808 ≤ n ∧ n ≤ 9223372036854775807 := by
  have h := (Lit.wf_int_iff .i64 n).1 h
  have e1 : IntKind.i64.min = -9223372036854775808 := by decide
  have e2 : IntKind.i64.max = 9223372036854775807 := by decide
  omega
/-- A slice of bytes that came in. -/
theorem open_bytes {t e : TypeId} {fuel : Nat} {v : Value} {x : DataW H × List MemPlace} (ht : P.underlying t = some (.slice e)) (he : P.underlying e = some (.int .u8)) (hc : P.cellsOf e = 1) (h : DataW.trod enc P w base spare held fuel t [v] = some x) :
    ∃ A l c, v = .slice A (l : List UInt8).length c ∧ l.length ≤ c ∧ c ≤ 9223372036854775807 ∧ Seg w A (bvs l) := by
  rcases open_ints ht he hc h with ⟨hcs, _⟩ | ⟨a, len, cap, zs, hcs, _, hl, hm, hz, _, hcell, hwf⟩
  · injection hcs with hcs
    exact ⟨none, [], 0, hcs, Nat.le_refl _, by decide, Seg.nil _ _⟩
  · injection hcs with hcs
    have hlz : len ≤ zs.length := by
      rw [hz]
      split <;> omega
    have hln : ((zs.take len).map fun z => UInt8.ofNat z.toNat).length = len := by simp; omega
    refine ⟨some a, (zs.take len).map fun z => UInt8.ofNat z.toNat, cap, by rw [hln]; exact hcs, by rw [hln]; exact hl, hm, seg_of_cells fun j u hu => ?_⟩
    have hj : j < len := by
      have := (List.getElem?_eq_some_iff.1 hu).1
      rw [bvs_length, hln] at this
      exact this
    have hjz : j < zs.length := by omega
    rw [hcell j hjz]
    have hz := wf_u8 (hwf _ (List.getElem_mem hjz))
    rw [← hu]
    simp [bvs, bv, hj, hjz, List.getD_eq_getElem?_getD]
    omega
end

theorem arr_of_cells {α : Type} {E : World → List Value → α → Prop} {sz : Nat} {w : World} {x : Addr} {l : List α} (f : Nat → Nat → Value) (hc : ∀ i j, i < l.length → j < sz → w.cell? (x.add (i * sz + j)) = some (f i j)) (hE : ∀ i y, l[i]? = some y → E w ((List.range sz).map (f i)) y) : Arr E sz w (some x) l := by
  rcases Nat.eq_zero_or_pos sz with h0 | h0
  · subst h0
    exact ⟨[], Seg.nil _ _, by simp, fun i y hy => by simpa using hE i y hy⟩
  · refine ⟨(List.range (l.length * sz)).map fun k => f (k / sz) (k % sz), seg_of_cells fun j u hu => ?_, by simp, fun i y hy => ?_⟩
    · have hj : j < l.length * sz := by
        have := (List.getElem?_eq_some_iff.1 hu).1
        simpa using this
      have hi : j / sz < l.length := by rw [Nat.div_lt_iff_lt_mul h0]; exact hj
      have e : j / sz * sz + j % sz = j := by rw [Nat.mul_comm]; exact Nat.div_add_mod j sz
      have := hc (j / sz) (j % sz) hi (Nat.mod_lt _ h0)
      rw [e] at this
      rw [this, ← hu]
      simp [hj]
    · have hi : i < l.length := (List.getElem?_eq_some_iff.1 hy).1
      have hle : i * sz + sz ≤ l.length * sz := by
        rw [← Nat.succ_mul]
        exact Nat.mul_le_mul_right _ hi
      have e : (((List.range (l.length * sz)).map fun k => f (k / sz) (k % sz)).drop (i * sz)).take sz = (List.range sz).map (f i) := by
        apply List.ext_getElem?
        intro j
        rw [List.getElem?_take, List.getElem?_drop]
        by_cases hj : j < sz
        · rw [if_pos hj]
          have h1 : i * sz + j < l.length * sz := by omega
          have h2 : (i * sz + j) / sz = i := by rw [Nat.mul_comm, Nat.mul_add_div h0, Nat.div_eq_of_lt hj, Nat.add_zero]
          have h3 : (i * sz + j) % sz = j := by rw [Nat.mul_comm, Nat.mul_add_mod, Nat.mod_eq_of_lt hj]
          simp [h1, h2, h3, hj]
        · rw [if_neg hj]
          simp [hj]
      rw [e]
      exact hE i y hy

section
variable {H : Type} {enc : TypeId × Value → H} {w : World} {base : Nat} {spare : Nat → Bool} {held : Bool}
/-- A field's reading. -/
theorem field_int {n : Nat} {v : Value} {y : DataW H × List MemPlace} (h : DataW.trod enc Tryd.prog w base spare held n 3 [v] = some y) : ∃ z, v = .int .i64 z ∧ I64 z := by
  obtain ⟨z, h1, _, h2⟩ := DataW.trod_int Tryd.underlying3 h
  injection h1 with h1
  exact ⟨z, h1, wf_i64 h2⟩
theorem field_string {n : Nat} {v : Value} {y : DataW H × List MemPlace} (h : DataW.trod enc Tryd.prog w base spare held n 9 [v] = some y) : ∃ s, v = .string s := by
  obtain ⟨s, h1, _⟩ := DataW.trod_string Tryd.underlying9 h
  injection h1 with h1
  exact ⟨s, h1⟩
theorem field_bytes {n : Nat} {v : Value} {y : DataW H × List MemPlace} (h : DataW.trod enc Tryd.prog w base spare held n 28 [v] = some y) : ∃ A l c, v = .slice A (l : List UInt8).length c ∧ l.length ≤ c ∧ c ≤ 9223372036854775807 ∧ Seg w A (bvs l) :=
  open_bytes Tryd.underlying28 Tryd.underlying5 (by kernel_rfl) h
/-- Entries that came in. -/
theorem open_ents {n : Nat} {v : Value} {y : DataW H × List MemPlace} (h : DataW.trod enc Tryd.prog w base spare held n 22 [v] = some y) :
    ∃ A l c, v = .slice A (l : List Ent).length c ∧ l.length ≤ c ∧ c ≤ 9223372036854775807 ∧ Arr EntE 7 w A l := by
  rcases open_slice_fields Tryd.underlying22 Tryd.underlying30 (by kernel_rfl) (by kernel_rfl) h with ⟨hcs, _⟩ | ⟨a, len, cap, m, D, Pl, hcs, _, hl, hm, hmm, _, hi⟩
  · injection hcs with hcs
    exact ⟨none, [], 0, hcs, Nat.le_refl _, by decide, Arr.nil _ _ _ _⟩
  · injection hcs with hcs
    have hlm : len ≤ m := by
      rw [hmm]
      split <;> omega
    have key : ∀ i, ∃ (f : Nat → Value) (e : Ent), i < len → (∀ j, j < 7 → w.cell? (a.add (i * 7 + j)) = some (f j)) ∧ EntE w ((List.range 7).map f) e := by
      intro i
      by_cases hil : i < len
      · obtain ⟨ys, n, _, _, hys, hf⟩ := hi i (by omega)
        obtain ⟨v0, y0, c0, _, t0⟩ := hf 0 _ rfl
        obtain ⟨v1, y1, c1, _, t1⟩ := hf 1 _ rfl
        obtain ⟨v2, y2, c2, _, t2⟩ := hf 2 _ rfl
        obtain ⟨v3, y3, c3, _, t3⟩ := hf 3 _ rfl
        obtain ⟨v4, y4, c4, _, t4⟩ := hf 4 _ rfl
        obtain ⟨v5, y5, c5, _, t5⟩ := hf 5 _ rfl
        obtain ⟨v6, y6, c6, _, t6⟩ := hf 6 _ rfl
        obtain ⟨z0, rfl, w0⟩ := field_int t0
        obtain ⟨z1, rfl, w1⟩ := field_int t1
        obtain ⟨z2, rfl, w2⟩ := field_int t2
        obtain ⟨s3, rfl⟩ := field_string t3
        obtain ⟨s4, rfl⟩ := field_string t4
        obtain ⟨A5, l5, k5, rfl, a5, b5, g5⟩ := field_bytes t5
        obtain ⟨A6, l6, k6, rfl, a6, b6, g6⟩ := field_bytes t6
        refine ⟨fun j => match j with
          | 0 => .int .i64 z0
          | 1 => .int .i64 z1
          | 2 => .int .i64 z2
          | 3 => .string s3
          | 4 => .string s4
          | 5 => .slice A5 l5.length k5
          | _ => .slice A6 l6.length k6, ⟨z0, z1, z2, s3, s4, l5, l6⟩, fun _ => ⟨fun j hj => ?_, A5, k5, A6, k6, rfl, ⟨a5, b5, a6, b6, g5, g6, ⟨w0, w1, w2⟩⟩⟩⟩
        match j, hj with
        | 0, _ => exact c0
        | 1, _ => exact c1
        | 2, _ => exact c2
        | 3, _ => exact c3
        | 4, _ => exact c4
        | 5, _ => exact c5
        | 6, _ => exact c6
        | j + 7, hj => omega
      · exact ⟨fun _ => undef, ⟨0, 0, 0, ⟨#[]⟩, ⟨#[]⟩, [], []⟩, fun h => absurd h hil⟩
    let f := fun i => Classical.choose (key i)
    let g := fun i => Classical.choose (Classical.choose_spec (key i))
    have hk : ∀ i, i < len → (∀ j, j < 7 → w.cell? (a.add (i * 7 + j)) = some (f i j)) ∧ EntE w ((List.range 7).map (f i)) (g i) := fun i => Classical.choose_spec (Classical.choose_spec (key i))
    have hll : ((List.range len).map g).length = len := by simp
    refine ⟨some a, (List.range len).map g, cap, by rw [hll]; exact hcs, by rw [hll]; exact hl, hm, arr_of_cells f (fun i j hi hj => (hk i (by rw [hll] at hi; exact hi)).1 j hj) fun i y hy => ?_⟩
    have hil : i < len := by
      have := (List.getElem?_eq_some_iff.1 hy).1
      rwa [hll] at this
    have e : y = g i := by
      simp [hil] at hy
      exact hy.symm
    subst e
    exact (hk i hil).2
/-- What calls say, that came in. -/
theorem open_says {n : Nat} {v : Value} {y : DataW H × List MemPlace} (h : DataW.trod enc Tryd.prog w base spare held n 40 [v] = some y) :
    ∃ A l c, v = .slice A (l : List Say).length c ∧ l.length ≤ c ∧ c ≤ 9223372036854775807 ∧ Arr SayE 4 w A l := by
  rcases open_slice_fields Tryd.underlying40 Tryd.underlying24 (by kernel_rfl) (by kernel_rfl) h with ⟨hcs, _⟩ | ⟨a, len, cap, m, D, Pl, hcs, _, hl, hm, hmm, _, hi⟩
  · injection hcs with hcs
    exact ⟨none, [], 0, hcs, Nat.le_refl _, by decide, Arr.nil _ _ _ _⟩
  · injection hcs with hcs
    have hlm : len ≤ m := by
      rw [hmm]
      split <;> omega
    have key : ∀ i, ∃ (f : Nat → Value) (e : Say), i < len → (∀ j, j < 4 → w.cell? (a.add (i * 4 + j)) = some (f j)) ∧ SayE w ((List.range 4).map f) e := by
      intro i
      by_cases hil : i < len
      · obtain ⟨ys, n, _, _, hys, hf⟩ := hi i (by omega)
        obtain ⟨v0, y0, c0, _, t0⟩ := hf 0 _ rfl
        obtain ⟨v1, y1, c1, _, t1⟩ := hf 1 _ rfl
        obtain ⟨v2, y2, c2, _, t2⟩ := hf 2 _ rfl
        obtain ⟨v3, y3, c3, _, t3⟩ := hf 3 _ rfl
        obtain ⟨z0, rfl, w0⟩ := field_int t0
        obtain ⟨z1, rfl, w1⟩ := field_int t1
        obtain ⟨s2, rfl⟩ := field_string t2
        obtain ⟨s3, rfl⟩ := field_string t3
        refine ⟨fun j => match j with
          | 0 => .int .i64 z0
          | 1 => .int .i64 z1
          | 2 => .string s2
          | _ => .string s3, ⟨z0, z1, s2, s3⟩, fun _ => ⟨fun j hj => ?_, rfl, w0, w1⟩⟩
        match j, hj with
        | 0, _ => exact c0
        | 1, _ => exact c1
        | 2, _ => exact c2
        | 3, _ => exact c3
        | j + 4, hj => omega
      · exact ⟨fun _ => undef, ⟨0, 0, ⟨#[]⟩, ⟨#[]⟩⟩, fun h => absurd h hil⟩
    let f := fun i => Classical.choose (key i)
    let g := fun i => Classical.choose (Classical.choose_spec (key i))
    have hk : ∀ i, i < len → (∀ j, j < 4 → w.cell? (a.add (i * 4 + j)) = some (f i j)) ∧ SayE w ((List.range 4).map (f i)) (g i) := fun i => Classical.choose_spec (Classical.choose_spec (key i))
    have hll : ((List.range len).map g).length = len := by simp
    refine ⟨some a, (List.range len).map g, cap, by rw [hll]; exact hcs, by rw [hll]; exact hl, hm, arr_of_cells f (fun i j hi hj => (hk i (by rw [hll] at hi; exact hi)).1 j hj) fun i y hy => ?_⟩
    have hil : i < len := by
      have := (List.getElem?_eq_some_iff.1 hy).1
      rwa [hll] at this
    have e : y = g i := by
      simp [hil] at hy
      exact hy.symm
    subst e
    exact (hk i hil).2
end
end Go.Proofs.YtbjnpomcgcbflaaDoor

/- Entries in a row of one's own, apart from what they bear: what an append of one more does. -/
import Derived.Test.YtbjnpomcgcbflaaDoorB10
set_option linter.unusedVariables false
set_option linter.unusedSimpArgs false
namespace Go.Proofs.YtbjnpomcgcbflaaDoor
open Go.RowKit Go.Deep

/-- What is read at A lies from 'base' on, and not in a row. -/
def Off (base : Nat) (row : Option Nat) (A : Option Addr) (l : List UInt8) : Prop := l ≠ [] → ∀ a, A = some a → base ≤ a.block ∧ some a.block ≠ row
theorem Seg.lt {w : World} {A : Option Addr} {l : List UInt8} (h : Seg w A (bvs l)) (hl : l ≠ []) : ∀ a, A = some a → a.block < w.heap.size := by
  intro a ha
  obtain ⟨b, o, rfl, C, T, fr, hh, _⟩ := h.out (by simpa [bvs] using hl)
  cases ha
  exact (Array.getElem?_eq_some_iff.1 hh).1
theorem Seg.grownB {w w' : World} {A : Option Addr} {l : List UInt8} {row : Option Nat} (h : Seg w A (bvs l)) (hg : w.grownBy w' row) {base : Nat} (ho : Off base row A l) : Seg w' A (bvs l) := by
  by_cases hl : l = []
  · subst hl
    exact Seg.nil _ _
  · exact h.grown hg fun a ha => (ho hl a ha).2
structure EntX (base : Nat) (row : Option Nat) (w : World) (cs : List Value) (e : Ent) : Prop where
  out : ∃ A c B d, cs = entCells e A c B d ∧ EntIn w e A c B d ∧ Off base row A e.prev ∧ Off base row B e.hash
structure OwnEnts (base : Nat) (w : World) (v : Value) (l : List Ent) : Prop where
  out : ∃ xs, w.ownsRow base 30 7 v l.length xs ∧ ∀ i x, l[i]? = some x → EntX base v.ownBlock w ((xs.drop (i * 7)).take 7) x
theorem EntX.e {base : Nat} {row : Option Nat} {w : World} {cs : List Value} {e : Ent} (h : EntX base row w cs e) : EntE w cs e := by
  obtain ⟨A, c, B, d, h1, h2, _⟩ := h.out
  exact ⟨A, c, B, d, h1, h2⟩
theorem OwnEnts.own {base : Nat} {w : World} {v : Value} {l : List Ent} (h : OwnEnts base w v l) : OwnArr EntE 7 base 30 w v l := by
  obtain ⟨xs, h1, h2⟩ := h.out
  exact ⟨xs, h1, fun i x hx => (h2 i x hx).e⟩
theorem OwnEnts.nil (base : Nat) (w : World) : OwnEnts base w (.slice none 0 0) [] := ⟨[], World.ownsRow_nil _ _ _ _, fun i x hx => by simp at hx⟩
theorem OwnEnts.kept {base : Nat} {w w' : World} {v : Value} {l : List Ent} (h : OwnEnts base w v l) (hb : Below w.heap.size w w') : OwnEnts base w' v l := by
  obtain ⟨xs, h1, h2⟩ := h.out
  refine ⟨xs, own_below h1 hb, fun i x hx => ?_⟩
  obtain ⟨A, c, B, d, e1, e2, e3, e4⟩ := (h2 i x hx).out
  exact ⟨A, c, B, d, e1, e2.below hb, e3, e4⟩
theorem EntIn.grown {w w' : World} {e : Ent} {A : Option Addr} {c : Nat} {B : Option Addr} {d : Nat} {row : Option Nat} (h : EntIn w e A c B d) (hg : w.grownBy w' row) {base : Nat} (h1 : Off base row A e.prev) (h2 : Off base row B e.hash) : EntIn w' e A c B d :=
  ⟨h.hc, h.hc2, h.hd, h.hd2, h.sp.grownB hg h1, h.sh.grownB hg h2, h.fits⟩
theorem Off.turn {w : World} {base : Nat} {row row' : Option Nat} {A : Option Addr} {l : List UInt8} (h : Off base row A l) (hs : Seg w A (bvs l)) (hr : row' = row ∨ ∃ k, row' = some k ∧ w.heap.size ≤ k) : Off base row' A l := fun hl a ha => by
  refine ⟨(h hl a ha).1, ?_⟩
  rcases hr with rfl | ⟨k, rfl, hk⟩
  · exact (h hl a ha).2
  · have := hs.lt hl a ha
    intro e
    injection e with e
    omega
theorem Off.fresh {w : World} {base : Nat} {row : Option Nat} {A : Option Addr} {l : List UInt8} (hf : Fresh w A) (hb : base ≤ w.heap.size) (hr : ∀ k, row = some k → k < w.heap.size) : Off base row A l := fun _ a ha => by
  have := hf a ha
  refine ⟨by omega, fun e => ?_⟩
  have := hr _ e.symm
  omega

/-- 'append' of one more entry, that was written out, to such a row. -/
theorem wl_append_ent {P : Program} {ops : Array Oper} {rest : List Oper} {o : Oper} {a : Act} {Q : Exit → Act → World → Prop} {W : World}
    (w0 : World) (s x : Operand) (t : TypeId) (hgd : o.guard = none) (ho : o.op = .call { callee := .builtin .append, args := #[s, x], argTypes := #[t, t] })
    (ht : P.underlying t = some (.slice 30)) (z : Value) (hinfo : (P.info? 30).map (fun i => (i.zero, i.size, i.bytes)) = some (some z, 7, 104)) (hz : z.cells.size = 7)
    {v : Value} {n : Nat} {l : List Ent} {e : Ent} {A : Option Addr} {c : Nat} {B : Option Addr} {d : Nat} (hn : l.length = n) (hs : a.eval s = v) (hx : a.eval x = .slice (some ⟨W.heap.size, 0, none⟩) 1 1)
    (own : OwnEnts w0.heap.size W v l) (hi : EntIn W e A c B d) (h1 : Off w0.heap.size v.ownBlock A e.prev) (h2 : Off w0.heap.size v.ownBlock B e.hash) (hbytes : n ≤ 1099511627776) (hB : Below w0.heap.size w0 W)
    (h : ∀ v' w', OwnEnts w0.heap.size w' v' (l ++ [e]) → Below w0.heap.size w0 w' → wpList P ops Q rest (a.put o.dst v') w') :
    wpList P ops Q (o :: rest) a (W.alloc (.cells (entCells e A c B d).toArray 30)) := by
  subst hn
  obtain ⟨xs, o1, o2⟩ := own.out
  refine wl_append_lit w0 30 7 104 s x t z hgd ho ht hinfo hz (by decide) (by decide) 1 hs hx o1 rfl (EntE.flat _ _ _ ⟨A, c, B, d, rfl, hi⟩).2 (by omega) hB ?_
  intro v' w' q1 q2 q3 q4
  refine h v' w' ⟨xs ++ entCells e A c B d, by rw [List.length_append]; exact q1, ?_⟩ q2
  have hal := alloc_ext W (.cells (entCells e A c B d).toArray 30)
  refine pw_append o1.1 (fun i x hx => ?_) (fun i x hx => ?_)
  · obtain ⟨A', c', B', d', e1, e2, e3, e4⟩ := (o2 i x hx).out
    exact ⟨A', c', B', d', e1, e2.grown q3 e3 e4, e3.turn e2.sp q4, e4.turn e2.sh q4⟩
  · match i, hx with
    | 0, hx =>
      cases hx
      exact ⟨A, c, B, d, rfl, hi.grown q3 h1 h2, h1.turn hi.sp q4, h2.turn hi.sh q4⟩
    | n + 1, hx => simp at hx
end Go.Proofs.YtbjnpomcgcbflaaDoor

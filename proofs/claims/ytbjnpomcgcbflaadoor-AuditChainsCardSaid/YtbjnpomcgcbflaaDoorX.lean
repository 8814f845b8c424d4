/- Rows of one's own whose elements bear what lies apart from the row: what an append does to them. -/
import Derived.Test.YtbjnpomcgcbflaaDoorArr
import Derived.Test.YtbjnpomcgcbflaaDoorFac2
set_option linter.unusedVariables false
set_option linter.unusedSimpArgs false
namespace Go.Proofs.YtbjnpomcgcbflaaDoor
open Go.RowKit Go.Deep


/-- What is read at A lies from 'base' on, and not in a row. -/
def Off (base : Nat) (row : Option Nat) (A : Option Addr) (l : List UInt8) : Prop := l ≠ [] → ∀ a, A = some a → base ≤ a.block ∧ some a.block ≠ row
theorem Seg.lt {w : World} {A : Option Addr} {l : List UInt8} (h : Seg w A (bvs l)) (hl : l ≠ []) : ∀ a, A = some a → a.block < w.heap.size := by
  intro a ha
  obtain ⟨b, o, rfl, C, T, fr, hh, _⟩ := h.out (by simpa [bvs] using hl)
  cases ha
  exact (Array.getElem?_eq_some_iff.1 hh).1
theorem Seg.grownB {w w' : World} {A : Option Addr} {l : List UInt8} {row : Option Nat} (h : Seg w A (bvs l)) (hg : w.grownBy w' row) {base : Nat} (ho : Off base row A l) : Seg w' A (bvs l) := by
  by_cases hl : l = []
  · subst hl
    exact Seg.nil _ _
  · exact h.grown hg fun a ha => (ho hl a ha).2
theorem Off.turn {w : World} {base : Nat} {row row' : Option Nat} {A : Option Addr} {l : List UInt8} (h : Off base row A l) (hs : Seg w A (bvs l)) (hr : row' = row ∨ ∃ k, row' = some k ∧ w.heap.size ≤ k) : Off base row' A l := fun hl a ha => by
  refine ⟨(h hl a ha).1, ?_⟩
  rcases hr with rfl | ⟨k, rfl, hk⟩
  · exact (h hl a ha).2
  · have := hs.lt hl a ha
    intro e
    injection e with e
    omega
theorem Off.fresh {w : World} {base : Nat} {row : Option Nat} {A : Option Addr} {l : List UInt8} (hf : Fresh w A) (hb : base ≤ w.heap.size) (hr : ∀ k, row = some k → k < w.heap.size) : Off base row A l := fun _ a ha => by
  have := hf a ha
  refine ⟨by omega, fun e => ?_⟩
  have := hr _ e.symm
  omega


/-- A slice of bytes as an element of a row. -/
def BytesX (base : Nat) (row : Option Nat) (w : World) (cs : List Value) (x : List UInt8) : Prop := ∃ A c, cs = [.slice A x.length c] ∧ x.length ≤ c ∧ c ≤ 9223372036854775807 ∧ Seg w A (bvs x) ∧ Off base row A x
/-- What is said of an element that lies in a row: it stays true when the row alone turns, and when the row is laid anew elsewhere. -/
structure XE {α : Type} (E : Nat → Option Nat → World → List Value → α → Prop) (sz : Nat) : Prop where
  flat : ∀ base row w cs x, E base row w cs x → cs.length = sz ∧ ∀ u ∈ cs, u.oneCell' = true
  moved : ∀ base row row' w w' cs x, E base row w cs x → w.grownBy w' row → (row' = row ∨ ∃ k, row' = some k ∧ w.heap.size ≤ k) → E base row' w' cs x
  below : ∀ base row w w' cs x, E base row w cs x → Below w.heap.size w w' → E base row w' cs x
theorem BytesX.xe : XE BytesX 1 where
  flat := fun base row w cs x ⟨A, c, h, _⟩ => by
    subst h
    exact ⟨rfl, fun u hu => by simp at hu; subst hu; rfl⟩
  moved := fun base row row' w w' cs x ⟨A, c, h1, h2, h3, h4, h5⟩ hg hr => ⟨A, c, h1, h2, h3, h4.grownB hg h5, h5.turn h4 hr⟩
  below := fun base row w w' cs x ⟨A, c, h1, h2, h3, h4, h5⟩ hb => ⟨A, c, h1, h2, h3, h4.below hb, h5⟩
theorem BytesX.e {base : Nat} {row : Option Nat} {w : World} {cs : List Value} {x : List UInt8} (h : BytesX base row w cs x) : BytesE w cs x := by
  obtain ⟨A, c, h1, h2, _, h3, _⟩ := h
  exact ⟨A, c, h1, h2, h3⟩
structure OwnX {α : Type} (E : Nat → Option Nat → World → List Value → α → Prop) (sz base : Nat) (T : TypeId) (w : World) (v : Value) (l : List α) : Prop where
  out : ∃ xs, w.ownsRow base T sz v l.length xs ∧ ∀ i x, l[i]? = some x → E base v.ownBlock w ((xs.drop (i * sz)).take sz) x
theorem below_drewN {B : Nat} {a w : World} (h : Below B a w) (n : Nat) : Below B a (w.drewN n) := ⟨h.os, h.tape, h.output, h.size, h.block⟩
theorem Seg.drewN {w : World} {A : Option Addr} {cs : List Value} (h : Seg w A cs) (n : Nat) : Seg (w.drewN n) A cs := h.below (below_drewN (Below.refl _ _) n)
section
variable {α : Type} {E : Nat → Option Nat → World → List Value → α → Prop} {sz base : Nat} {T : TypeId}
theorem OwnX.nil (w : World) : OwnX E sz base T w (.slice none 0 0) [] := ⟨[], World.ownsRow_nil _ _ _ _, fun i x hx => by simp at hx⟩
theorem OwnX.kept (hX : XE E sz) {w w' : World} {v : Value} {l : List α} (h : OwnX E sz base T w v l) (hb : Below w.heap.size w w') : OwnX E sz base T w' v l := by
  obtain ⟨xs, h1, h2⟩ := h.out
  exact ⟨xs, own_below h1 hb, fun i x hx => hX.below _ _ _ _ _ _ (h2 i x hx) hb⟩
theorem OwnX.lt {w : World} {v : Value} {l : List α} (h : OwnX E sz base T w v l) : ∀ j, v.ownBlock = some j → base ≤ j ∧ j < w.heap.size := fun j hj => by
  obtain ⟨xs, h1, _⟩ := h.out
  exact h1.lt j hj
theorem OwnX.own {w : World} {v : Value} {l : List α} (h : OwnX E sz base T w v l) {E' : World → List Value → α → Prop} (hE : ∀ base row w cs x, E base row w cs x → E' w cs x) : OwnArr E' sz base T w v l := by
  obtain ⟨xs, h1, h2⟩ := h.out
  exact ⟨xs, h1, fun i x hx => hE _ _ _ _ _ (h2 i x hx)⟩
theorem pwX_append {w : World} {row : Option Nat} {xs ys : List Value} {l m : List α} (hl : xs.length = l.length * sz)
    (h1 : ∀ i x, l[i]? = some x → E base row w ((xs.drop (i * sz)).take sz) x) (h2 : ∀ i x, m[i]? = some x → E base row w ((ys.drop (i * sz)).take sz) x) : ∀ i x, (l ++ m)[i]? = some x → E base row w (((xs ++ ys).drop (i * sz)).take sz) x :=
  pw_append (E := fun w cs x => E base row w cs x) hl h1 h2
/-- 'append' of one more element, that was written out, to such a row. -/
theorem wl_append_x (hX : XE E sz) {P : Program} {ops : Array Oper} {rest : List Oper} {o : Oper} {a : Act} {Q : Exit → Act → World → Prop} {W : World} (bytes : Nat)
    (w0 : World) (s x : Operand) (t : TypeId) (hgd : o.guard = none) (ho : o.op = .call { callee := .builtin .append, args := #[s, x], argTypes := #[t, t] })
    (ht : P.underlying t = some (.slice T)) (z : Value) (hinfo : (P.info? T).map (fun i => (i.zero, i.size, i.bytes)) = some (some z, sz, bytes)) (hz : z.cells.size = sz) (hsz : 0 < sz) (hb0 : 0 < bytes)
    {v : Value} {n : Nat} {l : List α} {e : α} {cs : List Value} (hn : l.length = n) (hs : a.eval s = v) (hx : a.eval x = .slice (some ⟨W.heap.size, 0, none⟩) 1 1)
    (own : OwnX E sz w0.heap.size T W v l) (hi : E w0.heap.size v.ownBlock W cs e) (hbytes : (n + 1) * bytes ≤ 140737488355328) (hB : Below w0.heap.size w0 W)
    (h : ∀ v' w', OwnX E sz w0.heap.size T w' v' (l ++ [e]) → Below w0.heap.size w0 w' → W.grownBy w' v.ownBlock → (v'.ownBlock = v.ownBlock ∨ ∃ k, v'.ownBlock = some k ∧ W.heap.size ≤ k) → wpList P ops Q rest (a.put o.dst v') w') :
    wpList P ops Q (o :: rest) a (W.alloc (.cells cs.toArray T)) := by
  subst hn
  obtain ⟨xs, o1, o2⟩ := own.out
  have hf := hX.flat _ _ _ _ _ hi
  refine wl_append_lit w0 T sz bytes s x t z hgd ho ht hinfo hz hsz hb0 1 hs hx o1 (by simpa using hf.1) (by simpa using hf.2) hbytes hB ?_
  intro v' w' q1 q2 q3 q4
  refine h v' w' ⟨xs ++ cs, by rw [List.length_append]; simpa using q1, ?_⟩ q2 q3 q4
  refine pwX_append o1.1 (fun i x hx => hX.moved _ _ _ _ _ _ _ (o2 i x hx) q3 q4) (fun i x hx => ?_)
  match i, hx with
  | 0, hx =>
    cases hx
    have e1 : (cs.drop (0 * sz)).take sz = cs := by
      rw [Nat.zero_mul, List.drop_zero, List.take_of_length_le (by omega)]
    rw [e1]
    exact hX.moved _ _ _ _ _ _ _ hi q3 q4
  | n + 1, hx => simp at hx
end
end Go.Proofs.YtbjnpomcgcbflaaDoor

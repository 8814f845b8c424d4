/- Entries in a row of one's own, apart from what they bear: what an append of one more does. -/
import Derived.Test.YtbjnpomcgcbflaaDoorB10
import Derived.Test.YtbjnpomcgcbflaaDoorX
set_option linter.unusedVariables false
set_option linter.unusedSimpArgs false
namespace Go.Proofs.YtbjnpomcgcbflaaDoor
open Go.RowKit Go.Deep

structure EntX (base : Nat) (row : Option Nat) (w : World) (cs : List Value) (e : Ent) : Prop where
  out : ∃ A c B d, cs = entCells e A c B d ∧ EntIn w e A c B d ∧ Off base row A e.prev ∧ Off base row B e.hash
structure OwnEnts (base : Nat) (w : World) (v : Value) (l : List Ent) : Prop where
  out : ∃ xs, w.ownsRow base 30 7 v l.length xs ∧ ∀ i x, l[i]? = some x → EntX base v.ownBlock w ((xs.drop (i * 7)).take 7) x
theorem EntX.e {base : Nat} {row : Option Nat} {w : World} {cs : List Value} {e : Ent} (h : EntX base row w cs e) : EntE w cs e := by
  obtain ⟨A, c, B, d, h1, h2, _⟩ := h.out
  exact ⟨A, c, B, d, h1, h2⟩
theorem OwnEnts.own {base : Nat} {w : World} {v : Value} {l : List Ent} (h : OwnEnts base w v l) : OwnArr EntE 7 base 30 w v l := by
  obtain ⟨xs, h1, h2⟩ := h.out
  exact ⟨xs, h1, fun i x hx => (h2 i x hx).e⟩
theorem OwnEnts.nil (base : Nat) (w : World) : OwnEnts base w (.slice none 0 0) [] := ⟨[], World.ownsRow_nil _ _ _ _, fun i x hx => by simp at hx⟩
theorem OwnEnts.kept {base : Nat} {w w' : World} {v : Value} {l : List Ent} (h : OwnEnts base w v l) (hb : Below w.heap.size w w') : OwnEnts base w' v l := by
  obtain ⟨xs, h1, h2⟩ := h.out
  refine ⟨xs, own_below h1 hb, fun i x hx => ?_⟩
  obtain ⟨A, c, B, d, e1, e2, e3, e4⟩ := (h2 i x hx).out
  exact ⟨A, c, B, d, e1, e2.below hb, e3, e4⟩
theorem EntIn.grown {w w' : World} {e : Ent} {A : Option Addr} {c : Nat} {B : Option Addr} {d : Nat} {row : Option Nat} (h : EntIn w e A c B d) (hg : w.grownBy w' row) {base : Nat} (h1 : Off base row A e.prev) (h2 : Off base row B e.hash) : EntIn w' e A c B d :=
  ⟨h.hc, h.hc2, h.hd, h.hd2, h.sp.grownB hg h1, h.sh.grownB hg h2, h.fits⟩
/-- 'append' of one more entry, that was written out, to such a row. -/
theorem wl_append_ent {P : Program} {ops : Array Oper} {rest : List Oper} {o : Oper} {a : Act} {Q : Exit → Act → World → Prop} {W : World}
    (w0 : World) (s x : Operand) (t : TypeId) (hgd : o.guard = none) (ho : o.op = .call { callee := .builtin .append, args := #[s, x], argTypes := #[t, t] })
    (ht : P.underlying t = some (.slice 30)) (z : Value) (hinfo : (P.info? 30).map (fun i => (i.zero, i.size, i.bytes)) = some (some z, 7, 104)) (hz : z.cells.size = 7)
    {v : Value} {n : Nat} {l : List Ent} {e : Ent} {A : Option Addr} {c : Nat} {B : Option Addr} {d : Nat} (hn : l.length = n) (hs : a.eval s = v) (hx : a.eval x = .slice (some ⟨W.heap.size, 0, none⟩) 1 1)
    (own : OwnEnts w0.heap.size W v l) (hi : EntIn W e A c B d) (h1 : Off w0.heap.size v.ownBlock A e.prev) (h2 : Off w0.heap.size v.ownBlock B e.hash) (hbytes : n ≤ 1099511627776) (hB : Below w0.heap.size w0 W)
    (h : ∀ v' w', OwnEnts w0.heap.size w' v' (l ++ [e]) → Below w0.heap.size w0 w' → wpList P ops Q rest (a.put o.dst v') w') :
    wpList P ops Q (o :: rest) a (W.alloc (.cells (entCells e A c B d).toArray 30)) := by
  subst hn
  obtain ⟨xs, o1, o2⟩ := own.out
  refine wl_append_lit w0 30 7 104 s x t z hgd ho ht hinfo hz (by decide) (by decide) 1 hs hx o1 rfl (EntE.flat _ _ _ ⟨A, c, B, d, rfl, hi⟩).2 (by omega) hB ?_
  intro v' w' q1 q2 q3 q4
  refine h v' w' ⟨xs ++ entCells e A c B d, by rw [List.length_append]; exact q1, ?_⟩ q2
  have hal := alloc_ext W (.cells (entCells e A c B d).toArray 30)
  refine pw_append o1.1 (fun i x hx => ?_) (fun i x hx => ?_)
  · obtain ⟨A', c', B', d', e1, e2, e3, e4⟩ := (o2 i x hx).out
    exact ⟨A', c', B', d', e1, e2.grown q3 e3 e4, e3.turn e2.sp q4, e4.turn e2.sh q4⟩
  · match i, hx with
    | 0, hx =>
      cases hx
      exact ⟨A, c, B, d, rfl, hi.grown q3 h1 h2, h1.turn hi.sp q4, h2.turn hi.sh q4⟩
    | n + 1, hx => simp at hx
end Go.Proofs.YtbjnpomcgcbflaaDoor

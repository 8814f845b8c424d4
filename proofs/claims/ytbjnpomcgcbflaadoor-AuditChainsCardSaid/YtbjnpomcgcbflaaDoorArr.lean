/- Rows of elements of several cells: what an append does to them; append of what is full, in a region that leaves its order open. -/
import Derived.Test.YtbjnpomcgcbflaaDoorFac
import Derived.ArgAppend
set_option linter.unusedVariables false
set_option linter.unusedSimpArgs false
namespace Go.Proofs.YtbjnpomcgcbflaaDoor
open Go.RowKit Go.Deep

/-- An element's cells are so many, each one a cell of its own. -/
def Flat {α : Type} (E : World → List Value → α → Prop) (sz : Nat) : Prop := ∀ w cs x, E w cs x → cs.length = sz ∧ ∀ u ∈ cs, u.oneCell' = true
theorem BytesE.flat : Flat BytesE 1 := fun w cs x ⟨A, c, h, _⟩ => by
  subst h
  exact ⟨rfl, fun u hu => by simp at hu; subst hu; rfl⟩
theorem pw_one {α : Type} {E : World → List Value → α → Prop} {sz : Nat} (hf : Flat E sz) {w : World} {xs : List Value} {l : List α} (hl : xs.length = l.length * sz) (h : ∀ i x, l[i]? = some x → E w ((xs.drop (i * sz)).take sz) x) : ∀ u ∈ xs, u.oneCell' = true := by
  intro u hu
  obtain ⟨j, hj, rfl⟩ := List.mem_iff_getElem.1 hu
  rcases Nat.eq_zero_or_pos sz with h0 | h0
  · subst h0
    simp at hl
    subst hl
    simp at hj
  have hi : j / sz < l.length := by
    rw [Nat.div_lt_iff_lt_mul h0]
    omega
  refine (hf _ _ _ (h (j / sz) _ (List.getElem?_eq_getElem hi))).2 _ ?_
  refine List.mem_of_getElem? (i := j % sz) ?_
  have e : j / sz * sz + j % sz = j := by
    have := Nat.div_add_mod j sz
    rw [Nat.mul_comm]
    exact this
  rw [List.getElem?_take, if_pos (Nat.mod_lt _ h0), List.getElem?_drop, e, List.getElem?_eq_getElem hj]
theorem pw_append {α : Type} {E : World → List Value → α → Prop} {sz : Nat} {w : World} {xs ys : List Value} {l m : List α} (hl : xs.length = l.length * sz)
    (h1 : ∀ i x, l[i]? = some x → E w ((xs.drop (i * sz)).take sz) x) (h2 : ∀ i x, m[i]? = some x → E w ((ys.drop (i * sz)).take sz) x) : ∀ i x, (l ++ m)[i]? = some x → E w (((xs ++ ys).drop (i * sz)).take sz) x := by
  intro i x hx
  rcases Nat.lt_or_ge i l.length with hi | hi
  · rw [List.getElem?_append_left hi] at hx
    have hle : i * sz + sz ≤ xs.length := by
      rw [hl, ← Nat.succ_mul]
      exact Nat.mul_le_mul_right _ hi
    rw [List.drop_append_of_le_length (by omega), List.take_append_of_le_length (by rw [List.length_drop]; omega)]
    exact h1 i x hx
  · rw [List.getElem?_append_right hi] at hx
    have hge : l.length * sz ≤ i * sz := Nat.mul_le_mul_right _ hi
    have e : i * sz = xs.length + (i - l.length) * sz := by rw [hl, Nat.sub_mul]; omega
    rw [e, ← List.drop_drop, List.drop_left]
    exact h2 _ x hx
/-- A slice of such elements. -/
def SlA {α : Type} (E : World → List Value → α → Prop) (sz : Nat) (l : List α) (v : Value) (w : World) : Prop := ∃ A c, v = .slice A l.length c ∧ l.length ≤ c ∧ c ≤ 9223372036854775807 ∧ Arr E sz w A l
theorem SlA.below {α : Type} {E : World → List Value → α → Prop} {sz : Nat} (hE : Stays E) {l : List α} {v : Value} {w w' : World} (h : SlA E sz l v w) (hb : Below w.heap.size w w') : SlA E sz l v w' := by
  obtain ⟨A, c, rfl, h1, h2, h3⟩ := h
  exact ⟨A, c, rfl, h1, h2, h3.below hE hb⟩
theorem OwnArr.slA {α : Type} {E : World → List Value → α → Prop} {sz base : Nat} {e : TypeId} {w : World} {v : Value} {l : List α} (h : OwnArr E sz base e w v l) : SlA E sz l v w := by
  obtain ⟨A, c, rfl, h1, h2, h3, _⟩ := h.arr
  exact ⟨A, c, rfl, h1, h2, h3⟩
/-- Where there is an element there is an address. -/
theorem Arr.addr {α : Type} {E : World → List Value → α → Prop} {sz : Nat} {w : World} {A : Option Addr} {l : List α} (h : Arr E sz w A l) (hsz : 0 < sz) (hl : l ≠ []) : ∃ b o, A = some ⟨b, o, none⟩ := by
  obtain ⟨cs, hs, hc, _⟩ := h.out
  refine hs.addr fun e => hl ?_
  rw [e] at hc
  have h0 : l.length * sz = 0 := hc.symm
  rcases Nat.mul_eq_zero.1 h0 with h | h
  · exact List.length_eq_zero_iff.1 h
  · omega

theorem grown_none {w w' : World} (h : w.grownBy w' none) : Below w.heap.size w w' := ⟨h.os, h.tape, h.output, h.size, fun i hi => h.block i hi (by simp)⟩

section
variable {P : Program} {o : Oper} {σ : Nat → Value} {a : Act} {w : World} {K : Value → World → Prop} {Q : Exit → Act → World → Prop}
/-- 'append' to a slice that is full. -/
theorem stepS_append_full {α : Type} (E : World → List Value → α → Prop) (hE : Stays E) (sz bytes : Nat) (hf : Flat E sz) (s x : Operand) (t e : TypeId) (z : Value) (ho : o.op = .call { callee := .builtin .append, args := #[s, x], argTypes := #[t, t] })
    (ht : P.underlying t = some (.slice e)) (hinfo : (P.info? e).map (fun i => (i.zero, i.size, i.bytes)) = some (some z, sz, bytes)) (hz : z.cells.size = sz) (hsz : 0 < sz)
    {l m : List α} {A B : Option Addr} {c : Nat} (hs : evalS σ s = .slice A l.length l.length) (hx : evalS σ x = .slice B m.length c) (hA : Arr E sz w A l) (hB : Arr E sz w B m) (hm : m ≠ []) (hl : l ≠ [])
    (hb : (l.length + m.length) * bytes ≤ 140737488355328) (hb2 : l.length + m.length ≤ maxLen)
    (h : ∀ v w', Below w.heap.size w w' → OwnArr E sz w.heap.size e w' v (l ++ m) → K v w') : stepS P o σ a w K Q := by
  obtain ⟨i0, hi, hz0, hz1, hz2⟩ := info_parts hinfo
  obtain ⟨b, o', rfl⟩ := hA.addr hsz hl
  obtain ⟨b2, o2, rfl⟩ := hB.addr hsz hm
  obtain ⟨xs, hxs, hxl, hxe⟩ := hA.out
  obtain ⟨ys, hys, hyl, hye⟩ := hB.out
  have hpos : 0 < m.length := List.length_pos_iff.2 hm
  obtain ⟨v', w', hrun, r1, r2⟩ := run_append_arg_grows (P := P) w t o.type e i0 z sz bytes ht hi hz0 hz1 hz2 hz hsz ⟨b, o', none⟩ l.length l.length xs hxl hxs.news ⟨b2, o2, none⟩ m.length c ys hyl hys.news (by omega) hb2 hb
  unfold stepS execOp
  simp only [ho, resolve, invoke, builtin, Sem.run_bind, Sem.run_pure, Result.andThen_ok, List.map_toArray, List.map_cons, List.map_nil, hs, hx, hrun]
  have hbel := grown_none r2
  refine h _ _ hbel ⟨xs ++ ys, by rw [List.length_append]; exact r1, ?_⟩
  exact fun i x hx => hE _ _ _ _ hbel (pw_append hxl hxe hye i x hx)
end
theorem wl_append_full {P : Program} {ops : Array Oper} {rest : List Oper} {o : Oper} {a : Act} {Q : Exit → Act → World → Prop} {w : World}
    {α : Type} (E : World → List Value → α → Prop) (hE : Stays E) (sz bytes : Nat) (hf : Flat E sz) (s x : Operand) (t e : TypeId) (z : Value) (hgd : o.guard = none) (ho : o.op = .call { callee := .builtin .append, args := #[s, x], argTypes := #[t, t] })
    (ht : P.underlying t = some (.slice e)) (hinfo : (P.info? e).map (fun i => (i.zero, i.size, i.bytes)) = some (some z, sz, bytes)) (hz : z.cells.size = sz) (hsz : 0 < sz)
    {l m : List α} {A B : Option Addr} {n c : Nat} (hn : n = l.length) (hs : a.eval s = .slice A n n) {k : Nat} (hk : k = m.length) (hx : a.eval x = .slice B k c) (hA : Arr E sz w A l) (hB : Arr E sz w B m) (hm : m ≠ []) (hl : l ≠ [])
    (hb : (l.length + m.length) * bytes ≤ 140737488355328) (hb2 : l.length + m.length ≤ maxLen)
    (h : ∀ v w', Below w.heap.size w w' → OwnArr E sz w.heap.size e w' v (l ++ m) → wpList P ops Q rest (a.put o.dst v) w') : wpList P ops Q (o :: rest) a w := by
  subst hn hk
  obtain ⟨i0, hi, hz0, hz1, hz2⟩ := info_parts hinfo
  obtain ⟨b, o', rfl⟩ := hA.addr hsz hl
  obtain ⟨b2, o2, rfl⟩ := hB.addr hsz hm
  obtain ⟨xs, hxs, hxl, hxe⟩ := hA.out
  obtain ⟨ys, hys, hyl, hye⟩ := hB.out
  have hpos : 0 < m.length := List.length_pos_iff.2 hm
  obtain ⟨v', w', hrun, r1, r2⟩ := run_append_arg_grows (P := P) w t o.type e i0 z sz bytes ht hi hz0 hz1 hz2 hz hsz ⟨b, o', none⟩ l.length l.length xs hxl hxs.news ⟨b2, o2, none⟩ m.length c ys hyl hys.news (by omega) hb2 hb
  refine wpList_plain hgd fun K hK => ?_
  unfold Oper.wp execOp
  simp only [ho, resolve, invoke, builtin, Sem.run_bind, Sem.run_pure, Result.andThen_ok, List.map_toArray, List.map_cons, List.map_nil, hs, hx, hrun]
  have hbel := grown_none r2
  refine hK _ _ (h _ _ hbel ⟨xs ++ ys, by rw [List.length_append]; exact r1, ?_⟩)
  exact fun i x hx => hE _ _ _ _ hbel (pw_append hxl hxe hye i x hx)
end Go.Proofs.YtbjnpomcgcbflaaDoor

/- The words that the walks use: from an address on the cells of a list can be read; a slice of bytes; what an append does to a row of one's own, whatever the source. -/
import Derived.Test.YtbjnpomcgcbflaaDoorRows
import Derived.WalkKit
import Derived.WalkSpells
import Derived.WalkLawsBesides
import Derived.Maps.AppendAt
import Derived.Laws.CopyOwn
import Derived.Lib.ConvBytes
import Derived.Laws.BytesArg
import Derived.Lib.Hide
import Derived.Deep.QuietTactic
import Derived.BigQuiet
import Derived.Deep.RegionHeld3
import Derived.Deep.OwnRows
import Derived.StillTailTactics
import Derived.Deep.MidRow
import Derived.Laws.Tables
set_option linter.unusedVariables false
set_option linter.unusedSimpArgs false
namespace Go.Proofs.YtbjnpomcgcbflaaDoor
open Go.RowKit Go.Deep

theorem alloc_ext (w : World) (o : Obj) : Below w.heap.size w (w.alloc o) := (Below.refl _ _).alloc (Nat.le_refl _) _
theorem drew_ext (w : World) : Below w.heap.size w w.drew := (Below.refl _ _).drew
theorem ext_trans {a b c : World} (h : Below a.heap.size a b) (k : Below b.heap.size b c) : Below a.heap.size a c := h.trans (k.mono h.size)
theorem grown_ext {base : Nat} {w0 w w' : World} {row : Option Nat} (h : Below w0.heap.size w0 w) (hg : w.grownBy w' row) (hr : ∀ k, row = some k → w0.heap.size ≤ k) : Below w0.heap.size w0 w' := h.grown hg h.size hr

/-- From address A on the cells read 'cs'; where 'cs' is empty nothing is said. -/
structure Seg (w : World) (A : Option Addr) (cs : List Value) : Prop where
  out : cs ≠ [] → ∃ b o, A = some ⟨b, o, none⟩ ∧ ∃ C T fr, w.heap[b]? = some (.cells C T fr) ∧ ∀ j u, cs[j]? = some u → C[o + j]? = some u

def bv (b : UInt8) : Value := .int .u8 b.toNat
def bvs (l : List UInt8) : List Value := l.map bv
theorem bv_ofNat (m : Nat) : bv (UInt8.ofNat m) = .int .u8 ((m % 256 : Nat) : Int) := by simp [bv]
theorem bvs_length (l : List UInt8) : (bvs l).length = l.length := by simp [bvs]
theorem bvs_take (l : List UInt8) (k : Nat) : bvs (l.take k) = (bvs l).take k := by simp [bvs, List.map_take]
theorem bvs_drop (l : List UInt8) (k : Nat) : bvs (l.drop k) = (bvs l).drop k := by simp [bvs, List.map_drop]
theorem bvs_append (l m : List UInt8) : bvs (l ++ m) = bvs l ++ bvs m := by simp [bvs]
theorem bvs_one {l : List UInt8} : ∀ u ∈ bvs l, u.oneCell' = true := by
  intro u hu
  simp only [bvs, List.mem_map] at hu
  obtain ⟨b, _, rfl⟩ := hu
  rfl

theorem Seg.nil (w : World) (A : Option Addr) : Seg w A [] := ⟨fun h => absurd rfl h⟩
theorem Seg.mono {w w' : World} {A : Option Addr} {cs : List Value} (h : Seg w A cs) (hb : ∀ b o, A = some ⟨b, o, none⟩ → b < w.heap.size → w'.heap[b]? = w.heap[b]?) : Seg w' A cs := by
  refine ⟨fun hne => ?_⟩
  obtain ⟨b, o, rfl, C, T, fr, hh, hc⟩ := h.out hne
  refine ⟨b, o, rfl, C, T, fr, ?_, hc⟩
  have hlt : b < w.heap.size := (Array.getElem?_eq_some_iff.1 hh).1
  rw [hb b o rfl hlt]
  exact hh
theorem Seg.below {w w' : World} {A : Option Addr} {cs : List Value} (h : Seg w A cs) (hb : Below w.heap.size w w') : Seg w' A cs :=
  h.mono fun b _ _ hlt => hb.block b hlt
theorem Seg.at_ {w : World} {A : Option Addr} {cs : List Value} (h : Seg w A cs) {j : Nat} {u : Value} (hu : cs[j]? = some u) :
    ∃ b o, A = some ⟨b, o, none⟩ ∧ w.cell? ⟨b, o + j, none⟩ = some u := by
  have hne : cs ≠ [] := fun e => by simp [e] at hu
  obtain ⟨b, o, rfl, C, T, fr, hh, hc⟩ := h.out hne
  exact ⟨b, o, rfl, by rw [cell_of_row w b _ C T fr hh]; exact hc j u hu⟩
/-- Where there is something to read there is an address. -/
theorem Seg.addr {w : World} {A : Option Addr} {cs : List Value} (h : Seg w A cs) (hne : cs ≠ []) : ∃ b o, A = some ⟨b, o, none⟩ := by
  obtain ⟨b, o, rfl, _⟩ := h.out hne
  exact ⟨b, o, rfl⟩
theorem Seg.cell {w : World} {b o : Nat} {cs : List Value} (h : Seg w (some ⟨b, o, none⟩) cs) {j : Nat} {u : Value} (hu : cs[j]? = some u) : w.cell? ⟨b, o + j, none⟩ = some u := by
  obtain ⟨b', o', he, hc⟩ := h.at_ hu
  cases he
  exact hc
theorem add_flat (g o j : Nat) : (⟨g, o, none⟩ : Addr).add j = ⟨g, o + j, none⟩ := by unfold Addr.add; split <;> simp_all
theorem Seg.news {w : World} {b o : Nat} {cs : List Value} (h : Seg w (some ⟨b, o, none⟩) cs) : ∀ j u, cs[j]? = some u → w.cell? ((⟨b, o, none⟩ : Addr).add j) = some u := by
  intro j u hu
  rw [add_flat]
  exact h.cell hu
theorem Seg.of_block {w : World} {b : Nat} {C : Array Value} {T : TypeId} {fr : Nat × Nat} (hh : w.heap[b]? = some (.cells C T fr)) {o : Nat} {cs : List Value} (hc : ∀ j u, cs[j]? = some u → C[o + j]? = some u) : Seg w (some ⟨b, o, none⟩) cs :=
  ⟨fun _ => ⟨b, o, rfl, C, T, fr, hh, hc⟩⟩
theorem Seg.take {w : World} {A : Option Addr} {cs : List Value} (h : Seg w A cs) (k : Nat) : Seg w A (cs.take k) := by
  refine ⟨fun hne => ?_⟩
  obtain ⟨b, o, rfl, C, T, fr, hh, hc⟩ := h.out (fun e => hne (by simp [e]))
  refine ⟨b, o, rfl, C, T, fr, hh, fun j u hu => hc j u ?_⟩
  rw [List.getElem?_take] at hu
  split at hu
  · exact hu
  · cases hu
theorem Seg.drop {w : World} {b o : Nat} {cs : List Value} (h : Seg w (some ⟨b, o, none⟩) cs) (k : Nat) : Seg w (some ⟨b, o + k, none⟩) (cs.drop k) := by
  refine ⟨fun hne => ?_⟩
  obtain ⟨b', o', he, C, T, fr, hh, hc⟩ := h.out (fun e => hne (by simp [e]))
  cases he
  refine ⟨b, o + k, rfl, C, T, fr, hh, fun j u hu => ?_⟩
  rw [List.getElem?_drop] at hu
  have := hc _ _ hu
  rwa [← Nat.add_assoc] at this
/-- What is owned is read. -/
theorem own_seg {w : World} {base : Nat} {e : TypeId} {size : Nat} {v : Value} {n : Nat} {xs : List Value} (h : w.ownsRow base e size v n xs) :
    ∃ A c, v = .slice A n c ∧ n ≤ c ∧ c ≤ maxLen ∧ Seg w A xs ∧ (A = none → n = 0 ∧ c = 0) := by
  rcases h.2 with ⟨rfl, hn⟩ | ⟨g, cap, cur, rfl, hg, hh, hnc, hm, hs, ht⟩
  · subst hn
    obtain rfl : xs = [] := List.eq_nil_of_length_eq_zero (by simpa using h.1)
    exact ⟨none, 0, rfl, Nat.le_refl _, Nat.zero_le _, Seg.nil _ _, fun _ => ⟨rfl, rfl⟩⟩
  · refine ⟨_, cap, rfl, hnc, hm, Seg.of_block hh fun j u hu => ?_, fun h => by cases h⟩
    rw [← ht, List.getElem?_take] at hu
    split at hu
    · simpa using hu
    · cases hu
theorem maxLen_eq : maxLen = 9223372036854775807 := rfl

theorem Seg.addrB {w : World} {A : Option Addr} {l : List UInt8} (h : Seg w A (bvs l)) (hl : 0 < l.length) : ∃ b o, A = some ⟨b, o, none⟩ :=
  h.addr fun e => by
    have h0 : (bvs l).length = 0 := by rw [e]; rfl
    rw [bvs_length] at h0
    omega
theorem Seg.byte {w : World} {b o : Nat} {l : List UInt8} (h : Seg w (some ⟨b, o, none⟩) (bvs l)) {j : Nat} {d : UInt8} (hd : l[j]? = some d) : w.cell? ⟨b, o + j, none⟩ = some (.int .u8 d.toNat) :=
  h.cell (u := bv d) (by simp [bvs, hd])
/-- A call that hands back a slice of the bytes l and turns nothing that was there. -/
structure RetB (w : World) (l : List UInt8) (e : Ending) (w' : World) : Prop where
  out : ∃ A c, e = .returned (.slice A l.length c) ∧ l.length ≤ c ∧ c ≤ 9223372036854775807 ∧ Seg w' A (bvs l) ∧ Below w.heap.size w w'
theorem RetB.mk' {w : World} {l : List UInt8} {A : Option Addr} {n c : Nat} {w' : World} (hn : n = l.length) (hc : n ≤ c) (hc2 : c ≤ 9223372036854775807) (hs : Seg w' A (bvs l)) (hb : Below w.heap.size w w') : RetB w l (.returned (.slice A n c)) w' := by
  subst hn
  exact ⟨A, c, rfl, hc, hc2, hs, hb⟩
theorem RetB.of_own {w w' : World} {l : List UInt8} {base : Nat} {e : TypeId} {v : Value} {n : Nat} (h : w'.ownsRow base e 1 v n (bvs l)) (hb : Below w.heap.size w w') : RetB w l (.returned v) w' := by
  obtain ⟨A, c, rfl, hc, hm, hs, _⟩ := own_seg h
  have := h.1
  rw [bvs_length] at this
  exact RetB.mk' (by omega) hc hm hs hb

/-- The same, and what is handed back lies in no block that was there. -/
def Fresh (w : World) (A : Option Addr) : Prop := ∀ a, A = some a → w.heap.size ≤ a.block
theorem Fresh.mono {w w1 : World} {A : Option Addr} (h : Fresh w1 A) (hb : Below w.heap.size w w1) : Fresh w A := fun a ha => Nat.le_trans hb.size (h a ha)
theorem Fresh.new (w : World) (o : Nat) : Fresh w (some ⟨w.heap.size, o, none⟩) := fun a h => by cases h; exact Nat.le_refl _
theorem Fresh.none (w : World) : Fresh w none := fun a h => by cases h
structure RetF (w : World) (l : List UInt8) (e : Ending) (w' : World) : Prop where
  out : ∃ A c, e = .returned (.slice A l.length c) ∧ l.length ≤ c ∧ c ≤ 9223372036854775807 ∧ Seg w' A (bvs l) ∧ Below w.heap.size w w' ∧ Fresh w A
theorem RetF.b {w : World} {l : List UInt8} {e : Ending} {w' : World} (h : RetF w l e w') : RetB w l e w' := by
  obtain ⟨A, c, h1, h2, h3, h4, h5, _⟩ := h
  exact ⟨A, c, h1, h2, h3, h4, h5⟩
theorem RetF.mk' {w : World} {l : List UInt8} {A : Option Addr} {n c : Nat} {w' : World} (hn : n = l.length) (hc : n ≤ c) (hc2 : c ≤ 9223372036854775807) (hs : Seg w' A (bvs l)) (hb : Below w.heap.size w w') (hf : Fresh w A) : RetF w l (.returned (.slice A n c)) w' := by
  subst hn
  exact ⟨A, c, rfl, hc, hc2, hs, hb, hf⟩
theorem RetF.of_own {w w' : World} {l : List UInt8} {base : Nat} {e : TypeId} {v : Value} {n : Nat} (h : w'.ownsRow base e 1 v n (bvs l)) (hb : Below w.heap.size w w') (hbase : w.heap.size ≤ base) : RetF w l (.returned v) w' := by
  have hg : ∀ k, v.ownBlock = some k → base ≤ k := fun k hk => (h.lt k hk).1
  obtain ⟨A, c, rfl, hc, hm, hs, _⟩ := own_seg h
  have := h.1
  rw [bvs_length] at this
  exact RetF.mk' (by omega) hc hm hs hb (fun a ha => by subst ha; exact Nat.le_trans hbase (hg a.block rfl))

theorem own_cast {w : World} {base : Nat} {e : TypeId} {size : Nat} {v : Value} {n n' : Nat} {xs xs' : List Value} (h : w.ownsRow base e size v n xs) (hn : n = n') (hx : xs = xs') : w.ownsRow base e size v n' xs' := by subst hn hx; exact h
theorem own_ge {w : World} {base : Nat} {e : TypeId} {size : Nat} {v : Value} {n : Nat} {xs : List Value} (h : w.ownsRow base e size v n xs) : ∀ k, v.ownBlock = some k → base ≤ k := fun k hk => (h.lt k hk).1
theorem own_lit (w : World) (base : Nat) (e : TypeId) (cs : List Value) (size n : Nat) (hb : base ≤ w.heap.size) (hn : n ≤ maxLen) (hl : cs.length = n * size) :
    (w.alloc (.cells cs.toArray e)).ownsRow base e size (.slice (some ⟨w.heap.size, 0, none⟩) n n) n cs := by
  have h := World.ownsRow_lit (base := base) (e := e) (size := size) w cs.toArray n hb hn (by simpa using hl)
  simpa using h
theorem own_below {w w' : World} {base : Nat} {e : TypeId} {size : Nat} {v : Value} {n : Nat} {xs : List Value} (h : w.ownsRow base e size v n xs) (hb : Below w.heap.size w w') : w'.ownsRow base e size v n xs :=
  h.kept (row := none) ⟨hb.os, hb.tape, hb.output, hb.size, fun k hk _ => hb.block k hk⟩ (by cases v.ownBlock <;> simp)

/-- Elements of 'sz' cells each, read from an address on. -/
structure Arr {α : Type} (E : World → List Value → α → Prop) (sz : Nat) (w : World) (A : Option Addr) (l : List α) : Prop where
  out : ∃ cs, Seg w A cs ∧ cs.length = l.length * sz ∧ ∀ i x, l[i]? = some x → E w ((cs.drop (i * sz)).take sz) x
/-- What is said of an element's cells is said in every later world, too. -/
def Stays {α : Type} (E : World → List Value → α → Prop) : Prop := ∀ w w' cs x, Below w.heap.size w w' → E w cs x → E w' cs x
theorem Arr.below {α : Type} {E : World → List Value → α → Prop} {sz : Nat} {w w' : World} {A : Option Addr} {l : List α} (h : Arr E sz w A l) (hE : Stays E) (hb : Below w.heap.size w w') : Arr E sz w' A l := by
  obtain ⟨cs, hs, hl, he⟩ := h.out
  exact ⟨cs, hs.below hb, hl, fun i x hx => hE _ _ _ _ hb (he i x hx)⟩
theorem Arr.get {α : Type} {E : World → List Value → α → Prop} {sz : Nat} {w : World} {A : Option Addr} {l : List α} (h : Arr E sz w A l) (hsz : 0 < sz) {i : Nat} {x : α} (hx : l[i]? = some x) :
    ∃ b o C, A = some ⟨b, o, none⟩ ∧ C.length = sz ∧ E w C x ∧ ∀ j u, C[j]? = some u → w.cell? ⟨b, o + i * sz + j, none⟩ = some u := by
  obtain ⟨cs, hs, hl, he⟩ := h.out
  have hi : i < l.length := by
    rcases Nat.lt_or_ge i l.length with h | h
    · exact h
    · simp [List.getElem?_eq_none h] at hx
  have hle : i * sz + sz ≤ cs.length := by
    rw [hl, ← Nat.succ_mul]
    exact Nat.mul_le_mul_right _ hi
  have hne : cs ≠ [] := fun e => by
    rw [e] at hle
    simp at hle
    omega
  obtain ⟨b, o, rfl⟩ := hs.addr hne
  refine ⟨b, o, (cs.drop (i * sz)).take sz, rfl, by simp; omega, he i x hx, fun j u hu => ?_⟩
  rw [List.getElem?_take] at hu
  split at hu
  · rw [List.getElem?_drop] at hu
    have := hs.cell hu
    rwa [← Nat.add_assoc] at this
  · cases hu
theorem Arr.nil {α : Type} (E : World → List Value → α → Prop) (sz : Nat) (w : World) (A : Option Addr) : Arr E sz w A [] := ⟨[], Seg.nil _ _, by simp, fun i x hx => by simp at hx⟩
/-- A row of one's own of such elements. -/
structure OwnArr {α : Type} (E : World → List Value → α → Prop) (sz : Nat) (base : Nat) (e : TypeId) (w : World) (v : Value) (l : List α) : Prop where
  out : ∃ xs, w.ownsRow base e sz v l.length xs ∧ ∀ i x, l[i]? = some x → E w ((xs.drop (i * sz)).take sz) x
theorem OwnArr.nil {α : Type} (E : World → List Value → α → Prop) (sz base : Nat) (e : TypeId) (w : World) : OwnArr E sz base e w (.slice none 0 0) [] := ⟨[], World.ownsRow_nil _ _ _ _, fun i x hx => by simp at hx⟩
theorem OwnArr.arr {α : Type} {E : World → List Value → α → Prop} {sz base : Nat} {e : TypeId} {w : World} {v : Value} {l : List α} (h : OwnArr E sz base e w v l) :
    ∃ A c, v = .slice A l.length c ∧ l.length ≤ c ∧ c ≤ maxLen ∧ Arr E sz w A l ∧ (A = none → l.length = 0 ∧ c = 0) := by
  obtain ⟨xs, ho, he⟩ := h.out
  obtain ⟨A, c, rfl, hc, hm, hs, hn⟩ := own_seg ho
  exact ⟨A, c, rfl, hc, hm, ⟨xs, hs, ho.1, he⟩, hn⟩
theorem OwnArr.kept {α : Type} {E : World → List Value → α → Prop} {sz base : Nat} {e : TypeId} {w w' : World} {v : Value} {l : List α} (h : OwnArr E sz base e w v l) (hE : Stays E) (hb : Below w.heap.size w w') : OwnArr E sz base e w' v l := by
  obtain ⟨xs, ho, he⟩ := h.out
  exact ⟨xs, own_below ho hb, fun i x hx => hE _ _ _ _ hb (he i x hx)⟩

/-- An element that is a slice of bytes. -/
def BytesE (w : World) (cs : List Value) (x : List UInt8) : Prop := ∃ A c, cs = [.slice A x.length c] ∧ x.length ≤ c ∧ Seg w A (bvs x)
theorem BytesE.stays : Stays BytesE := fun w w' cs x hb ⟨A, c, h1, h2, h3⟩ => ⟨A, c, h1, h2, h3.below hb⟩

/-- 'append' onto a row of one's own of whatever can be read, nil let in. -/
theorem wl_append {P : Program} {ops : Array Oper} {rest : List Oper} {o : Oper} {a : Act} {Q : Exit → Act → World → Prop} {w : World}
    (w0 : World) (e : TypeId) (size bytes : Nat) (s x : Operand) (t : TypeId) (z : Value)
    (hgd : o.guard = none) (ho : o.op = .call { callee := .builtin .append, args := #[s, x], argTypes := #[t, t] })
    (ht : P.underlying t = some (.slice e)) (hinfo : (P.info? e).map (fun i => (i.zero, i.size, i.bytes)) = some (some z, size, bytes)) (hz : z.cells.size = size) (hsz : 0 < size) (hb0 : 0 < bytes)
    {v : Value} {n m c : Nat} {A : Option Addr} {xs news : List Value} (hs : a.eval s = v) (hx : a.eval x = .slice A m c)
    (own : w.ownsRow w0.heap.size e size v n xs) (src : Seg w A news) (hl : news.length = m * size) (h1 : ∀ u ∈ news, u.oneCell' = true)
    (hbytes : (n + m) * bytes ≤ 140737488355328) (hB : Below w0.heap.size w0 w)
    (h : ∀ v' w', w'.ownsRow w0.heap.size e size v' (n + m) (xs ++ news) → Below w0.heap.size w0 w' → w.grownBy w' v.ownBlock → (v'.ownBlock = v.ownBlock ∨ v'.ownBlock = some w.heap.size) → wpList P ops Q rest (a.put o.dst v') w') :
    wpList P ops Q (o :: rest) a w := by
  obtain ⟨i0, hi, hz0, hz1, hz2⟩ := info_parts hinfo
  have hlen : n + m ≤ 140737488355328 := Nat.le_trans (Nat.le_mul_of_pos_right _ hb0) hbytes
  have hrun : ∃ v1 w1, (Builtin.append_ #[t, t] o.type #[v, .slice A m c]).run P w = .ok v1 w1 ∧ w1.ownsRow w0.heap.size e size v1 (n + m) (xs ++ news) ∧ w.grownBy w1 v.ownBlock ∧ (v1.ownBlock = v.ownBlock ∨ v1.ownBlock = some w.heap.size) := by
    rcases A with _ | ad
    · have h0 : news = [] := by
        by_cases hne : news = []
        · exact hne
        · obtain ⟨_, _, he, _⟩ := src.out hne
          cases he
      subst h0
      have hm : m = 0 := by
        rcases Nat.eq_zero_or_pos m with h | h
        · exact h
        · have := Nat.mul_pos h hsz
          simp at hl
          omega
      subst hm
      refine ⟨v, w, ?_, by simpa using own, ⟨rfl, rfl, rfl, Nat.le_refl _, fun _ _ _ => rfl⟩, .inl rfl⟩
      rcases own.2 with ⟨rfl, hn⟩ | ⟨g, cap, cur, rfl, _, _, hnc, _⟩
      · simp [Builtin.append_, run_underlying ht, sizeOf, typeInfo, hi, Builtin.lenOf, Builtin.firstCells, storeCells, hn]
      · simp [Builtin.append_, run_underlying ht, sizeOf, typeInfo, hi, Builtin.lenOf, Builtin.firstCells, hnc, storeCells]
    · by_cases hne : news = []
      · subst hne
        have hm : m = 0 := by
          rcases Nat.eq_zero_or_pos m with h | h
          · exact h
          · have := Nat.mul_pos h hsz
            simp at hl
            omega
        obtain ⟨v1, w1, hr, h2, h3, _, h5⟩ := run_append_own_at (P := P) w w0.heap.size t o.type e i0 z size bytes ht hi hz0 hz1 hz2 hz hsz v n xs own ad m c [] (by simp [hm]) (by intro j u hu; simp at hu) (by intro u hu; cases hu) (by simp only [maxLen]; omega) hbytes hB.size
        exact ⟨v1, w1, hr, h2, h3, h5⟩
      · obtain ⟨b, oo, he⟩ := src.addr hne
        cases he
        obtain ⟨v1, w1, hr, h2, h3, _, h5⟩ := run_append_own_at (P := P) w w0.heap.size t o.type e i0 z size bytes ht hi hz0 hz1 hz2 hz hsz v n xs own _ m c news hl src.news h1 (by simp only [maxLen]; omega) hbytes hB.size
        exact ⟨v1, w1, hr, h2, h3, h5⟩
  obtain ⟨v1, w1, hr, hown, hg, hat⟩ := hrun
  refine wpList_plain hgd fun K hK => ?_
  unfold Oper.wp execOp
  simp only [ho, resolve, invoke, builtin, Sem.run_bind, Sem.run_pure, Result.andThen_ok, List.map_toArray, List.map_cons, List.map_nil, hs, hx, hr]
  exact hK _ _ (h v1 w1 hown (hB.grown hg hB.size (own_ge own)) hg hat)
/-- 's[j:]' of a slice of bytes, wherever j stands. -/
theorem cut_from (t e : TypeId) {i : TypeInfo} {P : Program} (ht : P.underlying t = some (.slice e)) (hi : P.info? e = some i) (A : Option Addr) (n c : Nat) (j : Int) (h0 : 0 ≤ j) (hj : j ≤ n) :
    ∃ A' : Option Addr, (∀ W : World, (Instr.slice t (.slice A n c) (some (.int .i64 j)) none none).run P W = .ok (.slice A' (n - j.toNat) (c - j.toNat)) W) ∧
      (∀ b o, A = some ⟨b, o, none⟩ → j.toNat < c → A' = some ⟨b, o + j.toNat * i.size, none⟩) ∧ (j.toNat = c → A' = A) ∧ (A = none → A' = none) := by
  refine ⟨if c = j.toNat then A else A.map (·.add (j.toNat * i.size)), fun W => ?_, fun b o h hlt => ?_, fun h => ?_, fun h => ?_⟩
  · have hel : P.elem t = e := by simp [Program.elem, ht]
    have hu : P.underlying t = some (.slice (P.elem t)) := by rw [hel]; exact ht
    rw [run_slice_l W t A n c hu .i64 j h0 hj, hel]
    simp [sizeOf, typeInfo, hi, sliced, Result.andThen]
  · subst h
    rw [if_neg (by omega)]
    simp [add_flat]
  · rw [if_pos h.symm]
  · subst h
    split <;> rfl
/-- 's[j:k]' likewise. -/
theorem cut_mid (t e : TypeId) {i : TypeInfo} {P : Program} (ht : P.underlying t = some (.slice e)) (hi : P.info? e = some i) (A : Option Addr) (n c : Nat) (j k : Int) (h0 : 0 ≤ j) (hj : j ≤ k) (hk : k ≤ c) :
    ∃ A' : Option Addr, (∀ W : World, (Instr.slice t (.slice A n c) (some (.int .i64 j)) (some (.int .i64 k)) none).run P W = .ok (.slice A' (k.toNat - j.toNat) (c - j.toNat)) W) ∧
      (∀ b o, A = some ⟨b, o, none⟩ → j.toNat < c → A' = some ⟨b, o + j.toNat * i.size, none⟩) ∧ (j.toNat = c → A' = A) ∧ (A = none → A' = none) := by
  refine ⟨if c = j.toNat then A else A.map (·.add (j.toNat * i.size)), fun W => ?_, fun b o h hlt => ?_, fun h => ?_, fun h => ?_⟩
  · have hel : P.elem t = e := by simp [Program.elem, ht]
    have hu : P.underlying t = some (.slice (P.elem t)) := by rw [hel]; exact ht
    rw [run_slice_lh W t A n c hu .i64 .i64 j k h0 hj hk, hel]
    simp [sizeOf, typeInfo, hi, sliced, Result.andThen]
  · subst h
    rw [if_neg (by omega)]
    simp [add_flat]
  · rw [if_pos h.symm]
  · subst h
    split <;> rfl
theorem infoU8 {P : Program} {e : TypeId} {z : Value} {s k : Nat} (h : (P.info? e).map (fun i => (i.zero, i.size, i.bytes)) = some (some z, s, k)) : ∃ i, P.info? e = some i ∧ i.size = s := by
  obtain ⟨i, hi, _, h2, _⟩ := info_parts h
  exact ⟨i, hi, h2⟩
theorem seg_from {w : World} {A A' : Option Addr} {cs : List Value} {n c m sz : Nat} (h : Seg w A cs) (hl : cs.length = n * sz) (hn : n ≤ c) (h1 : ∀ b o, A = some ⟨b, o, none⟩ → m < c → A' = some ⟨b, o + m * sz, none⟩) (hm : m ≤ n) : Seg w A' (cs.drop (m * sz)) := by
  refine ⟨fun hne => ?_⟩
  have hlt : m * sz < cs.length := by
    rcases Nat.lt_or_ge (m * sz) cs.length with h | h
    · exact h
    · exact absurd (List.drop_eq_nil_of_le h) hne
  have hmn : m < n := by
    rcases Nat.lt_or_ge m n with h | h
    · exact h
    · have := Nat.mul_le_mul_right sz h
      omega
  obtain ⟨b, o, rfl⟩ := h.addr (fun e => by simp [e] at hlt)
  rw [h1 b o rfl (by omega)]
  exact (h.drop (m * sz)).out hne


/-- A struct or an array that is written out, its run being known. -/
theorem wl_build {P : Program} {ops : Array Oper} {rest : List Oper} {o : Oper} {a : Act} {Q : Exit → Act → World → Prop} {w : World} (hgd : o.guard = none) (T : TypeId) {parts : Array (Nat × Operand)} (ho : o.op = .build T parts) (v : Value)
    (hrun : ∀ w : World, (execOp a.eval o).run P w = .ok (.value v) w) (h : wpList P ops Q rest (a.put o.dst v) w) : wpList P ops Q (o :: rest) a w :=
  wpList_plain hgd fun K hK => by
    unfold Oper.wp
    rw [hrun w]
    exact hK _ _ h

/-- 'append' of elements that are written out: they lie in the block that was just made. -/
theorem wl_append_lit {P : Program} {ops : Array Oper} {rest : List Oper} {o : Oper} {a : Act} {Q : Exit → Act → World → Prop} {W : World}
    (w0 : World) (e : TypeId) (size bytes : Nat) (s x : Operand) (t : TypeId) (z : Value)
    (hgd : o.guard = none) (ho : o.op = .call { callee := .builtin .append, args := #[s, x], argTypes := #[t, t] })
    (ht : P.underlying t = some (.slice e)) (hinfo : (P.info? e).map (fun i => (i.zero, i.size, i.bytes)) = some (some z, size, bytes)) (hz : z.cells.size = size) (hsz : 0 < size) (hb0 : 0 < bytes)
    {v : Value} {n : Nat} (m : Nat) {xs : List Value} {C : Array Value} (hs : a.eval s = v) (hx : a.eval x = .slice (some ⟨W.heap.size, 0, none⟩) m m)
    (own : W.ownsRow w0.heap.size e size v n xs) (hl : C.size = m * size) (h1 : ∀ u ∈ C.toList, u.oneCell' = true)
    (hbytes : (n + m) * bytes ≤ 140737488355328) (hB : Below w0.heap.size w0 W)
    (h : ∀ v' w', w'.ownsRow w0.heap.size e size v' (n + m) (xs ++ C.toList) → Below w0.heap.size w0 w' → W.grownBy w' v.ownBlock → (v'.ownBlock = v.ownBlock ∨ ∃ k, v'.ownBlock = some k ∧ W.heap.size ≤ k) → wpList P ops Q rest (a.put o.dst v') w') :
    wpList P ops Q (o :: rest) a (W.alloc (.cells C e)) := by
  refine wl_append w0 e size bytes s x t z hgd ho ht hinfo hz hsz hb0 hs hx (own_below own (alloc_ext _ _)) (Seg.of_block (heap_alloc_new W _) (cs := C.toList) fun j u hu => by simpa using hu) (by simpa using hl) h1 hbytes (ext_trans hB (alloc_ext _ _)) ?_
  intro v' w' h1 h2 h3 h4
  refine h v' w' h1 h2 (World.grownBy.trans (World.grownBy_alloc W _ _) h3) ?_
  rcases h4 with h4 | h4
  · exact .inl h4
  · exact .inr ⟨_, h4, by simp⟩

/-- 'copy' into a row that is known whole, out of whatever can be read. -/
theorem wl_copy {P : Program} {w : World} {ops : Array Oper} {rest : List Oper} {o : Oper} {a : Act} {Q : Exit → Act → World → Prop} (hgd : o.guard = none) (d s : Operand) (dT sT elem : TypeId)
    (ho : o.op = .call { callee := .builtin .copy, args := #[d, s], argTypes := #[dT, sT] }) (hu : P.underlying dT = some (.slice elem)) (hsz : (P.info? elem).map (·.size) = some 1)
    {dp sp : Option Addr} {dLen dCap sLen sCap : Nat} (hd : a.eval d = .slice dp dLen dCap) (hs : a.eval s = .slice sp sLen sCap)
    (g off : Nat) {cur : List Value} {t : TypeId} (hg : w.heap[g]? = some (.cells cur.toArray t (0, 0))) {cs : List Value} (hn : cs.length = min sLen dLen)
    (hdp : cs ≠ [] → dp = some ⟨g, off, none⟩) (src : Seg w sp cs) (hfit : off + cs.length ≤ cur.length) (h1 : ∀ v ∈ cs, v.oneCell' = true) {w0 : World} (hb : Below w0.heap.size w0 w) (hBg : w0.heap.size ≤ g)
    (h : ∀ w', Hid (w'.heap[g]? = some (.cells (splice cur off cs).toArray t (0, 0))) → Below w0.heap.size w0 w' → wpList P ops Q rest (a.put o.dst (.int .i64 cs.length)) w') :
    wpList P ops Q (o :: rest) a w :=
  wpList_copy_splice hgd d s dT sT ho elem hu hsz dp sp dLen dCap sLen sCap hd hs g off cur t hg cs hn
    (fun hp => by
      have hne : cs ≠ [] := fun e => by rw [e] at hp; simp at hp
      refine ⟨hdp hne, ?_⟩
      obtain ⟨b, o', rfl⟩ := src.addr hne
      exact ⟨_, rfl, src.news⟩) hfit h1 w0.heap.size w0 hb hBg h
theorem st_copy {P : Program} {ops : Array Oper} {o : Oper} {a : Act} {w : World} {K : Act → World → Prop} {Q : Exit → Act → World → Prop} {E : Prop} (hgd : o.guard = none) (d s : Operand) (dT sT elem : TypeId)
    (ho : o.op = .call { callee := .builtin .copy, args := #[d, s], argTypes := #[dT, sT] }) (hu : P.underlying dT = some (.slice elem)) (hsz : (P.info? elem).map (·.size) = some 1)
    {dp sp : Option Addr} {dLen dCap sLen sCap : Nat} (hd : a.eval d = .slice dp dLen dCap) (hs : a.eval s = .slice sp sLen sCap)
    (g off : Nat) {cur : List Value} {t : TypeId} (hg : w.heap[g]? = some (.cells cur.toArray t (0, 0))) {cs : List Value} (hn : cs.length = min sLen dLen)
    (hdp : cs ≠ [] → dp = some ⟨g, off, none⟩) (src : Seg w sp cs) (hfit : off + cs.length ≤ cur.length) (h1 : ∀ v ∈ cs, v.oneCell' = true) {w0 : World} (hb : Below w0.heap.size w0 w) (hBg : w0.heap.size ≤ g)
    (h : ∀ w', Hid (w'.heap[g]? = some (.cells (splice cur off cs).toArray t (0, 0))) → Below w0.heap.size w0 w' → K (a.put o.dst (.int .i64 cs.length)) w') :
    if Region.wanted o (yielded ops a.tmps) = true then Oper.wp P o a w K Q else E :=
  step_copy_splice hgd d s dT sT ho elem hu hsz dp sp dLen dCap sLen sCap hd hs g off cur t hg cs hn
    (fun hp => by
      have hne : cs ≠ [] := fun e => by rw [e] at hp; simp at hp
      refine ⟨hdp hne, ?_⟩
      obtain ⟨b, o', rfl⟩ := src.addr hne
      exact ⟨_, rfl, src.news⟩) hfit h1 w0.heap.size w0 hb hBg h

theorem Seg.grown {w w' : World} {A : Option Addr} {cs : List Value} {row : Option Nat} (h : Seg w A cs) (hg : w.grownBy w' row) (hne : ∀ a, A = some a → some a.block ≠ row) : Seg w' A cs := by
  refine ⟨fun hc => ?_⟩
  obtain ⟨b, o, rfl, C, T, fr, hh, hcs⟩ := h.out hc
  exact ⟨b, o, rfl, C, T, fr, (hg.block b (Array.getElem?_eq_some_iff.1 hh).1 (hne _ rfl)).trans hh, hcs⟩
theorem gb_trans {a w w' : World} {row : Option Nat} (h : a.grownBy w row) (k : w.grownBy w' row) : a.grownBy w' row :=
  ⟨k.os.trans h.os, k.tape.trans h.tape, k.output.trans h.output, Nat.le_trans h.size k.size, fun i hi hne => (k.block i (Nat.lt_of_lt_of_le hi h.size) hne).trans (h.block i hi hne)⟩
theorem gb_refl (w : World) (row : Option Nat) : w.grownBy w row := ⟨rfl, rfl, rfl, Nat.le_refl _, fun _ _ _ => rfl⟩
theorem gb_below {a w w' : World} {row : Option Nat} (h : a.grownBy w row) (hb : Below w.heap.size w w') : a.grownBy w' row :=
  gb_trans h ⟨hb.os, hb.tape, hb.output, hb.size, fun i hi _ => hb.block i hi⟩
end Go.Proofs.YtbjnpomcgcbflaaDoor

/- Plain laws: entries of which each bears the sum of the one ahead. -/
import Derived.Test.YtbjnpomcgcbflaaDoorP7
import Derived.Test.YtbjnpomcgcbflaaDoorS8
import Derived.Test.YtbjnpomcgcbflaaDoorFac
set_option linter.unusedVariables false
set_option linter.unusedSimpArgs false
namespace Go.Proofs.YtbjnpomcgcbflaaDoor

/-- An entry. -/
structure Ent where
  no : Int
  time : Int
  code : Int
  who : ByteArray
  what : ByteArray
  prev : List UInt8
  hash : List UInt8
  deriving DecidableEq


def I64 (n : Int) : Prop := -9223372036854775808 ≤ n ∧ n ≤ 9223372036854775807
structure Ent.Fits (e : Ent) : Prop where
  no : I64 e.no
  time : I64 e.time
  code : I64 e.code
def zeroB : List UInt8 := List.replicate 32 0
def saidB (e : Ent) : List (List UInt8) := [wideB e.no, wideB e.time, wideB e.code, baL e.who, baL e.what, e.prev]
def bodyB (e : Ent) : List UInt8 := encB (saidB e)
def bytesB (e : Ent) : List UInt8 := encB (saidB e ++ [e.hash])
def headB (l : List Ent) : List UInt8 := match l.getLast? with
  | none => zeroB
  | some e => e.hash
/-- The entry behind some. -/
def nextB (l : List Ent) (time code : Int) (who what : ByteArray) : Ent :=
  { no := l.length, time, code, who, what, prev := headB l, hash := shaOut (encB [wideB l.length, wideB time, wideB code, baL who, baL what, headB l]) }
def rightB (e : Ent) (no : Nat) (prev : List UInt8) : Bool := e.no == no && (e.prev == prev && e.hash == shaOut (bodyB e))
/-- How many are right, from a place on behind a sum, and what the last one bears. -/
def verFrom (no : Nat) (prev : List UInt8) : List Ent → Nat × Bool × List UInt8
  | [] => (no, true, prev)
  | e :: l => if rightB e no prev then verFrom (no + 1) e.hash l else (no, false, prev)
def verB (l : List Ent) (head : List UInt8) : Nat × Bool := match verFrom 0 zeroB l with
  | (n, true, p) => (n, p == head)
  | (n, false, _) => (n, false)
/-- The entry of bytes. -/
def readB (b : List UInt8) : Option Ent := match decB b with
  | some [n, t, c, w, x, p, h] => if n.length = 8 ∧ t.length = 8 ∧ c.length = 8 then some { no := narB n, time := narB t, code := narB c, who := ⟨w.toArray⟩, what := ⟨x.toArray⟩, prev := p, hash := h } else none
  | _ => none

/-- The same, seen from the last one on. -/
def Good : List Ent → List UInt8 → Prop
  | [], h => h = zeroB
  | e :: l, h => e.no = l.length ∧ e.hash = h ∧ e.hash = shaOut (bodyB e) ∧ Good l e.prev
def clashR : List Ent → List Ent → Bool
  | x :: xs, y :: ys => if bodyB x ≠ bodyB y then x.hash == y.hash else clashR xs ys
  | _, _ => false
def clashB (a b : List Ent) : Bool := clashR a.reverse b.reverse

theorem verFrom_snoc (e : Ent) : ∀ (l : List Ent) (no : Nat) (p : List UInt8), verFrom no p (l ++ [e]) = match verFrom no p l with
    | (n, true, q) => if rightB e n q then (n + 1, true, e.hash) else (n, false, q)
    | (n, false, q) => (n, false, q)
  | [], no, p => by simp [verFrom]
  | x :: l, no, p => by
    simp only [List.cons_append, verFrom]
    split
    · exact verFrom_snoc e l _ _
    · rfl
theorem verFrom_num : ∀ (l : List Ent) (no : Nat) (p : List UInt8), (verFrom no p l).2.1 = true → (verFrom no p l).1 = no + l.length
  | [], no, p => by simp [verFrom]
  | e :: l, no, p => by
    rw [verFrom]
    split
    · intro h
      rw [verFrom_num l _ _ h]
      simp
      omega
    · simp
theorem verFrom_good : ∀ (r : List Ent) (p : List UInt8), (∃ n, verFrom 0 zeroB r.reverse = (n, true, p)) ↔ Good r p
  | [], p => by simp [verFrom, Good, eq_comm]
  | e :: r, p => by
    rw [List.reverse_cons, verFrom_snoc]
    obtain ⟨n, b, q, hq⟩ : ∃ n b q, verFrom 0 zeroB r.reverse = (n, b, q) := ⟨_, _, _, rfl⟩
    have hn : b = true → n = r.length := fun hb => by
      have := verFrom_num r.reverse 0 zeroB
      rw [hq, hb] at this
      simpa using this rfl
    have ih := verFrom_good r e.prev
    rw [hq] at ih ⊢
    cases b with
    | false =>
      simp only [Prod.mk.injEq, Bool.false_eq_true, false_and, and_false, exists_false, false_iff, Good] at ih ⊢
      exact fun h => ih h.2.2.2
    | true =>
      have hn := hn rfl
      simp only [Good, ← ih]
      by_cases hr : rightB e n q = true
      · simp only [hr, if_true, Prod.mk.injEq, true_and]
        simp only [rightB, Bool.and_eq_true, beq_iff_eq] at hr
        obtain ⟨h1, h2, h3⟩ := hr
        subst hn
        exact ⟨fun ⟨_, _, h⟩ => ⟨h1, h, h3, _, rfl, h2.symm⟩, fun ⟨_, h, _⟩ => ⟨_, rfl, h⟩⟩
      · simp only [hr, Bool.false_eq_true, if_false, Prod.mk.injEq, false_and, and_false, exists_false, false_iff]
        intro ⟨h1, h2, h3, m, hm, h4⟩
        apply hr
        subst hn
        simp [rightB, h1, h3, h4]
theorem verB_good (l : List Ent) (h : List UInt8) : (verB l h).2 = true ↔ Good l.reverse h := by
  rw [← verFrom_good l.reverse h, List.reverse_reverse]
  unfold verB
  rcases verFrom 0 zeroB l with ⟨n, _ | _, p⟩ <;> simp
theorem verB_len {l : List Ent} {h : List UInt8} (hg : (verB l h).2 = true) : (verB l h).1 = l.length := by
  have hv := verFrom_num l 0 zeroB
  unfold verB at hg ⊢
  rcases hq : verFrom 0 zeroB l with ⟨n, _ | _, p⟩
  · simp [hq] at hg
  · rw [hq] at hv
    simpa using hv rfl

theorem bodyB_inj {x y : Ent} (hx : x.Fits) (hy : y.Fits) (h : bodyB x = bodyB y) : x.no = y.no ∧ x.time = y.time ∧ x.code = y.code ∧ x.who = y.who ∧ x.what = y.what ∧ x.prev = y.prev := by
  have := encB_inj h
  simp only [saidB, List.cons.injEq, and_true] at this
  obtain ⟨h1, h2, h3, h4, h5, h6⟩ := this
  exact ⟨wideB_inj hx.no.1 hx.no.2 hy.no.1 hy.no.2 h1, wideB_inj hx.time.1 hx.time.2 hy.time.1 hy.time.2 h2, wideB_inj hx.code.1 hx.code.2 hy.code.1 hy.code.2 h3, baL_inj h4, baL_inj h5, h6⟩
theorem entExt {x y : Ent} (h1 : x.no = y.no) (h2 : x.time = y.time) (h3 : x.code = y.code) (h4 : x.who = y.who) (h5 : x.what = y.what) (h6 : x.prev = y.prev) (h7 : x.hash = y.hash) : x = y := by
  cases x
  cases y
  exact (Ent.mk.injEq ..).mpr ⟨h1, h2, h3, h4, h5, h6, h7⟩
/-- Two chains with one head are the same, or two bodies have one sum; if the one is not empty where the other one is not. -/
theorem clash_or : ∀ (a b : List Ent) (h : List UInt8), (∀ e ∈ a, e.Fits) → (∀ e ∈ b, e.Fits) → Good a h → Good b h → a ≠ [] → b ≠ [] → clashR a b = true ∨ a = b
  | [], _, _, _, _, _, _, h, _ => absurd rfl h
  | _, [], _, _, _, _, _, _, h => absurd rfl h
  | x :: xs, y :: ys, h, fx, fy, ⟨n1, h1, s1, g1⟩, ⟨n2, h2, s2, g2⟩, _, _ => by
    by_cases hb : bodyB x = bodyB y
    · obtain ⟨e1, e2, e3, e4, e5, e6⟩ := bodyB_inj (fx x (by simp)) (fy y (by simp)) hb
      have hxy : x = y := entExt e1 e2 e3 e4 e5 e6 (h1.trans h2.symm)
      subst hxy
      have hl : xs.length = ys.length := by omega
      by_cases hxs : xs = []
      · subst hxs
        have : ys = [] := List.eq_nil_of_length_eq_zero (by simpa using hl.symm)
        subst this
        exact .inr rfl
      · have hys : ys ≠ [] := fun e => hxs (List.eq_nil_of_length_eq_zero (by rw [hl, e]; rfl))
        rcases clash_or xs ys x.prev (fun e he => fx e (by simp [he])) (fun e he => fy e (by simp [he])) g1 g2 hxs hys with h' | h'
        · left
          rw [clashR, if_neg (fun h => h rfl)]
          exact h'
        · right; rw [h']
    · left
      rw [clashR, if_pos hb, h1, h2]
      exact beq_self_eq_true h

theorem nextB_right (l : List Ent) (time code : Int) (who what : ByteArray) (h : List UInt8) (hg : Good l.reverse (headB l)) : Good (l ++ [nextB l time code who what]).reverse (nextB l time code who what).hash := by
  rw [List.reverse_append]
  exact ⟨by simp [nextB], rfl, rfl, hg⟩
theorem headB_nil : headB [] = zeroB := rfl
theorem headB_snoc (l : List Ent) (e : Ent) : headB (l ++ [e]) = e.hash := by simp [headB]

/-- What some calls say, one behind the other, as entries. -/
structure Say where
  time : Int
  code : Int
  who : ByteArray
  what : ByteArray
def chainB : List Ent → List Say → List Ent
  | c, [] => c
  | c, s :: l => chainB (c ++ [nextB c s.time s.code s.who s.what]) l
theorem chainB_append (c : List Ent) (l m : List Say) : chainB c (l ++ m) = chainB (chainB c l) m := by
  induction l generalizing c with
  | nil => rfl
  | cons s l ih => simp [chainB, ih]
theorem chainB_good : ∀ (l : List Say) (c : List Ent), Good c.reverse (headB c) → Good (chainB c l).reverse (headB (chainB c l))
  | [], _, h => h
  | s :: l, c, h => chainB_good l _ (by rw [headB_snoc]; exact nextB_right c _ _ _ _ [] h)
theorem chainB_length (l : List Say) : ∀ c, (chainB c l).length = c.length + l.length := by
  induction l with
  | nil => simp [chainB]
  | cons s l ih => intro c; simp [chainB, ih]; omega
theorem chainB_keeps (l : List Say) : ∀ (c : List Ent) (i : Nat), i < c.length → (chainB c l)[i]? = c[i]? := by
  induction l with
  | nil => simp [chainB]
  | cons s l ih =>
    intro c i hi
    rw [chainB, ih _ _ (by simp; omega), List.getElem?_append_left hi]
theorem chainB_take (l : List Say) (k : Nat) (hk : k ≤ l.length) : (chainB [] l).take k = chainB [] (l.take k) := by
  have e : chainB [] l = chainB (chainB [] (l.take k)) (l.drop k) := by rw [← chainB_append, List.take_append_drop]
  have hl : (chainB [] (l.take k)).length = k := by rw [chainB_length]; simp; omega
  apply List.ext_getElem?
  intro i
  rw [List.getElem?_take]
  by_cases hi : i < k
  · rw [if_pos hi, e, chainB_keeps _ _ _ (by omega)]
  · rw [if_neg hi, List.getElem?_eq_none (by omega)]
theorem chainB_at (l : List Say) (i : Nat) (s : Say) (hs : l[i]? = some s) : (chainB [] l)[i]? = some (nextB (chainB [] (l.take i)) s.time s.code s.who s.what) := by
  have hi : i < l.length := (List.getElem?_eq_some_iff.1 hs).1
  have e : chainB [] l = chainB (chainB [] (l.take (i + 1))) (l.drop (i + 1)) := by rw [← chainB_append, List.take_append_drop]
  have e2 : chainB [] (l.take (i + 1)) = chainB [] (l.take i) ++ [nextB (chainB [] (l.take i)) s.time s.code s.who s.what] := by
    rw [List.take_add_one, hs, chainB_append]; rfl
  have hl : (chainB [] (l.take i)).length = i := by rw [chainB_length]; simp; omega
  rw [e, chainB_keeps _ _ _ (by rw [e2]; simp [hl]), e2, List.getElem?_append_right (by omega)]
  simp [hl]
theorem goodNil : Good ([] : List Ent).reverse (headB []) := rfl
theorem chainB_fits (l : List Say) (hl : l.length ≤ 1000000) (hs : ∀ s ∈ l, I64 s.time ∧ I64 s.code) : ∀ e ∈ chainB [] l, e.Fits := by
  intro e he
  obtain ⟨i, hi⟩ := List.mem_iff_getElem?.1 he
  have hlt : i < l.length := by
    have := (List.getElem?_eq_some_iff.1 hi).1
    rw [chainB_length] at this
    simpa using this
  rw [chainB_at l i l[i] (List.getElem?_eq_getElem hlt)] at hi
  obtain rfl := Option.some.inj hi
  have h := hs l[i] (List.getElem_mem _)
  refine ⟨?_, h.1, h.2⟩
  simp only [nextB, I64, chainB_length]
  simp
  omega
theorem readB_bytes (e : Ent) (h : e.Fits) : readB (bytesB e) = some e := by
  unfold readB bytesB
  rw [decB_enc]
  simp only [saidB, List.cons_append, List.nil_append, wideB_length, and_self, if_true]
  rw [narB_wide _ h.no.1 h.no.2, narB_wide _ h.time.1 h.time.2, narB_wide _ h.code.1 h.code.2]
  rfl
end Go.Proofs.YtbjnpomcgcbflaaDoor

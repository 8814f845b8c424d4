/- Plain laws: the parts of a key, read again. -/
import Derived.Test.YtbjnpomcgcbflaaDoorP1
set_option linter.unusedVariables false
set_option linter.unusedSimpArgs false
namespace Go.Proofs.YtbjnpomcgcbflaaDoor

/-- A part that is open, and what is behind it. -/
def partG : List UInt8 → List UInt8 → Option (List UInt8 × List UInt8)
  | _, [] => none
  | p, b :: r =>
    if b = 0 then
      match r with
      | [] => none
      | d :: r => if d = 1 then some (p, r) else if d = 255 then partG (p ++ [0]) r else none
    else partG (p ++ [b]) r
/-- The parts of a key; 'o': a part has begun. -/
def decG : List UInt8 → Bool → List UInt8 → Option (List (List UInt8))
  | _, o, [] => if o then none else some []
  | p, o, b :: r =>
    if b = 0 then
      match r with
      | [] => none
      | d :: r => if d = 1 then (decG [] false r).map (p :: ·) else if d = 255 then decG (p ++ [0]) true r else none
    else decG (p ++ [b]) true r
def decB (l : List UInt8) : Option (List (List UInt8)) := decG [] false l

theorem partG_ne (p : List UInt8) {b : UInt8} (r : List UInt8) (h : b ≠ 0) : partG p (b :: r) = partG (p ++ [b]) r := by cases r <;> simp [partG, h]
theorem decG_ne (p : List UInt8) (o : Bool) {b : UInt8} (r : List UInt8) (h : b ≠ 0) : decG p o (b :: r) = decG (p ++ [b]) true r := by cases r <;> simp [decG, h]
theorem decG_part (p : List UInt8) (o : Bool) (l : List UInt8) (h : o = true ∨ l ≠ []) : decG p o l = (partG p l).bind fun x => (decG [] false x.2).map (x.1 :: ·) := by
  match l with
  | [] => rcases h with rfl | h <;> simp_all [decG, partG]
  | [b] =>
    rw [decG, partG]
    by_cases hb : b = 0
    · simp [hb]
    · simp only [hb, if_false]; exact decG_part _ _ _ (.inl rfl)
  | b :: d :: r =>
    rw [decG, partG]
    by_cases hb : b = 0
    · simp only [hb, if_true]
      by_cases h1 : d = 1
      · simp [h1]
      · simp only [h1, if_false]
        by_cases h2 : d = 255
        · simp only [h2, if_true]; exact decG_part _ _ _ (.inl rfl)
        · simp [h2]
    · simp only [hb, if_false]; exact decG_part _ _ _ (.inl rfl)
  termination_by l.length
theorem decB_cons {l : List UInt8} (h : l ≠ []) : decB l = (partG [] l).bind fun x => (decB x.2).map (x.1 :: ·) := decG_part [] false l (.inr h)
theorem decB_nil : decB [] = some [] := rfl
theorem partG_plain (q p r : List UInt8) (h : q.count 0 = 0) : partG p (q ++ r) = partG (p ++ q) r := by
  induction q generalizing p with
  | nil => simp
  | cons b q ih =>
    rw [List.count_cons] at h
    have hb : b ≠ 0 := by intro e; simp [e] at h
    rw [List.cons_append, partG_ne _ _ hb, ih _ (by omega)]
    simp
theorem partG_esc (q p r : List UInt8) : partG p (escB q ++ [0, 1] ++ r) = some (p ++ q, r) := by
  induction q generalizing p with
  | nil => simp [escB, partG]
  | cons b q ih =>
    rw [escB_cons]
    by_cases hb : b = 0
    · subst hb
      simp only [if_true, List.cons_append, List.nil_append, partG]
      rw [if_neg (by decide), ih]
      simp
    · simp only [hb, if_false, List.cons_append, List.nil_append]
      rw [partG_ne _ _ hb, ih]
      simp
theorem partG_less (p l : List UInt8) (x : List UInt8 × List UInt8) (h : partG p l = some x) : x.2.length < l.length ∧ x.1.length ≤ p.length + l.length := by
  match l with
  | [] => simp [partG] at h
  | [b] =>
    rw [partG] at h
    by_cases hb : b = 0
    · simp [hb] at h
    · simp only [hb, if_false] at h; simp [partG] at h
  | b :: d :: r =>
    rw [partG] at h
    by_cases hb : b = 0
    · simp only [hb, if_true] at h
      by_cases h1 : d = 1
      · simp [h1] at h; subst h; simp; omega
      · simp only [h1, if_false] at h
        by_cases h2 : d = 255
        · simp only [h2, if_true] at h
          have := partG_less _ _ _ h
          simp at this ⊢; omega
        · simp [h2] at h
    · simp only [hb, if_false] at h
      have := partG_less _ _ _ h
      simp at this ⊢; omega
  termination_by l.length
theorem partG_two (p l : List UInt8) (x : List UInt8 × List UInt8) (h : partG p l = some x) : x.2.length + 2 ≤ l.length := by
  match l with
  | [] => simp [partG] at h
  | [b] =>
    rw [partG] at h
    by_cases hb : b = 0
    · simp [hb] at h
    · simp only [hb, if_false] at h; simp [partG] at h
  | b :: d :: r =>
    rw [partG] at h
    by_cases hb : b = 0
    · simp only [hb, if_true] at h
      by_cases h1 : d = 1
      · simp [h1] at h; subst h; simp
      · simp only [h1, if_false] at h
        by_cases h2 : d = 255
        · simp only [h2, if_true] at h
          have := partG_two _ _ _ h
          simp at this ⊢; omega
        · simp [h2] at h
    · simp only [hb, if_false] at h
      have := partG_two _ _ _ h
      simp at this ⊢; omega
  termination_by l.length
theorem decB_enc (ps : List (List UInt8)) : decB (encB ps) = some ps := by
  induction ps with
  | nil => rfl
  | cons p ps ih =>
    have e : encB (p :: ps) = escB p ++ [0, 1] ++ encB ps := by simp [encB]
    rw [decB_cons (by rw [e]; simp), e, partG_esc]
    simp [ih]
theorem encB_inj {a b : List (List UInt8)} (h : encB a = encB b) : a = b := by
  have := decB_enc a
  rw [h, decB_enc] at this
  exact (Option.some.inj this).symm
theorem decB_length {l : List UInt8} : ∀ {ps}, decB l = some ps → 2 * ps.length ≤ l.length ∧ ∀ p ∈ ps, p.length ≤ l.length := by
  induction hn : l.length using Nat.strongRecOn generalizing l with
  | _ n ih =>
    intro ps h
    by_cases hl : l = []
    · subst hl; simp [decB_nil] at h; subst h; simp
    · rw [decB_cons hl] at h
      cases hp : partG [] l with
      | none => rw [hp] at h; simp at h
      | some x =>
        rw [hp] at h
        simp only [Option.bind_some, Option.map_eq_some_iff] at h
        obtain ⟨qs, hq, rfl⟩ := h
        have hx := partG_less _ _ _ hp
        have hx2 : x.2.length + 2 ≤ l.length := by
          have := partG_two _ _ _ hp
          omega
        have := ih x.2.length (by omega) rfl hq
        refine ⟨by simp; omega, fun p hp => ?_⟩
        rcases List.mem_cons.1 hp with rfl | hp
        · simp at hx; omega
        · have := this.2 p hp; omega
end Go.Proofs.YtbjnpomcgcbflaaDoor

/- Plain laws on lists of bytes: noughts are doubled by 255; parts as one key. -/
import Derived.Lib.Bytealg
set_option linter.unusedVariables false
set_option linter.unusedSimpArgs false
namespace Go.Proofs.YtbjnpomcgcbflaaDoor

/-- What 'bytes.ReplaceAll(p, {0}, {0, 255})' is. -/
def escB (l : List UInt8) : List UInt8 := l.flatMap fun b => if b = 0 then [0, 255] else [b]
/-- Parts as one key. -/
def encB (l : List (List UInt8)) : List UInt8 := l.flatMap fun p => escB p ++ [0, 1]
theorem escB_nil : escB [] = [] := rfl
theorem escB_append (l m : List UInt8) : escB (l ++ m) = escB l ++ escB m := by simp [escB]
theorem escB_cons (b : UInt8) (m : List UInt8) : escB (b :: m) = (if b = 0 then [0, 255] else [b]) ++ escB m := by simp [escB]
theorem escB_length (l : List UInt8) : (escB l).length = l.length + l.count 0 := by
  induction l with
  | nil => rfl
  | cons b l ih =>
    rw [escB_cons, List.length_append, ih, List.length_cons, List.count_cons]
    by_cases h : b = 0
    · simp [h]; omega
    · simp [h]; omega
theorem escB_none {l : List UInt8} (h : l.count 0 = 0) : escB l = l := by
  induction l with
  | nil => rfl
  | cons b l ih =>
    rw [List.count_cons] at h
    by_cases hb : b = 0
    · simp [hb] at h
    · rw [escB_cons, if_neg hb, ih (by simp [hb] at h; exact h)]; rfl
theorem encB_append (l m : List (List UInt8)) : encB (l ++ m) = encB l ++ encB m := by simp [encB]
theorem encB_one (p : List UInt8) : encB [p] = escB p ++ [0, 1] := by simp [encB]
theorem encB_take_succ {l : List (List UInt8)} {k : Nat} {x : List UInt8} (h : l[k]? = some x) : encB (l.take (k + 1)) = encB (l.take k) ++ escB x ++ [0, 1] := by
  have hk : k < l.length := by
    rcases Nat.lt_or_ge k l.length with h' | h'
    · exact h'
    · simp [List.getElem?_eq_none h'] at h
  rw [List.take_add_one, h]
  simp [encB_append, encB]
theorem encB_take_le (l : List (List UInt8)) (k : Nat) : (encB (l.take k)).length ≤ (encB l).length := by
  conv => rhs; rw [← List.take_append_drop k l]
  rw [encB_append, List.length_append]
  omega
/-- Where a nought stands first. -/
theorem indexByte_split (l : List UInt8) (h : 0 < l.count 0) : ∃ p : Nat, Lib.indexByte l 0 = (p : Int) ∧ p < l.length ∧ (l.take p).count 0 = 0 ∧ l.drop p = 0 :: l.drop (p + 1) := by
  induction l with
  | nil => simp at h
  | cons b l ih =>
    by_cases hb : b = 0
    · subst hb
      exact ⟨0, by simp [Lib.indexByte], by simp, by simp, by simp⟩
    · obtain ⟨p, h1, h2, h3, h4⟩ := ih (by rw [List.count_cons] at h; simpa [hb] using h)
      refine ⟨p + 1, ?_, by simp; omega, by simp [List.count_cons, hb, h3], by simpa using h4⟩
      unfold Lib.indexByte
      rw [if_neg (by simpa using hb), h1, if_neg (by simp)]
      simp
end Go.Proofs.YtbjnpomcgcbflaaDoor

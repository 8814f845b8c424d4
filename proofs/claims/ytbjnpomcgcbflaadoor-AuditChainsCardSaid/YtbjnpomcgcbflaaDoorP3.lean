/- Plain: the sum SHA-256 of bytes. -/
import Derived.Test.YtbjnpomcgcbflaaDoorP2
set_option linter.unusedVariables false
set_option linter.unusedSimpArgs false
namespace Go.Proofs.YtbjnpomcgcbflaaDoor

def xor32 (a b : Int) : Int := bits .xor .u32 a b
def and32 (a b : Int) : Int := bits .and .u32 a b
def add32 (a b : Int) : Int := (a + b) % 4294967296
def ssig1 (y : Int) : Int := xor32 (xor32 (rotr y 17) (rotr y 19)) (y / 1024)
def ssig0 (x : Int) : Int := xor32 (xor32 (rotr x 7) (rotr x 18)) (x / 8)
/-- The next word of a block's words. -/
def nextW (w : List Int) (t : Nat) : Int :=
  add32 (add32 (add32 (ssig1 (w.getD (t - 2) 0)) (w.getD (t - 7) 0)) (ssig0 (w.getD (t - 15) 0))) (w.getD (t - 16) 0)
def schedTo (m : List UInt8) : Nat → List Int
  | 0 => []
  | t + 1 => schedTo m t ++ [if t < 16 then be32 ((m.drop (4 * t)).take 4) else nextW (schedTo m t) t]
theorem schedTo_length (m : List UInt8) (t : Nat) : (schedTo m t).length = t := by
  induction t with
  | zero => rfl
  | succ t ih => simp [schedTo, ih]
theorem w32_add (a b : Int) : W32 (add32 a b) := w32_mod _
theorem be32_w32 (l : List UInt8) (h : l.length ≤ 4) : W32 (be32 l) := by
  have := be32_bound l 4 (Nat.le_refl _)
  rw [List.take_of_length_le h] at this
  exact ⟨this.1, by have h2 := this.2; have : (256 : Int) ^ 4 = 4294967296 := rfl; omega⟩
theorem schedTo_w32 (m : List UInt8) (t : Nat) : ∀ x ∈ schedTo m t, W32 x := by
  induction t with
  | zero => intro x hx; cases hx
  | succ t ih =>
    intro x hx
    rw [schedTo, List.mem_append] at hx
    rcases hx with hx | hx
    · exact ih x hx
    · rw [List.mem_singleton] at hx
      subst hx
      split
      · exact be32_w32 _ (by simp; omega)
      · exact w32_add _ _
theorem getD_w32 {l : List Int} (h : ∀ x ∈ l, W32 x) (i : Nat) : W32 (l.getD i 0) := by
  rw [List.getD_eq_getElem?_getD]
  cases e : l[i]? with
  | none => exact ⟨by decide, by decide⟩
  | some x => exact h x (List.mem_of_getElem? e)
/-- One round over the eight words. -/
def roundV (v : List Int) (k w : Int) : List Int :=
  let a := v.getD 0 0; let b := v.getD 1 0; let c := v.getD 2 0; let d := v.getD 3 0; let e := v.getD 4 0; let f := v.getD 5 0; let g := v.getD 6 0; let h := v.getD 7 0
  let x := add32 (add32 (add32 (add32 h (xor32 (xor32 (rotr e 6) (rotr e 11)) (rotr e 25))) (xor32 (and32 e f) (and32 (bits .xor .u32 IntKind.u32.max e) g))) k) w
  let y := add32 (xor32 (xor32 (rotr a 2) (rotr a 13)) (rotr a 22)) (xor32 (xor32 (and32 a b) (and32 a c)) (and32 b c))
  [add32 x y, a, b, c, add32 d x, e, f, g]
def roundsTo (h W K : List Int) : Nat → List Int
  | 0 => h
  | t + 1 => roundV (roundsTo h W K t) (K.getD t 0) (W.getD t 0)
theorem roundsTo_length (h W K : List Int) (hl : h.length = 8) (t : Nat) : (roundsTo h W K t).length = 8 := by
  cases t with
  | zero => exact hl
  | succ t => rfl
/-- A block is worked in. -/
def compress (h K : List Int) (m : List UInt8) : List Int := (List.range 8).map fun i => add32 (h.getD i 0) ((roundsTo h (schedTo m 64) K 64).getD i 0)
theorem compress_length (h K : List Int) (m : List UInt8) : (compress h K m).length = 8 := by simp [compress]
theorem compress_w32 (h K : List Int) (m : List UInt8) : ∀ x ∈ compress h K m, W32 x := by
  intro x hx
  simp only [compress, List.mem_map] at hx
  obtain ⟨i, _, rfl⟩ := hx
  exact w32_add _ _
theorem roundV_w32 {v : List Int} {k w : Int} (h : ∀ x ∈ v, W32 x) : ∀ x ∈ roundV v k w, W32 x := by
  intro x hx
  simp only [roundV, List.mem_cons, List.not_mem_nil, or_false] at hx
  rcases hx with rfl | rfl | rfl | rfl | rfl | rfl | rfl | rfl
  · exact w32_add _ _
  · exact getD_w32 h 0
  · exact getD_w32 h 1
  · exact getD_w32 h 2
  · exact w32_add _ _
  · exact getD_w32 h 4
  · exact getD_w32 h 5
  · exact getD_w32 h 6
theorem roundsTo_w32 {h W K : List Int} (hh : ∀ x ∈ h, W32 x) (t : Nat) : ∀ x ∈ roundsTo h W K t, W32 x := by
  induction t with
  | zero => exact hh
  | succ t ih => exact roundV_w32 ih
end Go.Proofs.YtbjnpomcgcbflaaDoor

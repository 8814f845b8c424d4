/- Walks: what of an entry is summed, and its bytes; the head. -/
import Derived.Test.YtbjnpomcgcbflaaDoorB1
set_option linter.unusedVariables false
set_option linter.unusedSimpArgs false
namespace Go.Proofs.YtbjnpomcgcbflaaDoor
open Go.RowKit Go.Deep

theorem entAt {w : World} {b : Nat} {e : Ent} {A : Option Addr} {c : Nat} {B : Option Addr} {d : Nat} {T : TypeId} {fr : Nat × Nat} (h : w.heap[b]? = some (.cells (entCells e A c B d).toArray T fr)) : ∀ j v, (entCells e A c B d)[j]? = some v → w.cell? ⟨b, j, none⟩ = some v := fun j v hv => by
  rw [cell_of_row _ _ _ _ _ _ h]
  simpa using hv

set_option maxRecDepth 100000 in
set_option maxHeartbeats 1000000 in
theorem said_any (e : Ent) (A : Option Addr) (c : Nat) (B : Option Addr) (d : Nat) (w : World) (HI : Hid (EntIn w e A c B d)) (HL : Hid (EntLe e)) :
    Calls Tryd.prog 38 #[.agg (entCells e A c B d).toArray] w fun r w' => ∃ v, r = .returned v ∧ SlBs (saidB e) v w' ∧ Below w.heap.size w w' := by
  go_enter Tryd.func38, Tryd.ntmps38
  go_wp2_with fail
  have q1 := entAt (e := e) (A := A) (c := c) (B := B) (d := d) (heap_alloc_new w (.cells (entCells e A c B d).toArray 30))
  have q2 := HI.out.below (alloc_ext w (.cells (entCells e A c B d).toArray 30))
  refine said_r1 e A c B d w.heap.size (by rfl) q1 q2 HL.out (by rfl) ?_
  clear q1 q2
  intro v2 v5 v8 v11 v14 v17 v18 w1 hB h2 h5 h8 h11 h14 h17 h18
  have hb := ext_trans (alloc_ext w _) hB
  have H18 := Lib.hid h18
  have HB := Lib.hid hb
  clear h2 h5 h8 h11 h14 h17 h18 hB hb
  simp only [Act.put, List.setIfInBounds_toArray, List.set_cons_zero, List.set_cons_succ]
  go_wp2_with fail
  go_ret
  exact ⟨_, rfl, H18.out, HB.out⟩
set_option maxRecDepth 100000 in
set_option maxHeartbeats 1000000 in
theorem parts_any (e : Ent) (A : Option Addr) (c : Nat) (B : Option Addr) (d : Nat) (w : World) (HI : Hid (EntIn w e A c B d)) (HL : Hid (EntLe e)) :
    Calls Tryd.prog 44 #[.agg (entCells e A c B d).toArray] w fun r w' => ∃ v, r = .returned v ∧ SlBs (saidB e) v w' ∧ Below w.heap.size w w' := by
  go_enter Tryd.func44, Tryd.ntmps44
  go_wp2_with fail
  have q1 := entAt (e := e) (A := A) (c := c) (B := B) (d := d) (heap_alloc_new w (.cells (entCells e A c B d).toArray 30))
  have q2 := HI.out.below (alloc_ext w (.cells (entCells e A c B d).toArray 30))
  refine parts_r1 e A c B d w.heap.size (by rfl) q1 q2 HL.out (by rfl) ?_
  clear q1 q2
  intro v2 v5 v8 v11 v14 v17 v18 w1 hB h2 h5 h8 h11 h14 h17 h18
  have hb := ext_trans (alloc_ext w _) hB
  have H18 := Lib.hid h18
  have HB := Lib.hid hb
  clear h2 h5 h8 h11 h14 h17 h18 hB hb
  simp only [Act.put, List.setIfInBounds_toArray, List.set_cons_zero, List.set_cons_succ]
  go_wp2_with fail
  go_ret
  exact ⟨_, rfl, H18.out, HB.out⟩

theorem encB_len (ps : List (List UInt8)) (m : Nat) (h : ∀ p ∈ ps, p.length ≤ m) : (encB ps).length ≤ ps.length * (2 * m + 2) := by
  induction ps with
  | nil => simp [encB]
  | cons p ps ih =>
    have e : encB (p :: ps) = (escB p ++ [0, 1]) ++ encB ps := by simp [encB]
    have h1 := ih fun q hq => h q (List.mem_cons_of_mem _ hq)
    have h2 := h p (by simp)
    have h3 : p.count 0 ≤ p.length := List.count_le_length
    rw [e, List.length_append, List.length_append, escB_length, show (p :: ps).length = ps.length + 1 from rfl, Nat.succ_mul]
    have h4 : [(0 : UInt8), 1].length = 2 := rfl
    rw [h4]
    generalize ps.length * (2 * m + 2) = X at *
    omega
theorem saidB_le {e : Ent} (h : EntLe e) : ∀ p ∈ saidB e, p.length ≤ 1099511627776 := by
  intro p hp
  simp only [saidB, List.mem_cons, List.not_mem_nil, or_false] at hp
  rcases hp with rfl | rfl | rfl | rfl | rfl | rfl
  · rw [wideB_length]; omega
  · rw [wideB_length]; omega
  · rw [wideB_length]; omega
  · rw [baL_length]; exact h.who
  · rw [baL_length]; exact h.what
  · exact h.prev
theorem bodyB_le {e : Ent} (h : EntLe e) : (bodyB e).length ≤ 70368744177664 := by
  have := encB_len _ _ (saidB_le h)
  simp only [saidB, List.length_cons, List.length_nil] at this
  unfold bodyB
  exact Nat.le_trans this (by decide)

set_option maxRecDepth 100000 in
set_option maxHeartbeats 1000000 in
theorem body_any (e : Ent) (A : Option Addr) (c : Nat) (B : Option Addr) (d : Nat) (w : World) (HI : Hid (EntIn w e A c B d)) (HL : Hid (EntLe e)) :
    Calls Tryd.prog 29 #[.agg #[.int .i64 e.no, .int .i64 e.time, .int .i64 e.code, .string e.who, .string e.what, .slice A e.prev.length c, .slice B e.hash.length d]] w (RetB w (bodyB e)) := by
  have q2 : Hid (EntIn (w.alloc (.cells (entCells e A c B d).toArray 30)) e A c B d) := HI.out.below (alloc_ext _ _)
  have k1 := said_any e A c B d _ q2 HL
  go_enter Tryd.func29, Tryd.ntmps29
  go_wp2_with fail
  refine k1.mono ?_
  rintro r w1 ⟨v, rfl, ⟨A1, rfl, h1⟩, hB1⟩
  have k2 := encode_any rfl (saidB e).length w1 h1 (saidB_le HL.out) (bodyB_le HL.out) (by simp [saidB])
  have HB := Lib.hid (ext_trans (alloc_ext w _) hB1)
  clear k1 h1 hB1
  go_wp2_with fail
  refine k2.mono ?_
  rintro r w2 ⟨A2, c2, rfl, hc2, hc22, hs2, hB2⟩
  go_wp2_with fail
  go_ret
  exact ⟨A2, c2, rfl, hc2, hc22, hs2, ext_trans HB.out hB2⟩
set_option maxRecDepth 100000 in
set_option maxHeartbeats 1000000 in
theorem refBody_any (e : Ent) (A : Option Addr) (c : Nat) (B : Option Addr) (d : Nat) (w : World) (HI : Hid (EntIn w e A c B d)) (HL : Hid (EntLe e)) :
    Calls Tryd.prog 30 #[.agg #[.int .i64 e.no, .int .i64 e.time, .int .i64 e.code, .string e.who, .string e.what, .slice A e.prev.length c, .slice B e.hash.length d]] w (RetB w (bodyB e)) := by
  have q2 : Hid (EntIn (w.alloc (.cells (entCells e A c B d).toArray 30)) e A c B d) := HI.out.below (alloc_ext _ _)
  have k1 := parts_any e A c B d _ q2 HL
  go_enter Tryd.func30, Tryd.ntmps30
  go_wp2_with fail
  refine k1.mono ?_
  rintro r w1 ⟨v, rfl, ⟨A1, rfl, h1⟩, hB1⟩
  have k2 := refEncode_any rfl (saidB e).length w1 h1 (saidB_le HL.out) (bodyB_le HL.out) (by simp [saidB])
  have HB := Lib.hid (ext_trans (alloc_ext w _) hB1)
  clear k1 h1 hB1
  go_wp2_with fail
  refine k2.mono ?_
  rintro r w2 ⟨A2, c2, rfl, hc2, hc22, hs2, hB2⟩
  go_wp2_with fail
  go_ret
  exact ⟨A2, c2, rfl, hc2, hc22, hs2, ext_trans HB.out hB2⟩
end Go.Proofs.YtbjnpomcgcbflaaDoor

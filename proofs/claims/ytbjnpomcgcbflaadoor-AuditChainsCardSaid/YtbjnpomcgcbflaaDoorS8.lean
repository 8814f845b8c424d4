/- Walks: SHA-256 of bytes, by the program. -/
import Derived.Test.YtbjnpomcgcbflaaDoorS7
set_option linter.unusedVariables false
set_option linter.unusedSimpArgs false
namespace Go.Proofs.YtbjnpomcgcbflaaDoor
open Go.RowKit Go.Deep

set_option maxRecDepth 100000 in
set_option maxHeartbeats 1000000 in
theorem shaSum_any {A : Option Addr} {b : List UInt8} {n : Nat} (hn : b.length = n) (c : Nat) (hc : n ≤ c) (hc2 : c ≤ 9223372036854775807) (hl : n ≤ 140737488355328) (w : World) (hb : Seg w A (bvs b)) :
    Calls Tryd.prog 32 #[.slice A n c] w (RetF w (shaOut b)) := by
  subst hn
  have H := Lib.hid hb
  clear hb
  have hlb : b.length + 0 ≤ 140737488355328 := hl
  go_enter Tryd.func32, Tryd.ntmps32
  go_wp2_with (go_at_call 45; refine (new_any _).mono ?_; rintro e w1 ⟨bs, rfl, hge, hs, hB1⟩)
  have hT : Took w1 bs [] (List.replicate 64 0) := ⟨hs, rfl⟩
  have hne : b ≠ [] → ∀ a, A = some a → some a.block ≠ some bs := fun h0 a ha e => by
    obtain ⟨bA, oA, rfl, C, T, fr, hh, _⟩ := H.out.out (fun e => h0 (by simpa [bvs] using e))
    cases ha
    injection e with e
    have := (Array.getElem?_eq_some_iff.1 hh).1
    simp at e
    omega
  have hwr := write_any (x := []) c hc hc2 (by simp; omega) bs w1 hT (H.out.below hB1) hne
  clear hne hT hs
  refine hwr.mono ?_
  rintro e w2 ⟨rfl, ⟨ov, hT2⟩, hg⟩
  rw [List.nil_append] at hT2
  have hsm := stateSum_any bs w2 hT2 hl
  have HB : Hid (Below w.heap.size w w2) := ⟨hg.os.trans hB1.os, hg.tape.trans hB1.tape, hg.output.trans hB1.output, Nat.le_trans hB1.size hg.size, fun i hi => (hg.block i (Nat.lt_of_lt_of_le hi hB1.size) (by intro e; injection e with e; omega)).trans (hB1.block i hi)⟩
  clear hwr hT2 hg
  go_wp2_with fail
  refine hsm.mono ?_
  rintro e w3 ⟨A3, c3, rfl, hc3, hc32, hs3, hB3, hf3⟩
  go_wp2_with fail
  go_ret
  exact ⟨A3, c3, rfl, hc3, hc32, hs3, ext_trans HB.out hB3, hf3.mono HB.out⟩
end Go.Proofs.YtbjnpomcgcbflaaDoor

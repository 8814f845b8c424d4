/- Walks: slices.Clone of bytes. -/
import Derived.Test.YtbjnpomcgcbflaaDoorA3
set_option linter.unusedVariables false
set_option linter.unusedSimpArgs false
namespace Go.Proofs.YtbjnpomcgcbflaaDoor
open Go.RowKit

set_option maxHeartbeats 400000 in
theorem cloneB_any {A : Option Addr} {l : List UInt8} (c : Nat) (w : World) (h : Seg w A (bvs l)) (hl : l.length ≤ 70368744177664) :
    Calls Tryd.prog 34 #[.slice A l.length c] w (RetF w l) := by
  have q := eql_nil 28 5 Tryd.underlying28
  rcases A with _ | ad
  · have hn : l = [] := by
      by_cases e : l = []
      · exact e
      · obtain ⟨_, _, e', _⟩ := h.out (by simpa [bvs] using e)
        cases e'
    subst hn
    go_enter Tryd.func34, Tryd.ntmps34
    go_wp2
    go_ret
    exact RetF.mk' rfl (Nat.le_refl _) (by decide) (Seg.nil _ _) (Below.refl _ _) (Fresh.none _)
  · go_enter Tryd.func34, Tryd.ntmps34
    go_wp2_with (at_builtin; refine wl_append w 5 1 1 (.tmp 5) (.tmp 6) 28 (.int .u8 0) rfl rfl Tryd.underlying28 infoB rfl (by decide) (by decide) rfl rfl (own_lit w _ _ [] 1 0 (Nat.le_refl _) (by decide) rfl) (h.below (alloc_ext _ _)) (by rw [bvs_length, Nat.mul_one]) bvs_one (by omega) (alloc_ext _ _) ?_; intro v1 w1 own1 B1 _ _)
    go_ret
    exact RetF.of_own (l := l) (by simpa using own1) B1 (Nat.le_refl _)
end Go.Proofs.YtbjnpomcgcbflaaDoor

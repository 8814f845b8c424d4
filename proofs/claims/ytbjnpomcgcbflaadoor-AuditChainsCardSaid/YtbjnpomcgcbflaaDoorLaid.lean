/- A world in which the listed tables hold what their text lays. -/
import Derived.Test.YtbjnpomcgcbflaaDoorOpen
set_option linter.unusedVariables false
namespace Go.Proofs.YtbjnpomcgcbflaaDoor
def tabFirst : Array Value := match Go.Pinned.utf8First with
  | .agg ds => (ds.map fun | .lit l => l.value | _ => undef).toArray
  | _ => #[]
def tabRanges : Array Value := #[.int .u8 128, .int .u8 191, .int .u8 160, .int .u8 191, .int .u8 128, .int .u8 159, .int .u8 144, .int .u8 191, .int .u8 128, .int .u8 143,
  .int .u8 0, .int .u8 0, .int .u8 0, .int .u8 0, .int .u8 0, .int .u8 0, .int .u8 0, .int .u8 0, .int .u8 0, .int .u8 0, .int .u8 0, .int .u8 0, .int .u8 0, .int .u8 0, .int .u8 0, .int .u8 0, .int .u8 0, .int .u8 0, .int .u8 0, .int .u8 0, .int .u8 0, .int .u8 0]
def layRow (cs : Array Value) : Obj → Obj
  | .cells _ t frozen => .cells cs t frozen
  | o => o
noncomputable def laidWorld (os : Os) : World :=
  { World.holding Tryd.prog os ⟨#[], #[], []⟩ with heap := ((World.holding Tryd.prog os ⟨#[], #[], []⟩).heap.modify 1 (layRow tabFirst)).modify 2 (layRow tabRanges) }
end Go.Proofs.YtbjnpomcgcbflaaDoor

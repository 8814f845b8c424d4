/- One closed fact: the type of bytes. -/
import Derived.Test.YtbjnpomcgcbflaaDoorBase
set_option linter.unusedVariables false
namespace Go.Proofs.YtbjnpomcgcbflaaDoor
theorem infoB : (Tryd.prog.info? 5).map (fun i => (i.zero, i.size, i.bytes)) = some (some (.int .u8 0), 1, 1) := by kernel_rfl
end Go.Proofs.YtbjnpomcgcbflaaDoor

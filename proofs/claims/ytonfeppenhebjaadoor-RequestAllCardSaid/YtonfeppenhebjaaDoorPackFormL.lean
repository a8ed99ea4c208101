/- The law PackForm: its walk. -/
import Derived.Test.YtonfeppenhebjaaDoorPackR2
import Derived.Test.YtonfeppenhebjaaDoorPackNum
import Derived.Test.YtonfeppenhebjaaDoorErrEq
import Derived.Deep.RegionHeld3
namespace Go.Proofs.YtonfeppenhebjaaDoor
open Go Go.RowKit
set_option linter.unusedVariables false
set_option linter.unusedSimpArgs false
attribute [local go_sem] IntKind.wrap_u64 c64_8 c8_64 c16_64 c32_64 c64_16 c64_32 or8 and8 shr64_7 shr64_8 shl64_8 or64 and64 n64_self n8_self beq_n64 beq_n8 bne_n8 bne_n64 bne_n64_0

attribute [local go_sem] neq_same
end Go.Proofs.YtonfeppenhebjaaDoor

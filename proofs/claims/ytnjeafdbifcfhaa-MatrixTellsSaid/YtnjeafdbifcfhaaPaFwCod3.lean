/- The coder's sums, in plain lists. No condition. -/
import Derived.Test.YtnjeafdbifcfhaaPaFwCod2
namespace Go.Proofs.Ytnjeafdbifcfhaa.Fw
open Go Den Fwd GF
set_option linter.unusedVariables false
set_option linter.unusedSimpArgs false
theorem xor4 (a b c d : UInt8) : (a ^^^ b) ^^^ (c ^^^ d) = (a ^^^ c) ^^^ (b ^^^ d) := by
  rw [UInt8.xor_assoc, ← UInt8.xor_assoc b, UInt8.xor_comm b c, UInt8.xor_assoc c, ← UInt8.xor_assoc]
theorem PartsR.len {h : H} {ps : Parts} : (mxv ps).length = ps.length := List.length_map _
end Go.Proofs.Ytnjeafdbifcfhaa.Fw

/- The law FieldInverses is walked whole beside this text: nothing pure is left of it. No condition. -/
import Derived.Test.YtnjeafdbifcfhaaPFieldInversesx1
namespace Go.Proofs.Ytnjeafdbifcfhaa.Pure
open Go.Proofs.Ytnjeafdbifcfhaa.PFieldInverses
theorem FieldInverses : corbellaw3_FieldInverses.Pure := trivial
end Go.Proofs.Ytnjeafdbifcfhaa.Pure

/- The law FieldLaws is walked whole beside this text: nothing pure is left of it. No condition. -/
import Derived.Test.YtnjeafdbifcfhaaPFieldLawsx1
namespace Go.Proofs.Ytnjeafdbifcfhaa.Pure
open Go.Proofs.Ytnjeafdbifcfhaa.PFieldLaws
theorem FieldLaws : corbellaw3_FieldLaws.Pure := trivial
end Go.Proofs.Ytnjeafdbifcfhaa.Pure

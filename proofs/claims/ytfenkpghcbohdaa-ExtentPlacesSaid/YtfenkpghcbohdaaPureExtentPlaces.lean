/- The law ExtentPlaces is walked whole beside this text: nothing pure is left of it. No condition. -/
import Derived.Test.YtfenkpghcbohdaaPExtentPlacesx1
namespace Go.Proofs.Ytfenkpghcbohdaa.Pure
open Go.Proofs.Ytfenkpghcbohdaa.PExtentPlaces
theorem ExtentPlaces : corbellaw17_ExtentPlaces.Pure := trivial
end Go.Proofs.Ytfenkpghcbohdaa.Pure

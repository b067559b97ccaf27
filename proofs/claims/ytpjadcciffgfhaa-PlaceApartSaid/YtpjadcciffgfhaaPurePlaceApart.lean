/- The law PlaceApart is walked whole beside this text: nothing pure is left of it. No condition. -/
import Derived.Test.YtpjadcciffgfhaaPPlaceApartx1
namespace Go.Proofs.Ytpjadcciffgfhaa.Pure
open Go.Proofs.Ytpjadcciffgfhaa.PPlaceApart
theorem PlaceApart : corbellaw13_PlaceApart.Pure := trivial
end Go.Proofs.Ytpjadcciffgfhaa.Pure

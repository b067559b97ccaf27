/- The law PlaceEven is walked whole beside this text: nothing pure is left of it. No condition. -/
import Derived.Test.YtpjadcciffgfhaaPPlaceEvenx2
namespace Go.Proofs.Ytpjadcciffgfhaa.Pure
open Go.Proofs.Ytpjadcciffgfhaa.PPlaceEven
theorem PlaceEven : corbellaw13_PlaceEven.Pure := trivial
end Go.Proofs.Ytpjadcciffgfhaa.Pure

/- The closed pure statement of PlaceKnown holds: the printed function answers true with 20 rounds. No condition. -/
import Derived.Test.YtpjadcciffgfhaaPPlaceKnownx1
namespace Go.Proofs.Ytpjadcciffgfhaa.Pure
open Go.RowKit Go.Proofs.Ytpjadcciffgfhaa.PPlaceKnown Go.Proofs.YtpjadcciffgfhaaW.PrintWords Go.Proofs.YtpjadcciffgfhaaW.PrintLast

theorem PlaceKnown : corbellaw13_PlaceKnown.Pure := ⟨20, by decide +kernel⟩

end Go.Proofs.Ytpjadcciffgfhaa.Pure

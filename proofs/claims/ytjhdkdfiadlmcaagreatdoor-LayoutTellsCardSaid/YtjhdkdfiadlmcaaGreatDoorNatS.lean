/- What must be in any case: 'shown' tells true. Condition: the table of powers reads as it is laid. -/
import Derived.Test.YtjhdkdfiadlmcaaGreatDoorNatV
namespace Go.Proofs.YtjhdkdfiadlmcaaGreatDoor
open Go.RowKit Go.Cal
end Go.Proofs.YtjhdkdfiadlmcaaGreatDoor

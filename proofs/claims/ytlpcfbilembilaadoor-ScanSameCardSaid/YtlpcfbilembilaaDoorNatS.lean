/- What must be in any case: 'shown' tells true. Condition: the table of powers reads as it is laid. -/
import Derived.Test.YtlpcfbilembilaaDoorNatV
namespace Go.Proofs.YtlpcfbilembilaaDoor
open Go.RowKit Go.Cal
end Go.Proofs.YtlpcfbilembilaaDoor

/- The contract of coppiceref1.Put. -/
import Derived.Test.YtenalocpmigppaaGreatDoorRefA
import Derived.Test.YtenalocpmigppaaGreatDoorWb
import Derived.Test.YtenalocpmigppaaGreatDoorWa
namespace Go.Proofs.YtenalocpmigppaaGreatDoor
open Go.RowKit

end Go.Proofs.YtenalocpmigppaaGreatDoor

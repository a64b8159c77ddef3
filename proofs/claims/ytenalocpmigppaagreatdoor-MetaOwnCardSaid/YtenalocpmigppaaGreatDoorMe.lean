/- coppiceref7.number. -/
import Derived.Test.YtenalocpmigppaaGreatDoorMa
namespace Go.Proofs.YtenalocpmigppaaGreatDoor
open Go.RowKit

/-- The document's number of eight bytes. -/
def numB7 (x : Nat) : Int := if 4611686018427387904 < x then 4611686018427387905 else (x : Int)
end Go.Proofs.YtenalocpmigppaaGreatDoor

/-
  The plain wrap with a condition of the row's own (the listed tables) and the world's shape, both handed to the walk.
-/
import Derived.Test.YtkgaeoeibjoljaaGreatDoorProg
import Derived.HandedShaped
import Derived.Handed
import Derived.Shelf.Vars
namespace Go.Proofs.YtkgaeoeibjoljaaGreatDoor
set_option maxRecDepth 4000
open Go

end Go.Proofs.YtkgaeoeibjoljaaGreatDoor

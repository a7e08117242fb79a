/-
  The conditions give the machine's calls; printed by vcgen.py.
-/
import Derived.Test.YtabifopphhpciaaGreatDoorRecVc
namespace Go.Proofs.YtabifopphhpciaaGreatDoor
open Go Go.Vc
set_option maxRecDepth 100000
set_option maxHeartbeats 4000000
end Go.Proofs.YtabifopphhpciaaGreatDoor

/-
  All of the conditions' proofs.
-/
import Derived.Test.YteoeboeaanjehaaDoorRecSim0
import Derived.Test.YteoeboeaanjehaaDoorRecSim1
import Derived.Test.YteoeboeaanjehaaDoorRecSim2
import Derived.Test.YteoeboeaanjehaaDoorRecSim3

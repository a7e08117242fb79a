/-
  All of the conditions' proofs.
-/
import Derived.Test.YtnhgnfflihoaiaaGreatDoorRecSim0
import Derived.Test.YtnhgnfflihoaiaaGreatDoorRecSim1
import Derived.Test.YtnhgnfflihoaiaaGreatDoorRecSim2
import Derived.Test.YtnhgnfflihoaiaaGreatDoorRecSim3
import Derived.Test.YtnhgnfflihoaiaaGreatDoorRecSim4
import Derived.Test.YtnhgnfflihoaiaaGreatDoorRecSim5

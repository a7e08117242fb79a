/-
  All of the conditions' proofs.
-/
import Derived.Test.YtnhgnfflihoaiaaDoorRecSim0
import Derived.Test.YtnhgnfflihoaiaaDoorRecSim1
import Derived.Test.YtnhgnfflihoaiaaDoorRecSim2
import Derived.Test.YtnhgnfflihoaiaaDoorRecSim3
import Derived.Test.YtnhgnfflihoaiaaDoorRecSim4
import Derived.Test.YtnhgnfflihoaiaaDoorRecSim5

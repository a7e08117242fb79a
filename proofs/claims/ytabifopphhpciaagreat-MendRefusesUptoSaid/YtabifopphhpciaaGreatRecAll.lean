/-
  All of the conditions' proofs.
-/
import Derived.Test.YtabifopphhpciaaGreatRecSim0
import Derived.Test.YtabifopphhpciaaGreatRecSim1
import Derived.Test.YtabifopphhpciaaGreatRecSim2

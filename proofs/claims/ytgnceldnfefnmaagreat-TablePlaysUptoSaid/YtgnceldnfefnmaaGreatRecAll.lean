/-
  All of the conditions' proofs.
-/
import Derived.Test.YtgnceldnfefnmaaGreatRecSim0
import Derived.Test.YtgnceldnfefnmaaGreatRecSim1
import Derived.Test.YtgnceldnfefnmaaGreatRecSim2
import Derived.Test.YtgnceldnfefnmaaGreatRecSim3
import Derived.Test.YtgnceldnfefnmaaGreatRecSim4
import Derived.Test.YtgnceldnfefnmaaGreatRecSim5

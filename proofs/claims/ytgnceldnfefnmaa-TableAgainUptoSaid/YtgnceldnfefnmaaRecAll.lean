/-
  All of the conditions' proofs.
-/
import Derived.Test.YtgnceldnfefnmaaRecSim0
import Derived.Test.YtgnceldnfefnmaaRecSim1
import Derived.Test.YtgnceldnfefnmaaRecSim2
import Derived.Test.YtgnceldnfefnmaaRecSim3
import Derived.Test.YtgnceldnfefnmaaRecSim4

/- What the walks of the document's rules stand on. -/
import Derived.Test.YtkoocipagndclaaK0
import Derived.Handy
import Derived.Deep.DeepCutAuto
import Derived.Deep.CutBlock

/- All of the interpreter's soundness. -/
import Derived.Test.YtafggfmidkpnbaaGreatAbsDraw12

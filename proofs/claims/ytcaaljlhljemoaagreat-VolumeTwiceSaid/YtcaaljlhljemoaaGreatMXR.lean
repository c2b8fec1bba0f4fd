/- A function that calls itself: as deep as one likes. -/
import Derived.Test.YtcaaljlhljemoaaGreatMU
namespace Go.Mini
variable{P:Program}
end Go.Mini

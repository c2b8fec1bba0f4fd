/- slices.Insert and slices.Delete at []int, as contracts of the small machine: definitions. -/
import Derived.Test.YtcaaljlhljemoaaGreatMA
namespace Go.Mini
end Go.Mini

/- slices.Insert and slices.Delete at []int, as the printed texts name them. -/
namespace Go.Moat
open Go.Mini
end Go.Moat

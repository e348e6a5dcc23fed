/- From a law's contract to its row: fractions and intervals as arguments. -/
import Derived.Test.YtpigpikhjlmdoaaR
import Derived.Test.YtpigpikhjlmdoaaM18
namespace Go.Proofs.Ytpigpikhjlmdoaa
open Go.Hp Go.ChangeShapes Go.WideShapes Go.ChangeAt Go.RowKit Go.Joins

section
variable {H : Type} {enc : TypeId × Value → H}

end
end Go.Proofs.Ytpigpikhjlmdoaa

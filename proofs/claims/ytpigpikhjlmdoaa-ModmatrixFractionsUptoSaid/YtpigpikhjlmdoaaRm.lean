/- From a law's contract to its row: matrices and rows of fractions as arguments. -/
import Derived.Test.YtpigpikhjlmdoaaRq
import Derived.Test.YtpigpikhjlmdoaaM35
import Derived.Deep.Slices
import Derived.Deep.Strs
namespace Go.Proofs.Ytpigpikhjlmdoaa
open Go.Hp Go.ChangeShapes Go.WideShapes Go.ChangeAt Go.RowKit Go.Joins

section
variable {H : Type} {enc : TypeId × Value → H}

end
end Go.Proofs.Ytpigpikhjlmdoaa

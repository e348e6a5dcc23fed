/- The law on division. -/
import Derived.Test.YtpigpikhjlmdoaaM6
import Derived.Test.YtpigpikhjlmdoaaM7
namespace Go.Proofs.Ytpigpikhjlmdoaa
open Go.Hp
variable {G : World} {U : UH} {M : MH}

theorem Sz.div {z : Int} {k : Nat} (h : Sz z k) (u : Int) : Sz (z / u) k := Nat.lt_of_le_of_lt (Int.natAbs_ediv_le_natAbs z u) h
end Go.Proofs.Ytpigpikhjlmdoaa

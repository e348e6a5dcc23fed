/- Texts of this seat's own, merged: each begins with its own remark. -/
import Derived.Test.YtpigpikhjlmdoaaM19
import Derived.Test.YtpigpikhjlmdoaaM15
/- Walks of the reference of layer 9: rows of zeros, unit rows, sums of rows. -/
namespace Go.Proofs.Ytpigpikhjlmdoaa
open Go.Hp
variable {G : World} {U : UH} {M : MH}

end Go.Proofs.Ytpigpikhjlmdoaa

/- Walks of the reference of layer 9: elements, rows and matrices. -/
namespace Go.Proofs.Ytpigpikhjlmdoaa
open Go.Hp
variable {G : World} {U : UH} {M : MH}

end Go.Proofs.Ytpigpikhjlmdoaa

/- Walks of the reference of layer 9: matrices of rows, products, sums, transposes. -/
namespace Go.Proofs.Ytpigpikhjlmdoaa
open Go.Hp
variable {G : World} {U : UH} {M : MH}

end Go.Proofs.Ytpigpikhjlmdoaa

/- Walks of the reference of layer 9: products, sums, transposes, traces. -/
namespace Go.Proofs.Ytpigpikhjlmdoaa
open Go.Hp
variable {G : World} {U : UH} {M : MH}

end Go.Proofs.Ytpigpikhjlmdoaa

/- Texts of this seat's own, merged: each begins with its own remark. -/
import Derived.Test.YtpigpikhjlmdoaaGreatM19
import Derived.Test.YtpigpikhjlmdoaaGreatM15
/- Walks of the reference of layer 9: rows of zeros, unit rows, sums of rows. -/
namespace Go.Proofs.YtpigpikhjlmdoaaGreat
open Go.Hp
variable {G : World} {U : UH} {M : MH}

end Go.Proofs.YtpigpikhjlmdoaaGreat

/- Walks of the reference of layer 9: elements, rows and matrices. -/
namespace Go.Proofs.YtpigpikhjlmdoaaGreat
open Go.Hp
variable {G : World} {U : UH} {M : MH}

end Go.Proofs.YtpigpikhjlmdoaaGreat

/- Walks of the reference of layer 9: matrices of rows, products, sums, transposes. -/
namespace Go.Proofs.YtpigpikhjlmdoaaGreat
open Go.Hp
variable {G : World} {U : UH} {M : MH}

end Go.Proofs.YtpigpikhjlmdoaaGreat

/- Walks of the reference of layer 9: products, sums, transposes, traces. -/
namespace Go.Proofs.YtpigpikhjlmdoaaGreat
open Go.Hp
variable {G : World} {U : UH} {M : MH}

end Go.Proofs.YtpigpikhjlmdoaaGreat

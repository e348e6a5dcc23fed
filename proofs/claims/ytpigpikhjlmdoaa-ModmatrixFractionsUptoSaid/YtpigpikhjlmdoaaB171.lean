/- The law of layer 13 on the Chinese remainders. -/
import Derived.Test.YtpigpikhjlmdoaaB165
import Derived.Test.YtpigpikhjlmdoaaM44
import Derived.Test.YtpigpikhjlmdoaaRf
namespace Go.Proofs.Ytpigpikhjlmdoaa
open Go.Hp Go.Fq
variable {G : World} {U U' : UH} {M : MH}

end Go.Proofs.Ytpigpikhjlmdoaa

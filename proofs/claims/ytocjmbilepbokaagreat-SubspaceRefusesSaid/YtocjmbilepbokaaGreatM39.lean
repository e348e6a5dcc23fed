/- Texts of this seat's own, merged: each begins with its own remark. -/
import Derived.Test.YtocjmbilepbokaaGreatM38
/- Laws of layer 10: what is built. -/
namespace Go.Proofs.YtocjmbilepbokaaGreat
open Go.Hp
variable {G : World} {U U' : UH} {M M' : MH}

abbrev zeroS : Value := .agg #[.int .i64 0, .int .i64 0, .int .i64 0, .slice none 0 0]

end Go.Proofs.YtocjmbilepbokaaGreat

/- Laws of layer 10: what is built. -/
namespace Go.Proofs.YtocjmbilepbokaaGreat
open Go.Hp
variable {G : World} {U U' : UH} {M M' : MH}

end Go.Proofs.YtocjmbilepbokaaGreat

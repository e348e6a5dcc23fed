/- Texts of this seat's own, merged: each begins with its own remark. -/
import Derived.Test.YtahcddpdgpjbnaaM96
import Derived.Test.YtahcddpdgpjbnaaM23
import Derived.Test.YtahcddpdgpjbnaaM37
import Derived.Test.YtahcddpdgpjbnaaM26
import Derived.Test.YtahcddpdgpjbnaaM21
import Derived.Test.YtahcddpdgpjbnaaM24
import Derived.Test.YtahcddpdgpjbnaaM97
/- Walks of reference 09: values, symmetry, signatures. -/
namespace Go.Proofs.Ytahcddpdgpjbnaa
open Go.Hp
variable {G:World} {U U':UH} {M M':MH}
end Go.Proofs.Ytahcddpdgpjbnaa

/- Walks of matrix: symmetric, mix, turn. -/
namespace Go.Proofs.Ytahcddpdgpjbnaa
open Go.Hp
variable {G:World} {U U':UH} {M M':MH}
theorem Gs.read {c i j:Nat} {svs:List Value} {F:List MH} {A:Nat→Nat→Rat} (h:Gs rO c U svs F A) (hi:i < svs.length) (hj:j < c) (hM:F.flatten.Sublist M) :
  ∃ q c' vs x,svs[i]?=some (.slice q c c')∧RowAt U M 4 q c vs∧vs[j]?=some (QV.v x)∧x.nrm U [] (A i j):=by
 obtain ⟨q,c',vs,D,hv,hF,-,hR,hel,-,-⟩:=h.put hi
 have r:=hR.at (U:=U) (M:=M) ((List.sublist_flatten_of_mem (List.mem_of_getElem? hF)).trans hM)
 obtain ⟨v,hv2⟩:=r.at hj
 obtain ⟨x,rfl,hx⟩:=hel _ _ hv2
 exact ⟨q,c',vs,x,hv,r,hv2,hx⟩
def Vbl (_:UH) (v:Value) (b:Bool):Prop:=v = .bool b
end Go.Proofs.Ytahcddpdgpjbnaa

/- Walks of matrix: Signature. -/
namespace Go.Proofs.Ytahcddpdgpjbnaa
open Go.Hp
variable {G:World} {U U':UH} {M M':MH}
theorem Go.up {r c:Nat} {D:MH} {v:Value} {A:Nat→Nat→Rat} (h:Go rO r c U D v A) (hU:ULe U U'):Go rO r c U' D v A:=by
 obtain ⟨Do,F,p,cc,svs,h1,h2,h3,h4⟩:=h
 exact ⟨Do,F,p,cc,svs,h1,h2,h3,h4.up hU⟩
end Go.Proofs.Ytahcddpdgpjbnaa

/- Walks of reference 09: signatures. -/
namespace Go.Proofs.Ytahcddpdgpjbnaa
open Go.Hp
variable {G:World} {U U':UH} {M M':MH}
end Go.Proofs.Ytahcddpdgpjbnaa

/- The law of layer 9 on signatures. -/
namespace Go.Proofs.Ytahcddpdgpjbnaa
open Go.Hp
variable {G:World} {U U':UH} {M M':MH}
end Go.Proofs.Ytahcddpdgpjbnaa

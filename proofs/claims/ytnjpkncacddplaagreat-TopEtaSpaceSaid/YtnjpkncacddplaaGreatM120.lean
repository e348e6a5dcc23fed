/- Texts of this seat's own, merged: each begins with its own remark. -/
import Derived.Test.YtnjpkncacddplaaGreatM91
import Derived.Test.YtnjpkncacddplaaGreatM2
import Derived.Test.YtnjpkncacddplaaGreatM111
import Derived.Test.YtnjpkncacddplaaGreatM98
import Derived.Test.YtnjpkncacddplaaGreatM116
/- The functions that are run by the kernel. No condition. -/
namespace Go.Proofs.YtnjpkncacddplaaGreat
open Go.Hp Go.Gx
theorem gz0:FE Tryz.prog tys (11,FI.of Tryz.f11 [(2,([7],[0,1,2,3,4,5,6,7,8,9]))]):=Qp Tryz.func11 (by kernel_rfl)
theorem gz1:FE Tryz.prog tys (44,FI.of Tryz.f44 []):=Qp Tryz.func44 (by kernel_rfl)
theorem gz2:FE Tryz.prog tys (15,FI.of Tryz.f15 []):=Qp Tryz.func15 (by kernel_rfl)
theorem gz3:FE Tryz.prog tys (18,FI.of Tryz.f18 []):=Qp Tryz.func18 (by kernel_rfl)
theorem gz4:FE Tryz.prog tys (17,FI.of Tryz.f17 [(11,([5],[0,1,2,3,4,5,6])),(12,([3],[0,1,2,3,4]))]):=Qp Tryz.func17 (by kernel_rfl)
theorem gz5:FE Tryz.prog tys (37,FI.of Tryz.f37 []):=Qp Tryz.func37 (by kernel_rfl)
theorem gz6:FE Tryz.prog tys (39,FI.of Tryz.f39 []):=Qp Tryz.func39 (by kernel_rfl)
theorem gz7:FE Tryz.prog tys (38,FI.of Tryz.f38 []):=Qp Tryz.func38 (by kernel_rfl)
theorem gz8:FE Tryz.prog tys (41,FI.of Tryz.f41 []):=Qp Tryz.func41 (by kernel_rfl)
theorem gz9:FE Tryz.prog tys (80,FI.of Tryz.f80 []):=Qp Tryz.func80 (by kernel_rfl)
theorem gz10:FE Tryz.prog tys (42,FI.of Tryz.f42 []):=Qp Tryz.func42 (by kernel_rfl)
theorem gz11:FE Tryz.prog tys (81,FI.of Tryz.f81 []):=Qp Tryz.func81 (by kernel_rfl)
theorem gz12:FE Tryz.prog tys (43,FI.of Tryz.f43 []):=Qp Tryz.func43 (by kernel_rfl)
theorem gz13:FE Tryz.prog tys (48,FI.of Tryz.f48 []):=Qp Tryz.func48 (by kernel_rfl)
theorem gz14:FE Tryz.prog tys (49,FI.of Tryz.f49 []):=Qp Tryz.func49 (by kernel_rfl)
theorem gz15:FE Tryz.prog tys (45,FI.of Tryz.f45 []):=Qp Tryz.func45 (by kernel_rfl)
theorem gz16:FE Tryz.prog tys (46,FI.of Tryz.f46 [(0,([6],[0,1,2,3,4,5,6])),(1,([6],[0,1,2,3,4,5,6]))]):=Qp Tryz.func46 (by kernel_rfl)
theorem gz17:FE Tryz.prog tys (75,FI.of Tryz.f75 []):=Qp Tryz.func75 (by kernel_rfl)
theorem gz18:FE Tryz.prog tys (76,FI.of Tryz.f76 []):=Qp Tryz.func76 (by kernel_rfl)
theorem gz19:FE Tryz.prog tys (24,FI.of Tryz.f24 []):=Qp Tryz.func24 (by kernel_rfl)
theorem gz20:FE Tryz.prog tys (77,FI.of Tryz.f77 [(7,([9],[0,2,3,4,5,6,1,7,8,9])),(11,([7,9],[0,1,2,3,4,5,6,7,8,9])),(20,([12,13],[0,1,2,3,4,5,6,7,8,9,10,11,12,13])),(21,([8],[0,1,2,3,4,5,6,7,8,9]))]):=Qp Tryz.func77 (by kernel_rfl)
theorem gz21:FE Tryz.prog tys (79,FI.of Tryz.f79 []):=Qp Tryz.func79 (by kernel_rfl)
theorem gz22:FE Tryz.prog tys (78,FI.of Tryz.f78 [(6,([8],[0,1,2,3,4,5,6,7,8,9]))]):=Qp Tryz.func78 (by kernel_rfl)
theorem gz23:FE Tryz.prog tys (102,FI.of Tryz.f102 []):=Qp Tryz.func102 (by kernel_rfl)
theorem gz24:FE Tryz.prog tys (110,FI.of Tryz.f110 [(17,([12],[0,1,2,3,4,5,6,7,8,9,10,11,12,13,14]))]):=Qp Tryz.func110 (by kernel_rfl)
theorem gz25:FE Tryz.prog tys (82,FI.of Tryz.f82 [(0,([6],[0,1,2,3,4,5,6]))]):=Qp Tryz.func82 (by kernel_rfl)
theorem gz26:FE Tryz.prog tys (47,FI.of Tryz.f47 []):=Qp Tryz.func47 (by kernel_rfl)
theorem gz27:FE Tryz.prog tys (22,FI.of Tryz.f22 []):=Qp Tryz.func22 (by kernel_rfl)
theorem gz28:FE Tryz.prog tys (26,FI.of Tryz.f26 [(1,([9,10,11],[0,1,2,3,5,6,7,8,4,9,10,11]))]):=Qp Tryz.func26 (by kernel_rfl)
theorem gz29:FE Tryz.prog tys (57,FI.of Tryz.f57 [(7,([12],[0,1,2,3,5,6,7,8,4,9,10,11,12])),(8,([6,7],[0,1,2,3,4,5,6,7]))]):=Qp Tryz.func57 (by kernel_rfl)
theorem gz30:FE Tryz.prog tys (106,FI.of Tryz.f106 [(1,([3,4],[0,1,2,3,4]))]):=Qp Tryz.func106 (by kernel_rfl)
theorem gz31:FE Tryz.prog tys (23,FI.of Tryz.f23 [(3,([9,10,11],[0,1,2,3,5,6,7,8,4,9,10,11,12]))]):=Qp Tryz.func23 (by kernel_rfl)
theorem gz32:FE Tryz.prog tys (107,FI.of Tryz.f107 []):=Qp Tryz.func107 (by kernel_rfl)
theorem gz33:FE Tryz.prog tys (109,FI.of Tryz.f109 []):=Qp Tryz.func109 (by kernel_rfl)
theorem gz34:FE Tryz.prog tys (108,FI.of Tryz.f108 []):=Qp Tryz.func108 (by kernel_rfl)
theorem gz35:FE Tryz.prog tys (103,FI.of Tryz.f103 []):=Qp Tryz.func103 (by kernel_rfl)
theorem gz36:FE Tryz.prog tys (116,FI.of Tryz.f116 []):=Qp Tryz.func116 (by kernel_rfl)
theorem gz37:FE Tryz.prog tys (118,FI.of Tryz.f118 [(4,([13],[0,1,2,3,4,5,6,7,8,9,10,11,12,13,14])),(6,([15,17],[0,1,2,3,5,6,7,8,9,10,11,12,13,14,4,15,16,17]))]):=Qp Tryz.func118 (by kernel_rfl)
theorem gz38:FE Tryz.prog tys (119,FI.of Tryz.f119 [(10,([17,19],[0,1,2,3,4,6,7,8,9,10,11,12,13,14,15,16,5,17,18,19]))]):=Qp Tryz.func119 (by kernel_rfl)
theorem gz39:FE Tryz.prog tys (120,FI.of Tryz.f120 [(10,([17,19],[0,1,2,3,4,6,7,8,9,10,11,12,13,14,15,16,5,17,18,19]))]):=Qp Tryz.func120 (by kernel_rfl)
theorem gz40:FE Tryz.prog tys (121,FI.of Tryz.f121 []):=Qp Tryz.func121 (by kernel_rfl)
theorem gz41:FE Tryz.prog tys (122,FI.of Tryz.f122 [(3,([13,15],[0,1,2,3,4,5,6,7,8,9,10,11,12,13,14,15]))]):=Qp Tryz.func122 (by kernel_rfl)
theorem gz42:FE Tryz.prog tys (123,FI.of Tryz.f123 [(5,([13],[0,1,2,3,4,5,6,7,8,9,10,11,12,13,14,15])),(11,([15,17],[0,1,2,3,5,6,7,8,9,10,11,12,13,14,4,15,16,17])),(16,([9],[0,1,2,3,4,5,6,7,8,9,10])),(17,([15,17],[0,1,2,3,5,6,7,8,9,10,11,12,13,14,4,15,16,17])),(22,([9],[0,1,2,3,4,5,6,7,8,9,10])),(23,([15,17],[0,1,2,3,5,6,7,8,9,10,11,12,13,14,4,15,16,17]))]):=Qp Tryz.func123 (by kernel_rfl)
theorem gz43:FE Tryz.prog tys (124,FI.of Tryz.f124 []):=Qp Tryz.func124 (by kernel_rfl)
theorem gz44:FE Tryz.prog tys (125,FI.of Tryz.f125 [(1,([13,15],[0,1,2,3,4,5,6,7,8,9,10,11,12,13,14,15])),(3,([12],[0,1,2,3,4,5,6,7,8,9,10,11,12,13,14])),(5,([12],[0,1,2,3,4,5,6,7,8,9,10,11,12,13])),(8,([13,15],[0,1,2,3,4,5,6,7,8,9,10,11,12,13,14,15]))]):=Qp Tryz.func125 (by kernel_rfl)
theorem gz45:FE Tryz.prog tys (126,FI.of Tryz.f126 [(1,([13,15],[0,1,2,3,4,5,6,7,8,9,10,11,12,13,14,15])),(3,([12],[0,1,2,3,4,5,6,7,8,9,10,11,12,13])),(5,([12],[0,1,2,3,4,5,6,7,8,9,10,11,12,13,14])),(8,([13,15],[0,1,2,3,4,5,6,7,8,9,10,11,12,13,14,15])),(10,([13,15],[0,1,2,3,4,5,6,7,8,9,10,11,12,13,14,15])),(13,([12],[0,1,2,3,4,5,6,7,8,9,10,11,12,13])),(15,([12],[0,1,2,3,4,5,6,7,8,9,10,11,12,13,14])),(18,([13,15],[0,1,2,3,4,5,6,7,8,9,10,11,12,13,14,15])),(21,([13,15],[0,1,2,3,4,5,6,7,8,9,10,11,12,13,14,15]))]):=Qp Tryz.func126 (by kernel_rfl)
theorem gz46:FE Tryz.prog tys (59,FI.of Tryz.f59 []):=Qp Tryz.func59 (by kernel_rfl)
theorem gz47:FE Tryz.prog tys (58,FI.of Tryz.f58 []):=Qp Tryz.func58 (by kernel_rfl)
theorem gz48:FE Tryz.prog tys (30,FI.of Tryz.f30 [(1,([12,13],[0,1,2,3,4,5,6,8,9,7,10,11,12,13]))]):=Qp Tryz.func30 (by kernel_rfl)
theorem gz49:FE Tryz.prog tys (60,FI.of Tryz.f60 [(1,([3,4,5],[0,2,1,3,4,5])),(5,([3,4,5],[0,2,1,3,4,5]))]):=Qp Tryz.func60 (by kernel_rfl)
theorem gz50:FE Tryz.prog tys (35,FI.of Tryz.f35 []):=Qp Tryz.func35 (by kernel_rfl)
theorem gz51:FE Tryz.prog tys (27,FI.of Tryz.f27 []):=Qp Tryz.func27 (by kernel_rfl)
theorem gz52:FE Tryz.prog tys (87,FI.of Tryz.f87 []):=Qp Tryz.func87 (by kernel_rfl)
theorem gz53:FE Tryz.prog tys (73,FI.of Tryz.f73 [(1,([6,7],[0,1,2,3,4,5,6,7]))]):=Qp Tryz.func73 (by kernel_rfl)
theorem gz54:FE Tryz.prog tys (56,FI.of Tryz.f56 [(1,([5,6],[0,1,3,4,2,5,6]))]):=Qp Tryz.func56 (by kernel_rfl)
theorem gz55:FE Tryz.prog tys (54,FI.of Tryz.f54 [(1,([5],[0,1,3,4,2,5,6,7]))]):=Qp Tryz.func54 (by kernel_rfl)
theorem gz56:FE Tryz.prog tys (117,FI.of Tryz.f117 [(6,([],[0,1,2,3,4,5,6,7,8,9,10]))]):=Qp Tryz.func117 (by kernel_rfl)
theorem gz57:FE Tryz.prog tys (128,FI.of Tryz.f128 [(3,([18],[0,1,2,3,4,5,6,7,8,9,10,11,12,13,14,15,16,17,18,19])),(5,([12],[0,1,2,3,4,5,6,7,8,9,10,11,12,13])),(6,([21,23],[0,1,2,3,4,5,6,8,9,10,11,12,13,14,15,16,17,18,19,20,7,21,22,23]))]):=Qp Tryz.func128 (by kernel_rfl)
theorem gz58:FE Tryz.prog tys (129,FI.of Tryz.f129 []):=Qp Tryz.func129 (by kernel_rfl)
theorem gz59:FE Tryz.prog tys (130,FI.of Tryz.f130 [(1,([9],[0,1,2,3,4,5,6,7,8,9])),(2,([9],[0,1,2,3,4,5,6,7,8,9])),(3,([9],[0,1,2,3,4,5,6,7,8,9]))]):=Qp Tryz.func130 (by kernel_rfl)
theorem gz60:FE Tryz.prog tys (131,FI.of Tryz.f131 []):=Qp Tryz.func131 (by kernel_rfl)
theorem gz61:FE Tryz.prog tys (132,FI.of Tryz.f132 []):=Qp Tryz.func132 (by kernel_rfl)
theorem gz62:FE Tryz.prog tys (133,FI.of Tryz.f133 []):=Qp Tryz.func133 (by kernel_rfl)
theorem gz63:FE Tryz.prog tys (63,FI.of Tryz.f63 []):=Qp Tryz.func63 (by kernel_rfl)
theorem gz64:FE Tryz.prog tys (64,FI.of Tryz.f64 [(4,([9],[0,1,2,3,4,5,6,7,8,9,10]))]):=Qp Tryz.func64 (by kernel_rfl)
theorem gz65:FE Tryz.prog tys (88,FI.of Tryz.f88 [(1,([6,7],[0,1,2,3,4,5,6,7]))]):=Qp Tryz.func88 (by kernel_rfl)
theorem gz66:FE Tryz.prog tys (86,FI.of Tryz.f86 [(1,([7,8],[0,1,2,3,4,5,6,7,8]))]):=Qp Tryz.func86 (by kernel_rfl)
theorem gz67:FE Tryz.prog tys (29,FI.of Tryz.f29 [(1,([5,6,7,8],[0,1,3,4,2,5,6,7,8]))]):=Qp Tryz.func29 (by kernel_rfl)
theorem gz68:FE Tryz.prog tys (28,FI.of Tryz.f28 []):=Qp Tryz.func28 (by kernel_rfl)
theorem gz69:FE Tryz.prog tys (104,FI.of Tryz.f104 [(5,([5,6],[0,1,2,3,4,5,6]))]):=Qp Tryz.func104 (by kernel_rfl)
theorem gz70:FE Tryz.prog tys (134,FI.of Tryz.f134 [(1,([8],[0,1,2,3,4,5,6,7,8]))]):=Qp Tryz.func134 (by kernel_rfl)
theorem gz71:FE Tryz.prog tys (93,FI.of Tryz.f93 []):=Qp Tryz.func93 (by kernel_rfl)
theorem gz72:FE Tryz.prog tys (62,FI.of Tryz.f62 [(5,([],[0,1,2,3,4,5]))]):=Qp Tryz.func62 (by kernel_rfl)
theorem gz73:FE Tryz.prog tys (34,FI.of Tryz.f34 []):=Qp Tryz.func34 (by kernel_rfl)
theorem gz74:FE Tryz.prog tys (69,FI.of Tryz.f69 []):=Qp Tryz.func69 (by kernel_rfl)
theorem gz75:FE Tryz.prog tys (94,FI.of Tryz.f94 [(6,([],[0,1,2,3,4,5,6,7,8])),(7,([],[0,1,2,3,4,5,6,7,8]))]):=Qp Tryz.func94 (by kernel_rfl)
theorem gz76:FE Tryz.prog tys (70,FI.of Tryz.f70 []):=Qp Tryz.func70 (by kernel_rfl)
theorem gz77:FE Tryz.prog tys (65,FI.of Tryz.f65 [(6,([],[0,1,2,3,4,5,6,7,8,9,10]))]):=Qp Tryz.func65 (by kernel_rfl)
theorem gz78:FE Tryz.prog tys (68,FI.of Tryz.f68 [(5,([7],[0,1,2,4,5,6,3,7,8,9])),(17,([6,7],[0,2,3,4,5,1,6,7,8,9]))]):=Qp Tryz.func68 (by kernel_rfl)
theorem gz79:FE Tryz.prog tys (100,FI.of Tryz.f100 []):=Qp Tryz.func100 (by kernel_rfl)
theorem gz80:FE Tryz.prog tys (105,FI.of Tryz.f105 []):=Qp Tryz.func105 (by kernel_rfl)
theorem gz81:FE Tryz.prog tys (101,FI.of Tryz.f101 []):=Qp Tryz.func101 (by kernel_rfl)
theorem gz82:FE Tryz.prog tys (95,FI.of Tryz.f95 []):=Qp Tryz.func95 (by kernel_rfl)
theorem gz83:FE Tryz.prog tys (96,FI.of Tryz.f96 []):=Qp Tryz.func96 (by kernel_rfl)
theorem gz84:FE Tryz.prog tys (97,FI.of Tryz.f97 []):=Qp Tryz.func97 (by kernel_rfl)
theorem gz85:FE Tryz.prog tys (98,FI.of Tryz.f98 [(2,([],[0,1,2,3,4,5,6,7,8,9,10,11,12,13])),(3,([],[0,1,2,3,4,5,6,7,8,9,10,11,12,13,14,15,16,17])),(4,([],[0,1,2,3,4,5,6,7,8,9,10,11,12,13,14,15,16,17,18,19,20,21]))]):=Qp Tryz.func98 (by kernel_rfl)
theorem gz86:FE Tryz.prog tys (99,FI.of Tryz.f99 []):=Qp Tryz.func99 (by kernel_rfl)
theorem gz87:FE Tryz.prog tys (115,FI.of Tryz.f115 [(4,([],[0,1,2,3,4,5,6,7,8,9,10,11]))]):=Qp Tryz.func115 (by kernel_rfl)
noncomputable def fnL3:List (Nat × FI):=[
 (11,FI.of Tryz.f11 [(2,([7],[0,1,2,3,4,5,6,7,8,9]))]),
 (44,FI.of Tryz.f44 []),
 (15,FI.of Tryz.f15 []),
 (18,FI.of Tryz.f18 []),
 (17,FI.of Tryz.f17 [(11,([5],[0,1,2,3,4,5,6])),(12,([3],[0,1,2,3,4]))]),
 (37,FI.of Tryz.f37 []),
 (39,FI.of Tryz.f39 []),
 (38,FI.of Tryz.f38 []),
 (41,FI.of Tryz.f41 []),
 (80,FI.of Tryz.f80 []),
 (42,FI.of Tryz.f42 []),
 (81,FI.of Tryz.f81 []),
 (43,FI.of Tryz.f43 []),
 (48,FI.of Tryz.f48 []),
 (49,FI.of Tryz.f49 []),
 (45,FI.of Tryz.f45 []),
 (46,FI.of Tryz.f46 [(0,([6],[0,1,2,3,4,5,6])),(1,([6],[0,1,2,3,4,5,6]))]),
 (75,FI.of Tryz.f75 []),
 (76,FI.of Tryz.f76 []),
 (24,FI.of Tryz.f24 []),
 (77,FI.of Tryz.f77 [(7,([9],[0,2,3,4,5,6,1,7,8,9])),(11,([7,9],[0,1,2,3,4,5,6,7,8,9])),(20,([12,13],[0,1,2,3,4,5,6,7,8,9,10,11,12,13])),(21,([8],[0,1,2,3,4,5,6,7,8,9]))]),
 (79,FI.of Tryz.f79 []),
 (78,FI.of Tryz.f78 [(6,([8],[0,1,2,3,4,5,6,7,8,9]))]),
 (102,FI.of Tryz.f102 []),
 (110,FI.of Tryz.f110 [(17,([12],[0,1,2,3,4,5,6,7,8,9,10,11,12,13,14]))]),
 (82,FI.of Tryz.f82 [(0,([6],[0,1,2,3,4,5,6]))]),
 (47,FI.of Tryz.f47 []),
 (22,FI.of Tryz.f22 []),
 (26,FI.of Tryz.f26 [(1,([9,10,11],[0,1,2,3,5,6,7,8,4,9,10,11]))]),
 (57,FI.of Tryz.f57 [(7,([12],[0,1,2,3,5,6,7,8,4,9,10,11,12])),(8,([6,7],[0,1,2,3,4,5,6,7]))]),
 (106,FI.of Tryz.f106 [(1,([3,4],[0,1,2,3,4]))]),
 (23,FI.of Tryz.f23 [(3,([9,10,11],[0,1,2,3,5,6,7,8,4,9,10,11,12]))]),
 (107,FI.of Tryz.f107 []),
 (109,FI.of Tryz.f109 []),
 (108,FI.of Tryz.f108 []),
 (103,FI.of Tryz.f103 []),
 (116,FI.of Tryz.f116 []),
 (118,FI.of Tryz.f118 [(4,([13],[0,1,2,3,4,5,6,7,8,9,10,11,12,13,14])),(6,([15,17],[0,1,2,3,5,6,7,8,9,10,11,12,13,14,4,15,16,17]))]),
 (119,FI.of Tryz.f119 [(10,([17,19],[0,1,2,3,4,6,7,8,9,10,11,12,13,14,15,16,5,17,18,19]))]),
 (120,FI.of Tryz.f120 [(10,([17,19],[0,1,2,3,4,6,7,8,9,10,11,12,13,14,15,16,5,17,18,19]))]),
 (121,FI.of Tryz.f121 []),
 (122,FI.of Tryz.f122 [(3,([13,15],[0,1,2,3,4,5,6,7,8,9,10,11,12,13,14,15]))]),
 (123,FI.of Tryz.f123 [(5,([13],[0,1,2,3,4,5,6,7,8,9,10,11,12,13,14,15])),(11,([15,17],[0,1,2,3,5,6,7,8,9,10,11,12,13,14,4,15,16,17])),(16,([9],[0,1,2,3,4,5,6,7,8,9,10])),(17,([15,17],[0,1,2,3,5,6,7,8,9,10,11,12,13,14,4,15,16,17])),(22,([9],[0,1,2,3,4,5,6,7,8,9,10])),(23,([15,17],[0,1,2,3,5,6,7,8,9,10,11,12,13,14,4,15,16,17]))]),
 (124,FI.of Tryz.f124 []),
 (125,FI.of Tryz.f125 [(1,([13,15],[0,1,2,3,4,5,6,7,8,9,10,11,12,13,14,15])),(3,([12],[0,1,2,3,4,5,6,7,8,9,10,11,12,13,14])),(5,([12],[0,1,2,3,4,5,6,7,8,9,10,11,12,13])),(8,([13,15],[0,1,2,3,4,5,6,7,8,9,10,11,12,13,14,15]))]),
 (126,FI.of Tryz.f126 [(1,([13,15],[0,1,2,3,4,5,6,7,8,9,10,11,12,13,14,15])),(3,([12],[0,1,2,3,4,5,6,7,8,9,10,11,12,13])),(5,([12],[0,1,2,3,4,5,6,7,8,9,10,11,12,13,14])),(8,([13,15],[0,1,2,3,4,5,6,7,8,9,10,11,12,13,14,15])),(10,([13,15],[0,1,2,3,4,5,6,7,8,9,10,11,12,13,14,15])),(13,([12],[0,1,2,3,4,5,6,7,8,9,10,11,12,13])),(15,([12],[0,1,2,3,4,5,6,7,8,9,10,11,12,13,14])),(18,([13,15],[0,1,2,3,4,5,6,7,8,9,10,11,12,13,14,15])),(21,([13,15],[0,1,2,3,4,5,6,7,8,9,10,11,12,13,14,15]))]),
 (59,FI.of Tryz.f59 []),
 (58,FI.of Tryz.f58 []),
 (30,FI.of Tryz.f30 [(1,([12,13],[0,1,2,3,4,5,6,8,9,7,10,11,12,13]))]),
 (60,FI.of Tryz.f60 [(1,([3,4,5],[0,2,1,3,4,5])),(5,([3,4,5],[0,2,1,3,4,5]))]),
 (35,FI.of Tryz.f35 []),
 (27,FI.of Tryz.f27 []),
 (87,FI.of Tryz.f87 []),
 (73,FI.of Tryz.f73 [(1,([6,7],[0,1,2,3,4,5,6,7]))]),
 (56,FI.of Tryz.f56 [(1,([5,6],[0,1,3,4,2,5,6]))]),
 (54,FI.of Tryz.f54 [(1,([5],[0,1,3,4,2,5,6,7]))]),
 (117,FI.of Tryz.f117 [(6,([],[0,1,2,3,4,5,6,7,8,9,10]))]),
 (128,FI.of Tryz.f128 [(3,([18],[0,1,2,3,4,5,6,7,8,9,10,11,12,13,14,15,16,17,18,19])),(5,([12],[0,1,2,3,4,5,6,7,8,9,10,11,12,13])),(6,([21,23],[0,1,2,3,4,5,6,8,9,10,11,12,13,14,15,16,17,18,19,20,7,21,22,23]))]),
 (129,FI.of Tryz.f129 []),
 (130,FI.of Tryz.f130 [(1,([9],[0,1,2,3,4,5,6,7,8,9])),(2,([9],[0,1,2,3,4,5,6,7,8,9])),(3,([9],[0,1,2,3,4,5,6,7,8,9]))]),
 (131,FI.of Tryz.f131 []),
 (132,FI.of Tryz.f132 []),
 (133,FI.of Tryz.f133 []),
 (63,FI.of Tryz.f63 []),
 (64,FI.of Tryz.f64 [(4,([9],[0,1,2,3,4,5,6,7,8,9,10]))]),
 (88,FI.of Tryz.f88 [(1,([6,7],[0,1,2,3,4,5,6,7]))]),
 (86,FI.of Tryz.f86 [(1,([7,8],[0,1,2,3,4,5,6,7,8]))]),
 (29,FI.of Tryz.f29 [(1,([5,6,7,8],[0,1,3,4,2,5,6,7,8]))]),
 (28,FI.of Tryz.f28 []),
 (104,FI.of Tryz.f104 [(5,([5,6],[0,1,2,3,4,5,6]))]),
 (134,FI.of Tryz.f134 [(1,([8],[0,1,2,3,4,5,6,7,8]))]),
 (93,FI.of Tryz.f93 []),
 (62,FI.of Tryz.f62 [(5,([],[0,1,2,3,4,5]))]),
 (34,FI.of Tryz.f34 []),
 (69,FI.of Tryz.f69 []),
 (94,FI.of Tryz.f94 [(6,([],[0,1,2,3,4,5,6,7,8])),(7,([],[0,1,2,3,4,5,6,7,8]))]),
 (70,FI.of Tryz.f70 []),
 (65,FI.of Tryz.f65 [(6,([],[0,1,2,3,4,5,6,7,8,9,10]))]),
 (68,FI.of Tryz.f68 [(5,([7],[0,1,2,4,5,6,3,7,8,9])),(17,([6,7],[0,2,3,4,5,1,6,7,8,9]))]),
 (100,FI.of Tryz.f100 []),
 (105,FI.of Tryz.f105 []),
 (101,FI.of Tryz.f101 []),
 (95,FI.of Tryz.f95 []),
 (96,FI.of Tryz.f96 []),
 (97,FI.of Tryz.f97 []),
 (98,FI.of Tryz.f98 [(2,([],[0,1,2,3,4,5,6,7,8,9,10,11,12,13])),(3,([],[0,1,2,3,4,5,6,7,8,9,10,11,12,13,14,15,16,17])),(4,([],[0,1,2,3,4,5,6,7,8,9,10,11,12,13,14,15,16,17,18,19,20,21]))]),
 (99,FI.of Tryz.f99 []),
 (115,FI.of Tryz.f115 [(4,([],[0,1,2,3,4,5,6,7,8,9,10,11]))])]
noncomputable def fnT3:Tr FI:=bld fnL3
set_option maxRecDepth 100000 in
theorem fnOK3:FOK Tryz.prog tys fnT3:=QjT (by kernel_rfl) (Qi gz0
 (Qi gz1
 (Qi gz2
 (Qi gz3
 (Qi gz4
 (Qi gz5
 (Qi gz6
 (Qi gz7
 (Qi gz8
 (Qi gz9
 (Qi gz10
 (Qi gz11
 (Qi gz12
 (Qi gz13
 (Qi gz14
 (Qi gz15
 (Qi gz16
 (Qi gz17
 (Qi gz18
 (Qi gz19
 (Qi gz20
 (Qi gz21
 (Qi gz22
 (Qi gz23
 (Qi gz24
 (Qi gz25
 (Qi gz26
 (Qi gz27
 (Qi gz28
 (Qi gz29
 (Qi gz30
 (Qi gz31
 (Qi gz32
 (Qi gz33
 (Qi gz34
 (Qi gz35
 (Qi gz36
 (Qi gz37
 (Qi gz38
 (Qi gz39
 (Qi gz40
 (Qi gz41
 (Qi gz42
 (Qi gz43
 (Qi gz44
 (Qi gz45
 (Qi gz46
 (Qi gz47
 (Qi gz48
 (Qi gz49
 (Qi gz50
 (Qi gz51
 (Qi gz52
 (Qi gz53
 (Qi gz54
 (Qi gz55
 (Qi gz56
 (Qi gz57
 (Qi gz58
 (Qi gz59
 (Qi gz60
 (Qi gz61
 (Qi gz62
 (Qi gz63
 (Qi gz64
 (Qi gz65
 (Qi gz66
 (Qi gz67
 (Qi gz68
 (Qi gz69
 (Qi gz70
 (Qi gz71
 (Qi gz72
 (Qi gz73
 (Qi gz74
 (Qi gz75
 (Qi gz76
 (Qi gz77
 (Qi gz78
 (Qi gz79
 (Qi gz80
 (Qi gz81
 (Qi gz82
 (Qi gz83
 (Qi gz84
 (Qi gz85
 (Qi gz86
 (Qi gz87 QjK))))))))))))))))))))))))))))))))))))))))))))))))))))))))))))))))))))))))))))))))))))))))
end Go.Proofs.YtnjpkncacddplaaGreat

/- Runs for the law TopEtaSpace. No condition. -/
namespace Go.Gx
open Go.Hp
variable {P:Program} {T:TT} {Q:Tab} {G:World} {U U' U1:UH} {M D:MH} {φ:Phi}
def isNl:Option (SV × Mm)→Bool
 | some (.tup [.one .sn,.one (.it k e)],_)=>kEq k .i64 && decide (e=0)
 | _=>false
theorem Qgc (hQ:TabOK P T Q U) {F:Tr FI} (hF:FOK P T F) {S:CallF} (hS:CallsOK P U S) {lf fuel f:Nat} {args:List GV} {ys:List Value} (h:isNl (runK F S Q lf fuel f args)=true) (hy:gdens ⟨[],[]⟩ args=some ys) :
  Ct P f ys G U M fun v U' D=>v = .tuple #[.slice none 0 0,.int .i64 0]∧D=[]:=by
 unfold isNl at h
 split at h
 ·rename_i k e m' hr
  simp only [Bool.and_eq_true,decide_eq_true_eq] at h
  obtain ⟨h1,rfl⟩:=h
  obtain rfl:=YX h1
  have hC:=jd (G:=G) (M:=M) hQ hF hS hr hy
  refine ⟨hC.1,fun w hw=>(hC.2 w hw).mono ?_⟩
  rintro e w' ⟨v,U',D,rfl,hle,hm,rfl,φ,D',rfl,h1,h2⟩
  obtain ⟨U2,u1,u2,u3⟩:=Yr hm
  have h2:some (Value.tuple #[.slice none 0 0,.int .i64 0])=some v:=h1
  simp only [Option.some.injEq] at h2
  exact ⟨v,U2,[],rfl,u1,u2,h2.symm,rfl⟩
 ·cases h
def isBd (lo hi:Int):Option (SV × Mm)→Bool
 | some (.tup [.one (.it k1 a),.one (.it k2 b)],_)=>kEq k1 .i64 && kEq k2 .i64 && decide (lo≤a) && decide (a≤hi) && decide (b=0)
 | _=>false
theorem Qht (hQ:TabOK P T Q U) {F:Tr FI} (hF:FOK P T F) {S:CallF} (hS:CallsOK P U S) {lf fuel f:Nat} {args:List GV} {ys:List Value} {lo hi:Int} (h:isBd lo hi (runK F S Q lf fuel f args)=true) (hy:gdens ⟨[],[]⟩ args=some ys) :
  Ct P f ys G U M fun v U' _=>U'=U∧∃ a:Int,v = .tuple #[.int .i64 a,.int .i64 0]∧lo≤a∧a≤hi:=by
 unfold isBd at h
 split at h
 ·rename_i k1 a k2 b m' hr
  simp only [Bool.and_eq_true,decide_eq_true_eq] at h
  obtain ⟨⟨⟨⟨h1,h2⟩,h3⟩,h4⟩,rfl⟩:=h
  obtain rfl:=YX h1
  obtain rfl:=YX h2
  refine (jd hQ hF hS hr hy).mono ?_
  rintro v U' D - ⟨rfl,φ,-,-,h1,-⟩
  have h2:some (Value.tuple #[.int .i64 a,.int .i64 0])=some v:=h1
  simp only [Option.some.injEq] at h2
  exact ⟨rfl,a,h2.symm,h3,h4⟩
 ·cases h
end Go.Gx
namespace Go.Et
open Go.Rp (tz divs)
def ps6 (N:Nat):List Nat:=(divs 600 N).filter isP
def flat2:List (Nat × Nat)→List Int
 | []=>[]
 | f::r=>(f.1:Int)::(f.2:Int)::flat2 r
theorem Qam:∀ (l:List (Nat × Nat)),(flat2 l).length=l.length*2
 | []=>rfl
 | f::r=>by
  show (flat2 r).length+1+1=(r.length+1)*2
  rw [Qam r]; omega
def fac6 (N:Nat):List (Nat × Nat):=(ps6 N).map fun p=>(p,vp p 10 N)
def eqn:List Nat→List Nat→Bool
 | [],[]=>true
 | a::r,b::s=>Nat.beq a b && eqn r s
 | _,_=>false
theorem QcO:∀ {l r:List Nat},eqn l r=true→l=r
 | [],[],_=>rfl
 | a::l,b::r,h=>by
  unfold eqn at h
  rw [Bool.and_eq_true] at h
  rw [Nat.eq_of_beq_eq_true h.1,QcO h.2]
 | [],_::_,h=>by cases h
 | _::_,[],h=>by cases h
def chk6 (N:Nat):Bool:=Nat.ble (ps6 N).length 4 && ((ps6 N).all (fun p=>Nat.ble 2 p && Nat.ble p 600) && (Nat.blt 120 N || (eqn (ps6 N) (ps N) && eqn (divs 600 N) (divs 120 N))))
end Go.Et
namespace Go.Proofs.YtnjpkncacddplaaGreat
open Go.Hp Go.Gx Go.Rp Go.Et
noncomputable def edivR (n:Nat):Bool:=isRw 1 (divs 600 n).length ((divs 600 n).map fun m:Nat=>(m:Int)) (runK fnT3 noCall tb0 10000 100 44 [.one (.it .i64 (n:Int))])
noncomputable def efacR (n:Nat):Bool:=bif Nat.beq n 1 then isNl (runK fnT3 noCall tb0 10000 100 15 [.one (.it .i64 (n:Int))]) else isRw 2 (fac6 n).length (flat2 (fac6 n)) (runK fnT3 noCall tb0 10000 100 15 [.one (.it .i64 (n:Int))])
noncomputable def epsiR (n:Nat):Bool:=isBd 0 600 (runK fnT3 noCall tb0 10000 100 18 [.one (.it .i64 (n:Int))])
noncomputable def efunR (z:Int):Bool:=bif fundB z then isT [z,1,0] (runK fnT3 noCall tb0 10000 100 17 [.one (.it .i64 z)]) else true
end Go.Proofs.YtnjpkncacddplaaGreat

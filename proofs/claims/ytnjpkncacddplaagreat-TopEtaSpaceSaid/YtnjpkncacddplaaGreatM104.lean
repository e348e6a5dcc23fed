/- Texts of this seat's own, merged: each begins with its own remark. -/
import Derived.KernelRfl
/- Sums over boxes, generating numbers, representations by a binary form. Plain. -/
namespace Go.Rp
def smI (g:Int→Int) (lo:Int):Nat→Int
 | 0=>0
 | k+1=>smI g lo k+g (lo+k)
def box (g:Int→Int) (h:Nat):Int:=smI g (-(h:Int)) (2*h+1)
def qf (a b c x y:Int):Int:=a*x*x+b*x*y+c*y*y
def ind (a b c n x y:Int):Int:=if qf a b c x y=n then 1 else 0
def rp (X Y:Nat) (a b c n:Int):Int:=box (fun y=>box (fun x=>ind a b c n x y) X) Y
def Bn:Nat:=65536
def gs (f:Nat→Int):Nat→Int
 | 0=>0
 | k+1=>gs f k+f (k+1)*((Bn ^ (k+1):Nat):Int)
def val (N:Nat):Int→Int
 | .ofNat v=>bif Nat.ble 1 v && Nat.ble v N then ((Bn ^ v:Nat):Int) else 0
 | .negSucc _=>0
def sN (f:Nat→Int):Nat→Int
 | 0=>0
 | k+1=>sN f k+f (k+1)
def geo (m:Nat):Nat→Int
 | 0=>0
 | k+1=>geo m k+((Bn ^ (m*(k+1)):Nat):Int)
def divs (N n:Nat):List Nat:=(List.range' 1 N).filter fun m=>Nat.beq (n % m) 0
end Go.Rp

/- Representations by the reduced forms of a fundamental discriminant: the finite check. Plain. -/
namespace Go.Rp
def tz:Nat→Nat→Nat
 | 0,_=>0
 | f+1,a=>bif Nat.beq (a % 2) 0 then tz f (a / 2)+1 else 0
def jac:Nat→Nat→Nat→Int→Int
 | 0,_,_,_=>0
 | f+1,a,m,o=>bif Nat.beq a 0 then (bif Nat.beq m 1 then o else 0) else
  jac f (m % (a / 2 ^ tz 9 a)) (a / 2 ^ tz 9 a)
   (bif Nat.beq (a / 2 ^ tz 9 a % 4) 3 && Nat.beq (m % 4) 3 then -(bif Nat.beq (tz 9 a % 2) 1 && (Nat.beq (m % 8) 3 || Nat.beq (m % 8) 5) then -o else o) else (bif Nat.beq (tz 9 a % 2) 1 && (Nat.beq (m % 8) 3 || Nat.beq (m % 8) 5) then -o else o))
def kr (D n:Nat):Int :=
 bif Nat.ble 1 (tz 9 n) && Nat.beq (D % 2) 0 then 0 else
  (bif Nat.beq (tz 9 n % 2) 1 && (Nat.beq ((8 - D % 8) % 8) 3 || Nat.beq ((8 - D % 8) % 8) 5) then -1 else 1)*jac 401 ((n / 2 ^ tz 9 n - D % (n / 2 ^ tz 9 n)) % (n / 2 ^ tz 9 n)) (n / 2 ^ tz 9 n) 1
def gcdN (a b:Nat):Nat:=Nat.gcd a b
def clsA (D a:Nat):List (Int × Int × Int):=(List.range (2*a)).filterMap fun i =>
 bif Nat.beq (((bif Nat.ble a (i+1) then i+1 - a else a - (i+1))*(bif Nat.ble a (i+1) then i+1 - a else a - (i+1))+D) % (4*a)) 0 then
  one a (i+1) (bif Nat.ble a (i+1) then i+1 - a else a - (i+1)) (((bif Nat.ble a (i+1) then i+1 - a else a - (i+1))*(bif Nat.ble a (i+1) then i+1 - a else a - (i+1))+D) / (4*a))
 else none
where
 one (a j b c:Nat):Option (Int × Int × Int):=bif Nat.blt c a || (Nat.beq c a && Nat.blt j a) || Nat.blt 1 (gcdN (gcdN a b) c) then none else some ((a:Int),(bif Nat.ble a j then (b:Int) else -(b:Int)),(c:Int))
def cls (D:Nat):List (Int × Int × Int):=(List.range' 1 11).flatMap fun a=>bif Nat.ble (3*(a*a)) D then clsA D a else []
def rtN:Nat→Nat→Nat
 | 0,_=>0
 | k+1,q=>bif Nat.ble ((k+1)*(k+1)) q then k+1 else rtN k q
def bX (D:Nat) (f:Int × Int × Int):Nat:=rtN 40 (1600*f.2.2.toNat / D)
def bY (D:Nat) (f:Int × Int × Int):Nat:=rtN 40 (1600*f.1.toNat / D)
def okF (D:Nat) (f:Int × Int × Int):Bool :=
 decide (0 < f.1∧f.1≤20) && (decide (-f.1 < f.2.1) && (decide (f.2.1≤f.1) && (decide (f.1≤f.2.2) && (decide (f.2.2≤200) && ((decide (f.1 < f.2.2) || decide (0≤f.2.1)) && (decide (4*f.1*f.2.2 - f.2.1*f.2.1=(D:Int)) &&
 (decide (4*f.2.2*400 < (D:Int)*(((bX D f+1)*(bX D f+1):Nat):Int)) && decide (4*f.1*400 < (D:Int)*(((bY D f+1)*(bY D f+1):Nat):Int)))))))))
def wN (D:Nat):Int:=bif Nat.beq D 3 then 6 else bif Nat.beq D 4 then 4 else 2
def lhs (D:Nat):List (Int × Int × Int)→Int
 | []=>0
 | f::r=>box (fun y=>box (fun x=>val 400 (qf f.1 f.2.1 f.2.2 x y)) (bX D f)) (bY D f)+lhs D r
def bds (D:Nat):List (Int × Int × Int)→Nat
 | []=>0
 | f::r=>(2*bX D f+1)*(2*bY D f+1)+bds D r
def rhs (D:Nat):Int:=wN D*sN (fun m=>kr D m*geo m (400 / m)) 400
def chkd (D:Nat):Bool:=(cls D).all (okF D) && (Nat.ble (bds D (cls D)) 50000 && decide (lhs D (cls D)=rhs D))
def rps (D:Nat) (n:Int):List (Int × Int × Int)→Int
 | []=>0
 | f::r=>rp (bX D f) (bY D f) f.1 f.2.1 f.2.2 n+rps D n r
end Go.Rp

/- The fundamental discriminants of absolute value up to 400. Plain. -/
namespace Go.Rp
def fd1:List Nat:=[3,4,7,8,11,15,19,20,23,24,31,35,39,40,43,47,51,52,55,56,59,67,68,71,79,83,84,87,88,91,95,103,104,107,111,115,116,119,120,123,127,131,132,136]
def fd2:List Nat:=[139,143,148,151,152,155,159,163,164,167,168,179,183,184,187,191,195,199,203,211,212,215,219,223,227,228,231,232,235,239,244,247,248,251,255,259,260,263,264,267]
def fd3:List Nat:=[271,276,280,283,287,291,292,295,296,299,303,307,308,311,312,319,323,327,328,331,335,339,340,344,347,355,356,359,367,371,372,376,379,383,388,391,395,399]
def fds:List Nat:=fd1++(fd2++fd3)
end Go.Rp

/- The characteristic polynomial of a Hessenberg matrix. No condition. -/
import Derived.Test.YtpigpikhjlmdoaaCc
namespace Go.Lr
open Go.La (Mx setr setr_at setr_ne swap swap_at swap_ne skip skip_lt Fld)
section
variable {K : Type} [Rg K]

/-- The product of the entries below the diagonal, from column i on: d of them. -/
def prd (H : Mx K) (i : Nat) : Nat → K
  | 0 => 1
  | d + 1 => prd H i d * H (i + d + 1) (i + d)
def Hess (n : Nat) (H : Mx K) : Prop := ∀ i j, i < n → j + 1 < i → H i j = 0

def Ed (H : Mx K) (i m : Nat) : PS K := det (m + 1) (setr (tr (cm H)) m (idm i))
/-- The polynomials by the recurrence: pl H k t is the coefficient of x^t in that of the first k rows and columns. -/
def plc (H : Mx K) (k : Nat) (p : Nat → Nat → K) (t : Nat) : K := (if t = 0 then 0 else p k (t - 1)) + -(H k k * p k t + sm k fun i => prd H i (k - i) * H i k * p i t)

/-! ### steps to that form -/
/-- A multiple of row m is taken from row i, that of column i is added to column m. -/
def erow (A : Mx K) (i m : Nat) (u : K) : Mx K := setr A i fun j => A i j + -u * A m j
def ecol (A : Mx K) (i m : Nat) (u : K) : Mx K := fun a j => if j = m then A a m + u * A a i else A a j
end
end Go.Lr

/- Sums of two and of four squares up to 30, counted in boxes. -/
import Derived.Test.YtjfkodlddladhaaGreatM1
import Derived.Test.YtjfkodlddladhaaGreatM50
import Derived.Test.YtjfkodlddladhaaGreatM40
namespace Go.Bx
def sq (x : Int) : Nat := x.natAbs * x.natAbs
def s2 (β k : Nat) : Nat := sq (vec (fun _ => β) 2 k 0) + sq (vec (fun _ => β) 2 k 1)
def s4 (β k : Nat) : Nat := sq (vec (fun _ => β) 4 k 0) + sq (vec (fun _ => β) 4 k 1) + (sq (vec (fun _ => β) 4 k 2) + sq (vec (fun _ => β) 4 k 3))
theorem s4_split (β k : Nat) : s4 β k = s2 β (k / all (fun _ => β) 2) + s2 β (k % all (fun _ => β) 2) := by
  unfold s4 s2
  have e0 := vec_left (b := fun _ => β) (m := 2) (l := 2) (k := k) (i := 0) (by decide)
  have e1 := vec_left (b := fun _ => β) (m := 2) (l := 2) (k := k) (i := 1) (by decide)
  have e2 := vec_right (b := fun _ => β) (m := 2) (l := 2) (k := k) (i := 0) (by decide)
  have e3 := vec_right (b := fun _ => β) (m := 2) (l := 2) (k := k) (i := 1) (by decide)
  rw [show (2 + 2 : Nat) = 4 from rfl] at e0 e1 e2 e3
  rw [show (2 + 0 : Nat) = 2 from rfl] at e2
  rw [show (2 + 1 : Nat) = 3 from rfl] at e3
  rw [e0, e1, e2, e3]
theorem cnt_four (β n : Nat) : cnt (all (fun _ => β) 4) (fun k => s4 β k == n) = sumn (n + 1) fun j => cnt (all (fun _ => β) 2) (fun q => s2 β q == j) * cnt (all (fun _ => β) 2) (fun r => s2 β r == n - j) := by
  have h := all_app (b := fun _ => β) (m := 2) (l := 2)
  rw [show (2 + 2 : Nat) = 4 from rfl] at h
  rw [h, ← cnt_conv (by unfold all; exact vol_pos _ _ _)]
  exact cnt_congr fun k _ => by rw [s4_split]
def chi (d : Nat) : Int := if d % 4 = 1 then 1 else if d % 4 = 3 then -1 else 0
def two (n : Nat) : Nat → Int
  | 0 => 0
  | d + 1 => if n % (d + 1) = 0 then two n d + 4 * chi (d + 1) else two n d
def four (n : Nat) : Nat → Int
  | 0 => 0
  | d + 1 => if n % (d + 1) = 0 ∧ (d + 1) % 4 ≠ 0 then four n d + 8 * ((d + 1 : Nat) : Int) else four n d
def rt (n : Nat) : Nat := if n < 1 then 0 else if n < 4 then 1 else if n < 9 then 2 else if n < 16 then 3 else if n < 25 then 4 else 5
def chk2 : Bool := (List.range 31).all fun n => n == 0 || decide (((cnt (all (fun _ => rt n) 2) (fun k => s2 (rt n) k == n) : Nat) : Int) = two n n)
def chk4 : Bool := (List.range 31).all fun n => n == 0 || decide (((sumn (n + 1) fun j => cnt (all (fun _ => rt n) 2) (fun q => s2 (rt n) q == j) * cnt (all (fun _ => rt n) 2) (fun r => s2 (rt n) r == n - j) : Nat) : Int) = four n n)
theorem chk2_ok : chk2 = true := by kernel_rfl
theorem chk4_ok : chk4 = true := by kernel_rfl
theorem squares_two {n : Nat} (h1 : 1 ≤ n) (h : n ≤ 30) : ((cnt (all (fun _ => rt n) 2) (fun k => s2 (rt n) k == n) : Nat) : Int) = two n n := by
  have h2 := List.all_eq_true.1 chk2_ok n (List.mem_range.2 (by omega))
  rw [Bool.or_eq_true] at h2
  rcases h2 with h3 | h3
  · have : n = 0 := by simpa using h3
    omega
  · exact of_decide_eq_true h3
theorem squares_four {n : Nat} (h1 : 1 ≤ n) (h : n ≤ 30) : ((cnt (all (fun _ => rt n) 4) (fun k => s4 (rt n) k == n) : Nat) : Int) = four n n := by
  rw [cnt_four]
  have h2 := List.all_eq_true.1 chk4_ok n (List.mem_range.2 (by omega))
  rw [Bool.or_eq_true] at h2
  rcases h2 with h3 | h3
  · have : n = 0 := by simpa using h3
    omega
  · exact of_decide_eq_true h3
end Go.Bx

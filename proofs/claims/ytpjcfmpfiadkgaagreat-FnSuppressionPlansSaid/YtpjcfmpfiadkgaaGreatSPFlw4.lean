/- Plain laws: filling a matrix up to the sums of rows and columns. -/
import Derived.Test.YtpjcfmpfiadkgaaGreatSPFlw3

namespace Go.Gx.F

open Go.Gx

set_option linter.all false

def fil (n m : Nat) (lo hi : Nat→Nat→Int) (R C : Nat→Int) : Nat→Nat→Int:=fun u v =>
 if u < n∧n ≤ v∧v < n + m then hi u (v - n) - lo u (v - n)
 else if u = n + m∧v < n then R v - sm m (lo v)
 else if n ≤ u∧u < n + m∧v = n + m + 1 then C (u - n) - sm n (fun i=>lo i (u - n)) else 0

section

variable {n m : Nat} {lo hi : Nat→Nat→Int} {R C : Nat→Int}

def fill (n : Nat) (hi : Nat→Nat→Int) (r : Nat→Nat→Int) : Nat→Nat→Int:=fun i j=>hi i j - r i (n + j)

def yfl (n m : Nat) (lo y : Nat→Nat→Int) (R C : Nat→Int) : Nat→Nat→Int:=fun u v =>
 if u < n∧n ≤ v∧v < n + m then y u (v - n) - lo u (v - n)
 else if v < n∧n ≤ u∧u < n + m then - (y v (u - n) - lo v (u - n))
 else if u = n + m∧v < n then R v - sm m (lo v)
 else if v = n + m∧u < n then - (R u - sm m (lo u))
 else if n ≤ u∧u < n + m∧v = n + m + 1 then C (u - n) - sm n (fun i=>lo i (u - n))
 else if n ≤ v∧v < n + m∧u = n + m + 1 then - (C (v - n) - sm n (fun i=>lo i (v - n))) else 0

end

end Go.Gx.F

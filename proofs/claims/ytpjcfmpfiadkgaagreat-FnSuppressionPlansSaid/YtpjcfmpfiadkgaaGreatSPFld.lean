/- Plain laws: first,next and counted flows of the program; which matrices are flows. -/
import Derived.Test.YtpjcfmpfiadkgaaGreatSPFlc

namespace Go.Gx.F

open Go.Gx

set_option linter.all false

set_option maxRecDepth 10000

section

variable {n m : Nat} {t : impl_Transport} {x : List (List Int)}

structure Nxt (n m : Nat) (t : impl_Transport) (x y : Nat→Nat→Int) (k : Nat) : Prop where
 lt : k < n * m
 none : ∀ k',k < k'→k' < n * m→∀ z,IsF n m t z→Agr m k' x z→at1 m z k' ≤ at1 m x k'
 isF : IsF n m t y
 agr : Agr m k x y
 one : at1 m y k = at1 m x k + 1
 least : ∀ q,k < q→q < n * m→∀ z,IsF n m t z→Agr m q y z→at1 m y q ≤ at1 m z q

end

end Go.Gx.F

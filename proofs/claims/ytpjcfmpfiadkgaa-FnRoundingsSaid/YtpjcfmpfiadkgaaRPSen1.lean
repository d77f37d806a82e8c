/- Plain laws: two-way tables,patterns and amounts that are drawn. -/
import Derived.Test.YtpjcfmpfiadkgaaRPLst

namespace Go.Gx.F

open Go.Gx

set_option linter.all false

def Sz (x : List (List Int)) : Prop:=x.length ≤ 10∧∀ r ∈ x,r.length ≤ 10

def Two (x : List (List Int)) : Prop:=1 ≤ x.length∧x.length ≤ 4∧∀ r ∈ x,1 ≤ r.length∧r.length ≤ 4

theorem Two.sz {x : List (List Int)} (h : Two x) : Sz x:=⟨by have:=h.2.1; omega,fun r hr=>by have:=(h.2.2 r hr).2; omega⟩

theorem Two.at0 {x : List (List Int)} (h : Two x) : ∃ r,goAt x 0 = some r∧1 ≤ r.length∧r.length ≤ 4:=by
 obtain ⟨h1,h2,h3⟩:=h
 cases x with
 | nil=>simp at h1
 | cons r x=>exact ⟨r,rfl,h3 r (by simp)⟩

end Go.Gx.F

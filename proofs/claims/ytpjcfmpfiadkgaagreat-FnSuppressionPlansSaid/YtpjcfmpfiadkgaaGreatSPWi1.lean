/- Plain laws: the reference's first flow; hidden cells; protected cells; margins; the witnesses. -/
import Derived.Test.YtpjcfmpfiadkgaaGreatSPAun

namespace Go.Gx.F

open Go.Gx

set_option linter.all false

set_option maxRecDepth 10000

section

variable {n m : Nat} {t : impl_Transport} {x p : List (List Int)}

structure Fxd (n m : Nat) (t : impl_Transport) (k : Nat) (u : impl_Transport) : Prop where
 tr : Tr n m u
 sub : ∀ z,IsF n m u z→IsF n m t z
 ex : ∃ z,IsF n m u z
 meet : ∀ q,q < k→at1 m (mt u.Lo) q = at1 m (mt u.Hi) q
 least : ∀ q,q < k→∀ z,IsF n m t z→Agr m q (mt u.Lo) z→at1 m (mt u.Lo) q ≤ at1 m z q
 back : ∀ z,IsF n m t z→Agr m k (mt u.Lo) z→IsF n m u z

theorem Fxd.step {u : impl_Transport} {i j : Nat} {v : Int} (h : Fxd n m t (i * m + j) u) (hi : i < n) (hj : j < m) (hv : Lst (IsF n m u) i j v) : Fxd n m t (i * m + j + 1) (wth u i j v v):=by
 obtain ⟨⟨y,hy,hyv⟩,hl⟩:=hv
 have hT:=h.tr
 have b1:=hy.lo i j hi hj; have b2:=hy.hi i j hi hj
 rw [hyv] at b1 b2
 have bt:=hT.bd i j hi hj
 have hiff:=fun z=>with_iff hT hi hj (l:=v) (h:=v) b1 b2 (y:=z)
 have hlo : ∀ q,q < i * m + j→at1 m (mt (wth u i j v v).Lo) q = at1 m (mt u.Lo) q:=fun q hq=>by
  obtain ⟨g1,g2,g3⟩:=pos_bd (n:=n) (m:=m) (p:=q) (by have:=pos_lt hi hj; omega)
  unfold at1
  show mt (upd u.Lo i j v) _ _ = _
  rw [mt_upd hT.lo hi hj,if_neg]
  rintro ⟨e1,e2⟩
  rw [e1,e2] at g3; omega
 have hhi : ∀ q,q < i * m + j→at1 m (mt (wth u i j v v).Hi) q = at1 m (mt u.Hi) q:=fun q hq=>by
  obtain ⟨g1,g2,g3⟩:=pos_bd (n:=n) (m:=m) (p:=q) (by have:=pos_lt hi hj; omega)
  unfold at1
  show mt (upd u.Hi i j v) _ _ = _
  rw [mt_upd hT.hi hi hj,if_neg]
  rintro ⟨e1,e2⟩
  rw [e1,e2] at g3; omega
 have elo : at1 m (mt (wth u i j v v).Lo) (i * m + j) = v:=by
  rw [at1_ij hj]
  show mt (upd u.Lo i j v) i j = v
  rw [mt_upd hT.lo hi hj,if_pos ⟨rfl,rfl⟩]
 have ehi : at1 m (mt (wth u i j v v).Hi) (i * m + j) = v:=by
  rw [at1_ij hj]
  show mt (upd u.Hi i j v) i j = v
  rw [mt_upd hT.hi hi hj,if_pos ⟨rfl,rfl⟩]
 have agr : ∀ k,k ≤ i * m + j→∀ z,Agr m k (mt (wth u i j v v).Lo) z→Agr m k (mt u.Lo) z:=fun k hk z hz q hq=>by rw [hz q hq,hlo q (by omega)]
 refine ⟨with_tr hT hi hj ⟨by omega,by omega,by omega⟩,fun z hz=>h.sub z ((hiff z).1 hz).1,⟨y,(hiff y).2 ⟨hy,by omega,by omega⟩⟩,fun q hq=>?_,fun q hq z hz ha=>?_,fun z hz ha=>?_⟩
 ·by_cases hq1 : q = i * m + j
  ·rw [hq1,elo,ehi]
  ·rw [hlo q (by omega),hhi q (by omega)]; exact h.meet q (by omega)
 ·by_cases hq1 : q = i * m + j
  ·rw [hq1,elo,at1_ij hj]
   rw [hq1] at ha
   exact hl z (h.back z hz (agr _ (Nat.le_refl _) z ha))
  ·rw [hlo q (by omega)]
   exact h.least q (by omega) z hz (agr q (by omega) z ha)
 ·have e1 : z i j = v:=by
   have:=ha (i * m + j) (by omega)
   rw [elo,at1_ij hj] at this
   exact this
  exact (hiff z).2 ⟨h.back z hz (agr _ (Nat.le_refl _) z (ha.le (by omega))),by omega,by omega⟩

end

end Go.Gx.F

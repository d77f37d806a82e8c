/- Plain laws: first,next and counted flows of the program; which matrices are flows. -/
import Derived.Test.YtpjcfmpfiadkgaaWPFlc

namespace Go.Gx.F

open Go.Gx

set_option linter.all false

set_option maxRecDepth 10000

section

variable {n m : Nat} {t : impl_Transport} {x : List (List Int)}

theorem firstFlow_ok (hT : Tr n m t) : ∃ x,impl_firstFlow t = some x∧((x = []∧∀ y,¬ IsF n m t y) ∨ (Shp n m x∧Fst n m (IsF n m t) 0 (fun _ _=>0) (mt x))):=by
  unfold impl_firstFlow
  obtain ⟨x,e,h⟩:=anyFlow_ok hT
  rw [e,Option.bind_some]
  rcases h with ⟨rfl,hno⟩ | ⟨hx,hF⟩
  · exact ⟨[],rfl,.inl ⟨rfl,hno⟩⟩
  · obtain ⟨y,ey,hy,hf⟩:=firstFrom_ok (k:=0) hT hx hF (by omega)
    rw [show (((0 : Nat)) : Int) - 1 = -1 from rfl] at ey
    rw [(ne_ok hx hT.n1).2,cond_false,ey]
    exact ⟨y,rfl,.inr ⟨hy,hf.isF,fun p hp=>by omega,hf.least⟩⟩

structure Nxt (n m : Nat) (t : impl_Transport) (x y : Nat→Nat→Int) (k : Nat) : Prop where
  lt : k < n * m
  none : ∀ k',k < k'→k' < n * m→∀ z,IsF n m t z→Agr m k' x z→at1 m z k' ≤ at1 m x k'
  isF : IsF n m t y
  agr : Agr m k x y
  one : at1 m y k = at1 m x k + 1
  least : ∀ q,k < q→q < n * m→∀ z,IsF n m t z→Agr m q y z→at1 m y q ≤ at1 m z q

theorem sums_ok {l : List Int} {n : Nat} (hl : l.length = n) (h1 : 1 ≤ n) (h8 : n ≤ 8) (hb : ∀ i,i < n→0 ≤ vc l i∧vc l i ≤ 100000) : impl_areSums l = some true:=by
  unfold impl_areSums
  rw [decide_eq_false (show ¬ goLen l < 1 by simp only [goLen]; omega),cond_false,decide_eq_false (show ¬ 8 < goLen l by simp only [goLen]; omega),Option.bind_some,cond_false]
  have h : loopC (impl_areSums_l1 l) 0 = some (.inl ()):=by
    refine tot_eq (tot_loop (fun s=>∃ k : Nat,k ≤ n∧s = (k : Int)) (fun s=>n - s.toNat) ⟨0,by omega,rfl⟩ ?_)
    rintro _ ⟨k,hk,rfl⟩
    by_cases hlt : k < n
    · have hx:=vc_at (l:=l) (i:=k) (by omega)
      have:=hb k hlt
      simp only [impl_areSums_l1,lt_ok hx,cond_true,at_ok hx,Option.bind_some]
      rw [decide_eq_false (by omega),cond_false,decide_eq_false (by omega)]
      simp only [Option.bind_some,cond_false]
      rw [wid (by omega) (by omega)]
      exact tot_some ⟨⟨k + 1,by omega,by omega⟩,by omega⟩
    · obtain rfl : k = n:=by omega
      have e3 : decide ((k : Int) < goLen l) = false:=decide_eq_false (by simp only [goLen]; omega)
      simp only [impl_areSums_l1,e3,cond_false]
      exact tot_some rfl
  rw [h]; rfl

theorem shape_t (hx : Shp n m x) (hn : n ≤ 100) : impl_hasShape x (n : Int) (m : Int) = some true:=by
  have hl:=hx.len
  obtain ⟨b,e,hb⟩:=shape_bis (x:=x) (n:=(n : Int)) (w:=(m : Int)) (by omega)
  rw [e,hb.2 ⟨by omega,fun r hr=>by have:=hx.row r hr; omega⟩]

theorem isTr_ok (hT : Tr n m t) : impl_IsTransport t = some true:=by
  have h1:=hT.rl; have h2:=hT.cl; have h3:=hT.n8; have h4:=hT.m8; have hll:=hT.lo.len
  have gR : goLen t.Rows = (n : Int):=by simp only [goLen]; rw [h1]
  have gC : goLen t.Cols = (m : Int):=by simp only [goLen]; rw [h2]
  unfold impl_IsTransport
  rw [sums_ok h1 hT.n1 h3 hT.rb,sums_ok h2 hT.m1 h4 hT.cb,gR,gC,shape_t hT.lo (by omega),shape_t hT.hi (by omega)]
  simp only [Option.bind_some,Bool.not_true,cond_false]
  have h : loopC (impl_IsTransport_l1 t) 0 = some (.inl ()):=by
    refine tot_eq (tot_loop (fun s=>∃ k : Nat,k ≤ n∧s = (k : Int)) (fun s=>n - s.toNat) ⟨0,by omega,rfl⟩ ?_)
    rintro _ ⟨i,hi',rfl⟩
    by_cases hi : i < n
    · obtain ⟨row,hrow,_,hrl,_,_⟩:=hT.lo.get hi
      obtain ⟨hr,hhr,_,_,_,_⟩:=hT.hi.get hi
      simp only [impl_IsTransport_l1,lt_ok hrow,cond_true,at_ok hrow,Option.bind_some]
      have h2 : loopC (impl_IsTransport_l2 t (i : Int) row) 0 = some (.inl ()):=by
        refine tot_eq (tot_loop (fun s=>∃ k : Nat,k ≤ m∧s = (k : Int)) (fun s=>m - s.toNat) ⟨0,by omega,rfl⟩ ?_)
        rintro _ ⟨j,hj',rfl⟩
        by_cases hj : j < m
        · have hy:=hT.lo.el hrow hj
          have hb:=hT.bd i j hi hj
          simp only [impl_IsTransport_l2,lt_ok hy,cond_true,at_ok hy,at_ok hhr,at_ok (hT.hi.el hhr hj),Option.bind_some]
          rw [decide_eq_false (by omega),cond_false,decide_eq_false (by omega),cond_false,decide_eq_false (by omega)]
          simp only [Option.bind_some,cond_false]
          rw [wid (by omega) (by omega)]
          exact tot_some ⟨⟨j + 1,by omega,by omega⟩,by omega⟩
        · obtain rfl : j = m:=by omega
          have e3 : decide ((j : Int) < goLen row) = false:=decide_eq_false (by simp only [goLen]; omega)
          simp only [impl_IsTransport_l2,e3,cond_false]
          exact tot_some rfl
      rw [h2]
      simp only [Option.bind_some]
      rw [wid (by omega) (by omega)]
      exact tot_some ⟨⟨i + 1,by omega,by omega⟩,by omega⟩
    · obtain rfl : i = n:=by omega
      have e3 : decide ((i : Int) < goLen t.Lo) = false:=decide_eq_false (by simp only [goLen]; omega)
      simp only [impl_IsTransport_l1,e3,cond_false]
      exact tot_some rfl
  rw [h]; rfl

theorem isFlow_ok (hT : Tr n m t) (hx : Shp n m x) (hF : IsF n m t (mt x)) : impl_IsFlow t x = some (true,true):=by
  have h1:=hT.rl; have h2:=hT.cl; have h3:=hT.n8; have h4:=hT.m8; have hll:=hx.len
  have gR : goLen t.Rows = (n : Int):=by simp only [goLen]; rw [h1]
  have gC : goLen t.Cols = (m : Int):=by simp only [goLen]; rw [h2]
  unfold impl_IsFlow
  rw [isTr_ok hT,gR,gC,shape_t hx (by omega)]
  simp only [Option.bind_some,Bool.not_true,cond_false]
  have h : loopC (impl_IsFlow_l1 t x) 0 = some (.inl ()):=by
    refine tot_eq (tot_loop (fun s=>∃ k : Nat,k ≤ n∧s = (k : Int)) (fun s=>n - s.toNat) ⟨0,by omega,rfl⟩ ?_)
    rintro _ ⟨i,hi',rfl⟩
    by_cases hi : i < n
    · obtain ⟨row,hrow,_,hrl,_,_⟩:=hx.get hi
      obtain ⟨lr,hlr,_,_,_,_⟩:=hT.lo.get hi
      obtain ⟨hr,hhr,_,_,_,_⟩:=hT.hi.get hi
      simp only [impl_IsFlow_l1,lt_ok hrow,cond_true,at_ok hrow,Option.bind_some]
      have h2 : loopC (impl_IsFlow_l2 t (i : Int) row) 0 = some (.inl ()):=by
        refine tot_eq (tot_loop (fun s=>∃ k : Nat,k ≤ m∧s = (k : Int)) (fun s=>m - s.toNat) ⟨0,by omega,rfl⟩ ?_)
        rintro _ ⟨j,hj',rfl⟩
        by_cases hj : j < m
        · have hy:=hx.el hrow hj
          have hb1:=hF.lo i j hi hj; have hb2:=hF.hi i j hi hj
          simp only [impl_IsFlow_l2,lt_ok hy,cond_true,at_ok hy,at_ok hlr,at_ok (hT.lo.el hlr hj),at_ok hhr,at_ok (hT.hi.el hhr hj),Option.bind_some]
          rw [decide_eq_false (by omega),cond_false,decide_eq_false (by omega)]
          simp only [Option.bind_some,cond_false]
          rw [wid (by omega) (by omega)]
          exact tot_some ⟨⟨j + 1,by omega,by omega⟩,by omega⟩
        · obtain rfl : j = m:=by omega
          have e3 : decide ((j : Int) < goLen row) = false:=decide_eq_false (by simp only [goLen]; omega)
          simp only [impl_IsFlow_l2,e3,cond_false]
          exact tot_some rfl
      rw [h2]
      simp only [Option.bind_some]
      rw [wid (by omega) (by omega)]
      exact tot_some ⟨⟨i + 1,by omega,by omega⟩,by omega⟩
    · obtain rfl : i = n:=by omega
      have e3 : decide ((i : Int) < goLen x) = false:=decide_eq_false (by simp only [goLen]; omega)
      simp only [impl_IsFlow_l1,e3,cond_false]
      exact tot_some rfl
  rw [h]
  simp only [Option.bind_some]
  have hb : ∀ i j,i < n→j < m→-1000000 ≤ mt x i j∧mt x i j ≤ 1000000:=fun i j hi hj=>by have:=hT.fb hF hi hj; omega
  obtain ⟨rl,er,hr1,hr2⟩:=rowSums_ok hx (by omega) (by omega) hb
  obtain ⟨cl,ec,hc1,hc2⟩:=colSums_ok hx hT.n1 (by omega) (by omega) hb
  obtain rfl : rl = t.Rows:=vc_ext (by omega) fun i hi=>by rw [hr2 i (by omega),hF.row i (by omega)]
  obtain rfl : cl = t.Cols:=vc_ext (by omega) fun j hj=>by rw [hc2 j (by omega),hF.col j (by omega)]
  obtain ⟨b1,e1,q1⟩:=equal_bis (a:=t.Rows) (b:=t.Rows) (by omega)
  obtain ⟨b2,e2,q2⟩:=equal_bis (a:=t.Cols) (b:=t.Cols) (by omega)
  rw [er,Option.bind_some,e1,q1.2 rfl,ec]
  simp only [Option.bind_some,cond_true]
  rw [e2,q2.2 rfl]
  rfl

end

end Go.Gx.F

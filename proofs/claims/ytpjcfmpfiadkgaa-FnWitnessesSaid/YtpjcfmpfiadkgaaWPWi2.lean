/- Plain laws: what FnWitnesses draws; partners. -/
import Derived.Test.YtpjcfmpfiadkgaaWPAud

namespace Go.Gx.F

open Go.Gx

set_option linter.all false

set_option maxRecDepth 10000

theorem tDrawProt {code : List (K .u8)} (ho : ∀ x ∈ code,Rng.ok x) : Tot (spec_DrawIsProtected code) fun r=>Sz r.1∧Sz r.2.1:=by
  unfold spec_DrawIsProtected
  refine tot_bind (tanyTwo5 (cur0 ho)) fun ⟨x,c1⟩ ⟨hx,k1⟩=>?_
  simp only at hx k1 ⊢
  refine tot_bind (tpat5 k1 hx) fun ⟨p,c2⟩ ⟨hp,k2⟩=>?_
  simp only at hp k2 ⊢
  have hl:=hx.1
  rw [lMost_eq,Option.bind_some]
  refine tot_bind (tpick (k:=max (goLen x) 1) k2 (by omega) (by simp only [goLen]; omega)) fun ⟨i,c3⟩ ⟨_,_,_,k3⟩=>?_
  simp only at k3 ⊢
  refine tot_bind (tpick k3) fun ⟨j,c4⟩ ⟨_,_,_,k4⟩=>?_
  simp only at k4 ⊢
  refine tot_bind (tamong k4) fun ⟨d,c5⟩ ⟨_,k5⟩=>?_
  simp only at k5 ⊢
  exact tot_bind (tamong k5) fun ⟨u,c6⟩ ⟨_,_⟩=>tot_some ⟨hx.sz,hp⟩

theorem tprot {B : Nat} {c : spec_l1Cur} (h : Cur B c) (hB : B ≤ 100000:=by omega) : Tot (spec_l1Cur_protection c) fun r=>Sz5 r.1∧Sz r.2.1∧Cur (B + 400) r.2.2.2.2:=by
  unfold spec_l1Cur_protection
  refine tot_bind (tanyTwo5 h) fun ⟨x,c1⟩ ⟨hx,k1⟩=>?_
  simp only at hx k1 ⊢
  obtain ⟨x1,x2⟩:=hx
  refine tot_bind (Q:=fun r=>(r.1.length ≤ 5∧∀ q ∈ r.1,q.length ≤ 5)∧Cur (B + 210) r.2) (tot_loop (fun s=>∃ k : Nat,s.2.1 = (k : Int)∧k ≤ x.length∧s.1.length = k∧(∀ r ∈ s.1,r.length ≤ 5)∧Cur (B + 110 + 10 * k) s.2.2) (fun s=>10 - s.2.1.toNat) ⟨0,rfl,by omega,rfl,fun r hr=>by simp at hr,k1.le (by omega)⟩ ?_) fun ⟨o,c3⟩ ⟨ho,k3⟩=>?_
  · rintro ⟨out,i,c3⟩ ⟨k,hk,hkx,hlen,hrs,k3⟩
    simp only at hk hlen hrs k3
    subst hk
    simp only [spec_l1Cur_protection_l1]
    refine tot_cond (fun hc=>?_) fun hc=>tot_some ⟨⟨by simp only; omega,hrs⟩,k3.le (by omega)⟩
    have hc' : (k : Int) < goLen x:=by simpa using hc
    simp only [goLen] at hc'
    refine tot_bind (tot_at (Q:=fun e=>e.length ≤ 5) (by omega) (by omega) fun e _ he=>x2 e he) fun e he2=>?_
    refine tot_bind (tot_make (n:=e.length) (Q:=fun l=>l.length = e.length) rfl (by omega) (by omega) (by simp)) fun z hz=>?_
    refine tot_bind (Q:=fun r=>r.1.length = e.length∧Cur (B + 110 + 10 * (k + 1)) r.2) (tot_loop (fun s=>∃ j : Nat,s.2.1 = (j : Int)∧j ≤ e.length∧s.1.length = e.length∧Cur (B + 110 + 10 * k + 2 * j) s.2.2) (fun s=>10 - s.2.1.toNat) ⟨0,rfl,by omega,hz,k3.le (by omega)⟩ ?_) fun ⟨row,c4⟩ ⟨hrow,k4⟩=>?_
    · rintro ⟨row,j',c4⟩ ⟨j,hj,hjy,hrl,k4⟩
      simp only at hj hrl k4
      subst hj
      simp only [spec_l1Cur_protection_l2]
      refine tot_cond (fun hd=>?_) fun hd=>tot_some ⟨hrl,k4.le (by omega)⟩
      have hd' : (j : Int) < goLen z:=by simpa using hd
      simp only [goLen] at hd'
      refine tot_bind (Q:=fun r : Bool × spec_l1Cur=>Cur (B + 110 + 10 * k + 2 * (j + 1)) r.2) ?_ fun ⟨v,c6⟩ k6=>?_
      · refine tot_bind (tot_at (Q:=fun _=>True) (by omega) (by omega) fun _ _ _=>trivial) fun v _=>?_
        refine tot_cond (fun _=>?_) fun _=>tot_bind (tone k4) fun r k6=>tot_some (k6.le (by omega))
        refine tot_bind (tot_at (Q:=fun _=>True) (by omega) (by omega) fun _ _ _=>trivial) fun v _=>?_
        exact tot_cond (fun _=>tot_some (k4.le (by omega))) fun _=>tot_bind (tone k4) fun r k6=>tot_some (k6.le (by omega))
      simp only at k6 ⊢
      refine tot_bind (Q:=fun l=>l.length = e.length) (tot_cond (fun _=>?_) fun _=>tot_some hrl) fun l hl=>tot_some ⟨⟨j + 1,?_,by omega,hl,k6⟩,?_⟩
      · exact tot_bind (tot_at (Q:=fun _=>True) (by omega) (by omega) fun _ _ _=>trivial) fun _ _=>tot_some (by simp [hrl])
      · simp only; rw [wid (by omega) (by omega)]; omega
      · simp only; rw [wid (by omega) (by omega)]; omega
    · simp only at hrow k4
      refine tot_bind (tot_app (Q:=fun l=>l = out ++ [row]) (by simp; omega) rfl) fun l hl=>tot_some ⟨⟨k + 1,?_,by omega,by simp only; rw [hl]; simp [hlen],fun r hr=>?_,k4⟩,?_⟩
      · simp only; rw [wid (by omega) (by omega)]; omega
      · simp only at hr
        rw [hl,List.mem_append,List.mem_singleton] at hr
        rcases hr with hr | rfl
        · exact hrs r hr
        · omega
      · simp only; rw [wid (by omega) (by omega)]; omega
  · simp only at ho k3 ⊢
    obtain ⟨o1,o2⟩:=ho
    have hsz : Sz5 o:=⟨o1,o2⟩
    refine tot_bind (Q:=fun r=>(r.1 = true→∃ e,goAt o 0 = some e∧1 ≤ e.length)∧Cur (B + 212) r.2) ?_ fun ⟨b,c4⟩ ⟨hb,k4⟩=>?_
    · refine tot_cond (fun h1=>?_) fun _=>tot_some ⟨fun h=>(by cases h),k3.le (by omega)⟩
      have h1' : 0 < goLen o:=by simpa using h1
      simp only [goLen] at h1'
      have e0 : goAt o 0 = some (o[0]'(by omega)):=at_ok (k:=0) (by simp <;> omega)
      rw [e0,Option.bind_some]
      refine tot_cond (fun h2=>?_) fun _=>tot_some ⟨fun h=>(by cases h),k3.le (by omega)⟩
      have h2' : 0 < goLen (o[0]'(by omega)):=by simpa using h2
      simp only [goLen] at h2'
      exact tot_bind (tone k3) fun ⟨v,c5⟩ k5=>tot_some ⟨fun _=>⟨_,rfl,by omega⟩,k5.le (by omega)⟩
    · simp only at hb k4 ⊢
      refine tot_bind (Q:=fun r : List (List Int)=>Sz r) ?_ fun r hr=>?_
      · refine tot_cond (fun h1=>?_) fun _=>tot_some hsz.sz
        obtain ⟨e,he,hel⟩:=hb h1
        rw [he,Option.bind_some]
        refine tot_bind (tot_at (Q:=fun _=>True) (by omega) (by omega) fun _ _ _=>trivial) fun _ _=>?_
        have hem : e ∈ o:=by
          obtain ⟨_,h2⟩:=goAt_some he
          exact List.mem_of_getElem? h2
        have:=o2 e hem
        exact tot_some (sz5_set hsz (by simp only [List.length_set]; omega)).sz
      · refine tot_bind (tamong k4) fun ⟨d,c5⟩ ⟨_,k5⟩=>?_
        simp only at k5 ⊢
        refine tot_bind (tamong k5) fun ⟨u,c6⟩ ⟨_,k6⟩=>?_
        exact tot_some ⟨⟨x1,x2⟩,hr,k6.le (by omega)⟩

theorem zip_sz {a b : List (List Int)} (ha : Sz a) : Sz (jns a b):=by
  refine ⟨by have:=ha.1; simp only [jns,List.length_zipWith]; omega,fun r hr=>?_⟩
  simp only [jns] at hr
  rw [List.mem_iff_getElem?] at hr
  obtain ⟨k,hk⟩:=hr
  rw [List.getElem?_zipWith] at hk
  split at hk
  · next u v hu hv =>
    have:=ha.2 u (List.mem_of_getElem? hu)
    cases hk
    simp only [jn,List.length_zipWith]
    omega
  · cases hk

theorem joinS_ok {a b : List (List Int)} (ha : Sz a) (hb : Sz b) : ∃ o c,spec_JoinPatterns a b = some (o,c)∧Sz o:=by
  obtain ⟨a1,e2,h1⟩:=form_bis (m:=1) ha
  obtain ⟨b1,e4,h3⟩:=form_bis (m:=1) hb
  have hnil : Sz []:=⟨by simp,fun r hr=>by simp at hr⟩
  unfold spec_JoinPatterns
  rw [e2,e4]
  simp only [Option.bind_some]
  cases a1 with
  | false=>exact ⟨_,_,rfl,hnil⟩
  | true =>
    cases b1 with
    | false=>exact ⟨_,_,rfl,hnil⟩
    | true =>
      have ga:=h1.1 rfl
      have gb:=h3.1 rfl
      simp only [Bool.not_true,cond_false,head_ok ga.1,head_ok gb.1,Option.bind_some,goLen]
      by_cases hc1 : b.length = a.length
      · rw [show (((a.length : Nat) : Int) != ((b.length : Nat) : Int)) = false by simp [hc1],cond_false]
        by_cases hc2 : wdt b = wdt a
        · have hc2' : (b.headD []).length = (a.headD []).length:=hc2
          rw [hc2',bne_self_eq_false,Option.bind_some,cond_false,joinS_eq (pair_of ha hb ga gb hc1 hc2)]
          exact ⟨_,_,rfl,zip_sz ha⟩
        · have hc2' : ¬ (b.headD []).length = (a.headD []).length:=hc2
          rw [show ((((a.headD []).length : Nat) : Int) != (((b.headD []).length : Nat) : Int)) = true by simp only [bne_iff_ne,ne_eq]; omega]
          exact ⟨_,_,rfl,hnil⟩
      · rw [show (((a.length : Nat) : Int) != ((b.length : Nat) : Int)) = true by simp only [bne_iff_ne,ne_eq]; omega,cond_true]
        exact ⟨_,_,rfl,hnil⟩

theorem tDrawNeeds {code : List (K .u8)} (ho : ∀ x ∈ code,Rng.ok x) : Tot (spec_DrawNeedsPartners code) fun r=>Sz r.1∧Sz r.2.1∧Sz r.2.2:=by
  unfold spec_DrawNeedsPartners spec_DrawUnprotectedCells
  refine tot_bind (Q:=fun r=>Sz r.1∧Sz r.2.1∧Sz r.2.2.1) ?_ fun r hr=>tot_some hr
  refine tot_bind (tprot (cur0 ho)) fun ⟨x,q,d,u,c1⟩ ⟨hx,hq,k1⟩=>?_
  simp only at hx hq k1 ⊢
  refine tot_bind (tpat5 k1 hx) fun ⟨p,c2⟩ ⟨hp,k2⟩=>?_
  simp only at hp k2 ⊢
  obtain ⟨o,c,ej,hj⟩:=joinS_ok hp hq
  rw [ej,Option.bind_some]
  refine tot_bind (Q:=fun _=>True) (tot_cond (fun _=>tot_bind (tone k2) fun r _=>tot_some trivial) fun _=>tot_some trivial) fun b _=>?_
  refine tot_bind (Q:=fun r=>Sz r) (tot_cond (fun _=>tot_some hj) fun _=>tot_some hp) fun r hr=>?_
  exact tot_some ⟨hx.sz,hr,hq⟩

def anyN (g : Nat→Bool) : Nat→Bool
  | 0=>false
  | k + 1=>anyN g k || g k

theorem anyN_iff {g : Nat→Bool} : ∀ {k},anyN g k = true ↔ ∃ i,i < k∧g i = true
  | 0=>by simp [anyN]
  | k + 1=>by
    rw [anyN,Bool.or_eq_true,anyN_iff]
    constructor
    · rintro (⟨i,h1,h2⟩ | h)
      · exact ⟨i,by omega,h2⟩
      · exact ⟨k,by omega,h⟩
    · rintro ⟨i,h1,h2⟩
      by_cases hk : i = k
      · subst hk; exact .inr h2
      · exact .inl ⟨i,by omega,h2⟩

theorem scanN {γ : Type} {f : Int→Option (Stp Int (Unit ⊕ γ))} {g : Nat→Bool} {N : Nat} {v : γ} (hN : N ≤ 100000) (hs : ∀ k : Nat,k < N→f k = some (cond (g k) (.done (.inr v)) (.next (w64 ((k : Int) + 1))))) (he : f (N : Int) = some (.done (.inl ()))) : loopC f 0 = some (cond (anyN g N) (.inr v) (.inl ())):=by
  refine tot_eq (tot_loop (fun s=>∃ k : Nat,k ≤ N∧s = (k : Int)∧anyN g k = false) (fun s=>N - s.toNat) ⟨0,by omega,rfl,rfl⟩ ?_)
  rintro _ ⟨k,hk,rfl,hg⟩
  by_cases hlt : k < N
  · rw [hs k hlt]
    cases hc : g k with
    | true =>
      refine tot_some ?_
      show Sum.inr v = _
      rw [show anyN g N = true from anyN_iff.2 ⟨k,hlt,hc⟩]; rfl
    | false =>
      rw [cond_false,wid (by omega) (by omega)]
      exact tot_some ⟨⟨k + 1,by omega,by omega,by rw [anyN,hg,hc]; rfl⟩,by omega⟩
  · obtain rfl : k = N:=by omega
    rw [he]
    refine tot_some ?_
    show Sum.inl () = _
    rw [hg]; rfl

theorem pRow_in {q : Nat→Bool} {i b : Nat} : ∀ {j},b < j→q b = true→[(i : Int),(b : Int)] ∈ pRow q i j
  | 0,h,_=>by omega
  | j + 1,h,hq=>by
    simp only [pRow,List.mem_append]
    by_cases hb : b = j
    · subst hb; rw [hq]; exact .inr (by simp)
    · exact .inl (pRow_in (by omega) hq)

theorem pAll_in {m : Nat} {q : Nat→Nat→Bool} {a b : Nat} (hb : b < m) (hq : q a b = true) : ∀ {i},a < i→[(a : Int),(b : Int)] ∈ pAll m q i
  | 0,h=>by omega
  | i + 1,h=>by
    simp only [pAll,List.mem_append]
    by_cases ha : a = i
    · subst ha; exact .inr (pRow_in hb hq)
    · exact .inl (pAll_in hb hq (by omega))

section

variable {n m : Nat} {x p q : List (List Int)}

theorem pos_any {Q : Nat→Nat→Bool} (g : Nat→Nat→Bool) :
    anyN (fun k=>g ((((pAll m Q n).getD k []).getD 0 0).toNat) ((((pAll m Q n).getD k []).getD 1 0).toNat)) (pAll m Q n).length = anyN (fun i=>anyN (fun j=>Q i j && g i j) m) n:=by
  rw [Bool.eq_iff_iff,anyN_iff,anyN_iff]
  constructor
  · rintro ⟨k,hk,h⟩
    have hm : (pAll m Q n)[k] ∈ pAll m Q n:=List.getElem_mem hk
    obtain ⟨a,b,h1,h2,h3,h4⟩:=pAll_mem hm
    have e : (pAll m Q n).getD k [] = [(a : Int),(b : Int)]:=by rw [← h4]; simp [hk]
    rw [e] at h
    simp at h
    exact ⟨a,h1,anyN_iff.2 ⟨b,h2,by rw [h3,h]; rfl⟩⟩
  · rintro ⟨a,h1,h⟩
    obtain ⟨b,h2,h3⟩:=anyN_iff.1 h
    rw [Bool.and_eq_true] at h3
    obtain ⟨k,hk⟩:=List.mem_iff_getElem?.1 (pAll_in (i:=n) h2 h3.1 h1)
    obtain ⟨hk1,_⟩:=List.getElem?_eq_some_iff.1 hk
    have e : (pAll m Q n).getD k [] = [(a : Int),(b : Int)]:=by rw [List.getD_eq_getElem?_getD,hk]; rfl
    refine ⟨k,hk1,?_⟩
    rw [e]
    simpa using h3.2

theorem covers_ok (hp : Shp n m p) (hq : Shp n m q) (hn : n ≤ 8) (hm : m ≤ 8) : impl_covers p q = some (!anyN (fun i=>anyN (fun j=>is1 q i j && mt p i j == 0) m) n):=by
  have hal:=pAll_len m (is1 q) n
  have hnm : n * m ≤ 64:=Nat.mul_le_mul hn hm
  unfold impl_covers
  rw [positions_ok hq hn hm,Option.bind_some,scanN (v:=false) (N:=(pAll m (is1 q) n).length) (g:=fun k=>(fun a b=>mt p a b == 0) ((((pAll m (is1 q) n).getD k []).getD 0 0).toNat) ((((pAll m (is1 q) n).getD k []).getD 1 0).toNat)) (by omega) ?_ ?_,pos_any (fun a b=>mt p a b == 0)]
  · cases anyN (fun i=>anyN (fun j=>is1 q i j && mt p i j == 0) m) n <;> rfl
  · intro k hk
    obtain ⟨a,b,h1,h2,_,h4⟩:=pAll_mem (List.getElem_mem hk)
    have hx : (pAll m (is1 q) n)[k]? = some [(a : Int),(b : Int)]:=by rw [← h4]; simp [hk]
    have e : (pAll m (is1 q) n).getD k [] = [(a : Int),(b : Int)]:=by rw [List.getD_eq_getElem?_getD,hx]; rfl
    obtain ⟨row,hrow,_⟩:=hp.get h1
    have g0 : goAt [(a : Int),(b : Int)] 0 = some (a : Int):=rfl
    have g1 : goAt [(a : Int),(b : Int)] 1 = some (b : Int):=rfl
    simp only [impl_covers_l1,lt_ok hx,cond_true,at_ok hx,Option.bind_some,g0,g1,at_ok hrow,at_ok (hp.el hrow h2),e]
    simp only [List.getD_cons_zero,List.getD_cons_succ,Int.toNat_natCast]
    cases (mt p a b == 0) <;> rfl
  · simp only [impl_covers_l1,lt_end,cond_false]

theorem vContains_ok (hp : Shp n m p) (hq : Shp n m q) (hn : n ≤ 8) (hm : m ≤ 8) : spec_vContains p q = some (!anyN (fun i=>anyN (fun j=>is1 q i j && mt p i j == 0) m) n):=by
  have hql:=hq.len
  unfold spec_vContains
  rw [scanN (v:=false) (N:=n) (g:=fun i=>anyN (fun j=>is1 q i j && mt p i j == 0) m) (by omega) ?_ ?_]
  · cases anyN (fun i=>anyN (fun j=>is1 q i j && mt p i j == 0) m) n <;> rfl
  · intro i hi
    obtain ⟨row,hrow,_,hrl,_,_⟩:=hq.get hi
    obtain ⟨prow,hprow,_⟩:=hp.get hi
    simp only [spec_vContains_l1,lt_ok hrow,cond_true,at_ok hrow,Option.bind_some]
    rw [scanN (v:=.done (.inr false)) (N:=m) (g:=fun j=>is1 q i j && mt p i j == 0) (by omega) ?_ ?_]
    · cases anyN (fun j=>is1 q i j && mt p i j == 0) m <;> rfl
    · intro j hj
      have hy:=hq.el hrow hj
      simp only [spec_vContains_l2,lt_ok hy,cond_true,at_ok hy,at_ok hprow,at_ok (hp.el hprow hj),Option.bind_some,is1]
      cases (mt q i j == 1) <;> cases (mt p i j == 0) <;> rfl
    · have e3 : decide ((m : Int) < goLen row) = false:=decide_eq_false (by simp only [goLen]; omega)
      simp only [spec_vContains_l2,e3,cond_false]
  · have e3 : decide ((n : Int) < goLen q) = false:=decide_eq_false (by simp only [goLen]; omega)
    simp only [spec_vContains_l1,e3,cond_false]

def aln (n m : Nat) (p : List (List Int)) : Nat→Nat→Bool:=fun i j=>sm m (mt p i) == 1 || sm n (fun a=>mt p a j) == 1

theorem alone_ok (hp : Shp n m p) (hq : Shp n m q) (hn1 : 1 ≤ n) (hn : n ≤ 8) (hm : m ≤ 8) (hb : ∀ i j,i < n→j < m→0 ≤ mt p i j∧mt p i j ≤ 1) :
    ∃ rs cs L,impl_rowSums p = some rs∧impl_colSums p = some cs∧impl_positions q = some L∧loopC (impl_NeedsPartners_l1 rs cs L) 0 = some (cond (anyN (fun i=>anyN (fun j=>is1 q i j && aln n m p i j) m) n) (.inr (true,true)) (.inl ())):=by
  have hal:=pAll_len m (is1 q) n
  have hnm : n * m ≤ 64:=Nat.mul_le_mul hn hm
  obtain ⟨rs,e1,r1,r2⟩:=rowSums_ok hp (by omega) (by omega) fun i j hi hj=>by have:=hb i j hi hj; omega
  obtain ⟨cs,e2,c1,c2⟩:=colSums_ok hp hn1 (by omega) (by omega) fun i j hi hj=>by have:=hb i j hi hj; omega
  refine ⟨rs,cs,_,e1,e2,positions_ok hq hn hm,?_⟩
  rw [scanN (v:=(true,true)) (N:=(pAll m (is1 q) n).length) (g:=fun k=>(aln n m p) ((((pAll m (is1 q) n).getD k []).getD 0 0).toNat) ((((pAll m (is1 q) n).getD k []).getD 1 0).toNat)) (by omega) ?_ ?_,pos_any (aln n m p)]
  · intro k hk
    obtain ⟨a,b,h1,h2,_,h4⟩:=pAll_mem (List.getElem_mem hk)
    have hx : (pAll m (is1 q) n)[k]? = some [(a : Int),(b : Int)]:=by rw [← h4]; simp [hk]
    have e : (pAll m (is1 q) n).getD k [] = [(a : Int),(b : Int)]:=by rw [List.getD_eq_getElem?_getD,hx]; rfl
    have g0 : goAt [(a : Int),(b : Int)] 0 = some (a : Int):=rfl
    have g1 : goAt [(a : Int),(b : Int)] 1 = some (b : Int):=rfl
    have ha : goAt rs (a : Int) = some (sm m (mt p a)):=by rw [← r2 a h1]; exact at_ok (vc_at (by omega))
    have hb' : goAt cs (b : Int) = some (sm n (fun i=>mt p i b)):=by rw [← c2 b h2]; exact at_ok (vc_at (by omega))
    simp only [impl_NeedsPartners_l1,lt_ok hx,cond_true,at_ok hx,Option.bind_some,g0,g1,ha,hb',e]
    simp only [List.getD_cons_zero,List.getD_cons_succ,Int.toNat_natCast,aln]
    cases (sm m (mt p a) == 1) <;> cases (sm n (fun i=>mt p i b) == 1) <;> rfl
  · simp only [impl_NeedsPartners_l1,lt_end,cond_false]

theorem vAlone_ok (hp : Shp n m p) (hq : Shp n m q) (hn : n ≤ 8) (hm : m ≤ 8) (hb : ∀ i j,i < n→j < m→0 ≤ mt p i j∧mt p i j ≤ 1) : spec_vAlone p q = some (anyN (fun i=>anyN (fun j=>is1 q i j && aln n m p i j) m) n):=by
  have hql:=hq.len
  unfold spec_vAlone
  rw [scanN (v:=true) (N:=n) (g:=fun i=>anyN (fun j=>is1 q i j && aln n m p i j) m) (by omega) ?_ ?_]
  · cases anyN (fun i=>anyN (fun j=>is1 q i j && aln n m p i j) m) n <;> rfl
  · intro i hi
    obtain ⟨row,hrow,_,hrl,_,_⟩:=hq.get hi
    obtain ⟨prow,hprow,_,hprl,_,_⟩:=hp.get hi
    simp only [spec_vAlone_l1,lt_ok hrow,cond_true,at_ok hrow,Option.bind_some]
    rw [scanN (v:=.done (.inr true)) (N:=m) (g:=fun j=>is1 q i j && aln n m p i j) (by omega) ?_ ?_]
    · cases anyN (fun j=>is1 q i j && aln n m p i j) m <;> rfl
    · intro j hj
      have hy:=hq.el hrow hj
      obtain ⟨l,el,hl,hlv⟩:=tColumn_ok hp (by omega) hj
      have es : spec_tSum l = some (sm n (fun a=>mt p a j)):=by
        rw [tSum_ok (l:=l) (by omega) (fun a ha=>by rw [hlv a (by omega)]; have:=hb a j (by omega) hj; omega),hl]
        exact congrArg some (sm_congr fun a ha=>hlv a ha)
      have er:=rowSum_ok hp (by omega) hprow hi fun b hb'=>by have:=hb i b hi hb'; omega
      simp only [spec_vAlone_l2,lt_ok hy,cond_true,at_ok hy,at_ok hprow,Option.bind_some,er,el,es,is1,aln]
      cases (mt q i j == 1) <;> cases (sm m (mt p i) == 1) <;> cases (sm n (fun a=>mt p a j) == 1) <;> rfl
    · have e3 : decide ((m : Int) < goLen row) = false:=decide_eq_false (by simp only [goLen]; omega)
      simp only [spec_vAlone_l2,e3,cond_false]
  · have e3 : decide ((n : Int) < goLen q) = false:=decide_eq_false (by simp only [goLen]; omega)
    simp only [spec_vAlone_l1,e3,cond_false]

theorem needs_same (hx : Sz x) (hp : Sz p) (hq : Sz q) : ∃ r : Bool × Bool,impl_NeedsPartners x p q = some r∧spec_NeedsPartners x p q = some r:=by
  obtain ⟨c,e1,e2,hc⟩:=sup_bis hx hp
  obtain ⟨d,e3,e4,hd⟩:=sup_bis hx hq
  unfold impl_NeedsPartners spec_NeedsPartners spec_vInput
  rw [e1,e2,e4]
  simp only [Option.bind_some]
  cases c with
  | false=>exact ⟨_,rfl,rfl⟩
  | true =>
    obtain ⟨n,m,hS⟩:=hc rfl
    have ep : impl_isPattern x q = some d:=by
      unfold impl_areSuppressed at e1 e3
      cases ht : impl_IsTwoWay x with
      | none=>rw [ht] at e1; cases e1
      | some b =>
        rw [ht] at e1 e3
        simp only [Option.bind_some] at e1 e3
        cases b with
        | false=>cases e1
        | true =>
          rw [cond_true] at e3
          cases hz : impl_isPattern x q with
          | none=>rw [hz] at e3; cases e3
          | some z=>rw [hz] at e3; exact e3
    rw [ep]
    simp only [Bool.not_true,cond_false,cond_true,Option.bind_some]
    cases d with
    | false=>exact ⟨_,rfl,rfl⟩
    | true =>
      obtain ⟨n',m',hS'⟩:=hd rfl
      obtain rfl : n = n':=by rw [← hS.xs.len,← hS'.xs.len]
      obtain rfl : m = m':=by
        obtain ⟨r,_,hr,h1,_⟩:=hS.xs.get (i:=0) (by have:=hS.n1; omega)
        rw [← h1]; exact hS'.xs.row r hr
      have h3:=hS.n8; have h4:=hS.m8; have h5:=hS.n1
      obtain ⟨rs,cs,L,f1,f2,f3,f4⟩:=alone_ok hS.ps hS'.ps h5 h3 h4 hS.pb
      rw [covers_ok hS.ps hS'.ps h3 h4,vContains_ok hS.ps hS'.ps h3 h4]
      simp only [Bool.not_true,cond_false,cond_true,Option.bind_some]
      rw [f1,f2,f3,vAlone_ok hS.ps hS'.ps h3 h4 hS.pb]
      simp only [Option.bind_some]
      rw [f4]
      cases anyN (fun i=>anyN (fun j=>is1 q i j && mt p i j == 0) m) n with
      | true=>exact ⟨_,rfl,rfl⟩
      | false =>
        cases anyN (fun i=>anyN (fun j=>is1 q i j && aln n m p i j) m) n with
        | true=>exact ⟨_,rfl,rfl⟩
        | false=>exact ⟨_,rfl,rfl⟩

end

end Go.Gx.F

/- More operations: deep slices,strings,and plain tools. -/
import Derived.Test.YtpjcfmpfiadkgaaGreatGx

namespace Go.Gx

set_option linter.all false

open Go.RowKit

variable {DS : List Deferred}

structure Bt where
  i : Nat
  dst : Nat
  B : Value→Piece→Prop

section

variable {P : Program} {ops : Array Oper} {n : Nat} {X : List Nat} {w0 : World} {m : Mem} {Ld : LdB} {K : Act→World→Prop}

def BtOk (P : Program) (ops : Array Oper) (n : Nat) (X : List Nat) (w0 : World) (m : Mem) (b : Bt) : Prop :=
  ∃ o,ops[b.i]? = some o∧o.guard = none∧∀ {DS : List Deferred} (a : Act) (w : World) (L : List (Nat × Value)) (O : List Piece),FrD DS a n L→St X w0 w m O →
    ∀ K' : Act→World→Prop,(∀ a' w' v q,FrD DS a' n ((b.dst,v) :: L)→b.B v q→St X w0 w' m (q :: O)→Below w.heap.size w w'→K' a' w')→o.wp P a w K' NP

def batchRdy (ops : Array Oper) (l : Array Bool) (is : List Nat) : Bool :=
  (is.all fun i=>(Region.ready .any ops l).contains i) &&
  ((List.range ops.size).all fun j=>l.getD j true || is.contains j || match ops[j]? with
    | none=>true
    | some o=>(o.after.any fun e=>Region.binds .any e && !is.contains e.on && !l.getD e.on true) || (is.all fun i=>o.after.any fun e=>Region.binds .any e && e.on == i))

def setAll (l : Array Bool) : List Nat→Array Bool
  | []=>l
  | i :: r=>setAll (l.setIfInBounds i true) r

theorem setAll_getD {d : Bool} : ∀ (r : List Nat) (l : Array Bool) (j : Nat),j ∉ r→(setAll l r).getD j d = l.getD j d
  | [],_,_,_=>rfl
  | i :: r,l,j,h=>by
    simp only [List.mem_cons,not_or] at h
    rw [setAll,setAll_getD r _ j h.2,getD_set_ne d (fun e=>h.1 e.symm)]

def BtPost (n : Nat) (X : List Nat) (w0 : World) (m : Mem) (L : List (Nat × Value)) (O : List Piece) (bs : List Bt) (a : Act) (w : World) : Prop :=
  ∃ (V : Nat→Value) (Q : Nat→Piece),(∀ b ∈ bs,b.B (V b.dst) (Q b.dst))∧Fr a n (bs.map (fun b=>(b.dst,V b.dst)) ++ L)∧St X w0 w m (bs.map (fun b=>Q b.dst) ++ O)

theorem batch_apart {bs R : List Bt} {D : List (Bt × Value × Piece)} {is : List Nat} (his : bs.map (·.i) = is) (hi : is.Nodup) (hp : (D.map (·.1) ++ R).Perm bs) {b : Bt} (hb : b ∈ R) : b.i ∉ D.map (·.1.i):=fun hm=>by
  have h1 : ((D.map (·.1) ++ R).map (·.i)).Nodup:=by
    have:=hp.map (·.i)
    rw [his] at this
    exact this.nodup_iff.2 hi
  rw [List.map_append,List.nodup_append] at h1
  obtain ⟨d,hd,hde⟩:=List.mem_map.1 hm
  exact h1.2.2 _ (List.mem_map.2 ⟨d.1,List.mem_map.2 ⟨d,hd,rfl⟩,rfl⟩) _ (List.mem_map.2 ⟨b,hb,rfl⟩) hde

end

def BtsOk (P : Program) (ops : Array Oper) (n : Nat) (X : List Nat) (w0 : World) (m : Mem) : List Bt→Prop
  | []=>True
  | b :: r=>BtOk P ops n X w0 m b∧BtsOk P ops n X w0 m r

theorem BtsOk.all {P : Program} {ops : Array Oper} {n : Nat} {X : List Nat} {w0 : World} {m : Mem} : ∀ {bs : List Bt},BtsOk P ops n X w0 m bs→∀ b ∈ bs,BtOk P ops n X w0 m b
  | [],_,b,hb=>by cases hb
  | c :: r,h,b,hb=>by
    rcases List.mem_cons.1 hb with e | hb
    · rw [e]; exact h.1
    · exact BtsOk.all h.2 b hb

theorem BtOk.mk {P : Program} {ops : Array Oper} {n : Nat} {X : List Nat} {w0 : World} {m : Mem} {i dst : Nat} {B : Value→Piece→Prop} {o : Oper} (ho : ops[i]? = some o) (hg : o.guard = none)
    (h : ∀ {DS : List Deferred} (a : Act) (w : World) (L : List (Nat × Value)) (O : List Piece),FrD DS a n L→St X w0 w m O→∀ K' : Act→World→Prop,(∀ a' w' v q,FrD DS a' n ((dst,v) :: L)→B v q→St X w0 w' m (q :: O)→Below w.heap.size w w'→K' a' w')→o.wp P a w K' NP) :
    BtOk P ops n X w0 m ⟨i,dst,B⟩:=⟨o,ho,hg,h⟩

theorem normal_ret {P : Program} {fn : Func} {Q : Ending→World→Prop} {a : Act} {w : World} (h : bodyPost P fn Q .ret a w) : bodyPost P fn Q .normal a w:=h

def goAppZ {α : Type} (bytes : Nat) (l : List α) (c : Int) (z : α) : Option (List α):=cond (decide (0 ≤ c) && decide ((l.length + c.toNat) * bytes ≤ 140737488355328)) (some (l ++ List.replicate c.toNat z)) none

section

variable {P : Program} {L : List (Nat × Value)} {m : Mem} {O : List Piece} {d : Option Tmp} {ty : TypeId} {p : String} {af : Array Edge} {g : Option (Nat × Bool)} {x y : Operand}

variable {a : Act} {n : Nat} {X : List Nat} {w0 w : World} {K : Act→World→Prop} {Q : Exit→Act→World→Prop} {α : Type} [Rep α] {l r : List α}

theorem St.tail {q : Piece} (h : St X w0 w m (q :: O)) : St X w0 w m O:=by
  have hsub : ∀ o ∈ O.flatten,o ∈ (q :: O).flatten:=fun o ho=>by simp only [List.flatten_cons,List.mem_append]; exact .inr ho
  have hn:=h.nodup
  simp only [List.flatten_cons,List.map_append] at hn
  exact ⟨h.kept,h.vis,fun o ho=>h.own o (hsub o ho),fun o ho=>h.free o (hsub o ho),(List.nodup_append.1 hn).2.1⟩

end

instance instRepSl : Rep Sl where
  wd:=1
  rd _ cs h:=cs = [h.v]
  mono _ h:=h
  len h:=by subst h; rfl
  one h:=by subst h; rfl

section

variable {X : List Nat} {w0 w : World} {m m' : Mem} {O O' : List Piece}

theorem St.permF {R : Piece} (h : St X w0 w m O) (hp : (O'.flatten ++ R).Perm O.flatten) : St X w0 w m O':=by
  have hsub : ∀ o ∈ O'.flatten,o ∈ O.flatten:=fun o ho=>hp.subset (List.mem_append_left _ ho)
  refine ⟨h.kept,h.vis,fun o ho=>h.own o (hsub o ho),fun o ho=>h.free o (hsub o ho),?_⟩
  have h1:=(hp.map (·.b)).nodup_iff.2 h.nodup
  rw [List.map_append] at h1
  exact (List.nodup_append.1 h1).1

structure DD {β : Type} [Rep β] (m : Mem) (E Ei : TypeId) (q : Piece) (s : Sl) (l : List (List β)) (q0 : Piece) (hs : List Sl) (qs : List Piece) : Prop where
  eq : q = q0 ++ qs.flatten
  own : OwnL m E q0 s hs
  l1 : hs.length = l.length
  l2 : qs.length = l.length
  el : ∀ (i : Nat) (h : Sl) (p : Piece) (x : List β),hs[i]? = some h→qs[i]? = some p→l[i]? = some x→OwnL m Ei p h x

def OwnD {β : Type} [Rep β] (m : Mem) (E Ei : TypeId) (q : Piece) (s : Sl) (l : List (List β)) : Prop:=∃ q0 hs qs,DD m E Ei q s l q0 hs qs

def ViewD {β : Type} [Rep β] (m : Mem) (E Ei : TypeId) (q : Piece) (s : Sl) (l : List (List β)) (i : Int) (s' : Sl) : Prop:=∃ q0 hs qs,DD m E Ei q s l q0 hs qs∧hs[i.toNat]? = some s'

def AtV (q : Piece) (s : Sl) (k : Nat) (vs : List Value) : Prop:=∃ qi T,(∀ o ∈ qi,o ∈ q)∧AtO qi T s k vs

variable {β : Type} [Rep β] {E Ei : TypeId} {q qi : Piece} {s s' : Sl} {l : List (List β)} {i j : Int} {x : List β} {y : β}

theorem getElem?_of_lt {γ : Type} {l : List γ} {i : Nat} (h : i < l.length) : ∃ x,l[i]? = some x:=⟨l[i],by simp [h]⟩

theorem DD.mono {q0 : Piece} {hs : List Sl} {qs : List Piece} (h : DD m E Ei q s l q0 hs qs) (hm : Mem.le m m') : DD m' E Ei q s l q0 hs qs :=
  ⟨h.eq,h.own.mono hm,h.l1,h.l2,fun i a p x h1 h2 h3=>(h.el i a p x h1 h2 h3).mono hm⟩

theorem OwnD.mono (h : OwnD m E Ei q s l) (hm : Mem.le m m') : OwnD m' E Ei q s l:=by
  obtain ⟨q0,hs,qs,h⟩:=h
  exact ⟨q0,hs,qs,h.mono hm⟩

theorem ViewD.mono (h : ViewD m E Ei q s l i s') (hm : Mem.le m m') : ViewD m' E Ei q s l i s':=by
  obtain ⟨q0,hs,qs,h,h2⟩:=h
  exact ⟨q0,hs,qs,h.mono hm,h2⟩

theorem ViewD.own (h : ViewD m E Ei q s l i s') : OwnD m E Ei q s l:=by
  obtain ⟨q0,hs,qs,h,_⟩:=h
  exact ⟨q0,hs,qs,h⟩

instance : Flat Sl:=⟨fun h=>h⟩

theorem OwnD.any [Flat β] (h : OwnD m E Ei q s l) (m' : Mem) : OwnD m' E Ei q s l:=by
  obtain ⟨q0,hs,qs,h⟩:=h
  exact ⟨q0,hs,qs,h.eq,h.own.any m',h.l1,h.l2,fun i a p x h1 h2 h3=>(h.el i a p x h1 h2 h3).any m'⟩

theorem OwnD.nil (m : Mem) (E Ei : TypeId) : OwnD (β:=β) m E Ei [] nilS [] :=
  ⟨[],[],[],rfl,OwnL.nil m E,rfl,rfl,fun i h p x h1=>by simp at h1⟩

theorem OwnD.len (h : OwnD m E Ei q s l) : l.length = s.len:=by
  obtain ⟨q0,hs,qs,h⟩:=h
  rw [← h.l1,h.own.len]

theorem DD.hdr {q0 : Piece} {hs : List Sl} {qs : List Piece} (h : DD m E Ei q s l q0 hs qs) (hx : goAt l i = some x) :
    ∃ a p,hs[i.toNat]? = some a∧qs[i.toNat]? = some p∧OwnL m Ei p a x∧goAt hs i = some a:=by
  obtain ⟨h0,h1⟩:=goAt_some hx
  have hlt:=(List.getElem?_eq_some_iff.1 h1).1
  obtain ⟨a,ha⟩:=getElem?_of_lt (l:=hs) (i:=i.toNat) (by rw [h.l1]; exact hlt)
  obtain ⟨p,hp⟩:=getElem?_of_lt (l:=qs) (i:=i.toNat) (by rw [h.l2]; exact hlt)
  refine ⟨a,p,ha,hp,h.el _ _ _ _ ha hp h1,?_⟩
  unfold goAt
  rw [show decide (0 ≤ i) = true by simpa using h0]
  exact ha

theorem OwnD.idx (h : OwnD m E Ei q s l) (hx : goAt l i = some x) : Idx s i:=by
  obtain ⟨q0,hs,qs,h⟩:=h
  obtain ⟨a,p,h1,h2,h3,h4⟩:=h.hdr hx
  exact h.own.idx h4

theorem OwnD.view (h : OwnD m E Ei q s l) (hx : goAt l i = some x) : ∃ s',ViewD m E Ei q s l i s':=by
  obtain ⟨q0,hs,qs,h⟩:=h
  obtain ⟨a,p,h1,h2,h3,h4⟩:=h.hdr hx
  exact ⟨a,q0,hs,qs,h,h1⟩

theorem AtO.sub {T : TypeId} {k : Nat} {vs : List Value} (h : AtO qi T s k vs) (hs : ∀ o ∈ qi,o ∈ q) : AtV q s k vs:=⟨qi,T,hs,h⟩

theorem AtV.at {k : Nat} {vs : List Value} (h : AtV q s k vs) (j : Nat) (hj : O[j]? = some q) : AtM m O s k vs:=fun X w0 w hS=>by
  obtain ⟨qi,T,hs,b,cs,rfl,h2,h3,h4⟩:=h
  have hh:=hS.own ⟨b,cs,T⟩ (List.mem_flatten.2 ⟨_,List.mem_of_getElem? hj,hs _ (List.mem_singleton.2 rfl)⟩)
  exact ⟨b,0,cs.toArray,T,(0,0),h2,hh,by simpa using h3,by simpa using h4⟩

theorem ViewD.atH (h : ViewD m E Ei q s l i s') (hx : goAt l i = some x) : AtV q s (i.toNat * 1) [s'.v]:=by
  obtain ⟨q0,hs,qs,h,h2⟩:=h
  obtain ⟨a,p,h3,_,_,h4⟩:=h.hdr hx
  rw [h2] at h3
  obtain rfl:=Option.some.inj h3
  obtain ⟨vs,h5,rfl⟩:=h.own.at h4 1 rfl
  exact h5.sub fun o ho=>by rw [h.eq]; exact List.mem_append_left _ ho

theorem mem_flatten_of {qs : List Piece} {k : Nat} {p : Piece} (h : qs[k]? = some p) {o : OBlk} (ho : o ∈ p) : o ∈ qs.flatten :=
  List.mem_flatten.2 ⟨p,List.mem_of_getElem? h,ho⟩

theorem ViewD.inner (h : ViewD m E Ei q s l i s') (hx : goAt l i = some x) : ∃ p,(∀ o ∈ p,o ∈ q)∧OwnL m Ei p s' x:=by
  obtain ⟨q0,hs,qs,h,h2⟩:=h
  obtain ⟨a,p,h3,h4,h5,_⟩:=h.hdr hx
  rw [h2] at h3
  obtain rfl:=Option.some.inj h3
  exact ⟨p,fun o ho=>by rw [h.eq]; exact List.mem_append_right _ (mem_flatten_of h4 ho),h5⟩

theorem ViewD.len (h : ViewD m E Ei q s l i s') (hx : goAt l i = some x) : x.length = s'.len:=by
  obtain ⟨p,_,h⟩:=h.inner hx
  exact h.len

theorem ViewD.idx (h : ViewD m E Ei q s l i s') (hx : goAt l i = some x) (hy : goAt x j = some y) : Idx s' j:=by
  obtain ⟨p,_,h⟩:=h.inner hx
  exact h.idx hy

theorem ViewD.at (h : ViewD m E Ei q s l i s') (hx : goAt l i = some x) (hy : goAt x j = some y) (n : Nat) (hn : Rep.wd β = n) : ∃ vs,AtV q s' (j.toNat * n) vs∧Rep.rd m vs y:=by
  obtain ⟨p,hp,h⟩:=h.inner hx
  obtain ⟨vs,h1,h2⟩:=h.at hy n hn
  exact ⟨vs,h1.sub hp,h2⟩

theorem ViewD.froz (h : ViewD m E Ei q s l i s') (hx : goAt l i = some x) (hm : Mem.le m m') (hq : ∀ o ∈ q,m' o.b = some o.cs) : Rd m' s' x:=by
  obtain ⟨p,hp,h⟩:=h.inner hx
  exact h.froz hm fun o ho=>hq o (hp o ho)

theorem ViewD.vw (h : ViewD m E Ei q s l i s') (hx : goAt l i = some x) (hS : St X w0 w m O) {j : Nat} (hj : O[j]? = some q) : Vw m w s' x:=by
  obtain ⟨p,hp,h⟩:=h.inner hx
  exact h.vw' fun o ho=>⟨(0,0),hS.own o (List.mem_flatten.2 ⟨q,List.mem_of_getElem? hj,hp o ho⟩)⟩

theorem OwnD.froz (h : OwnD m E Ei q s l) (hm : Mem.le m m') (hq : ∀ o ∈ q,m' o.b = some o.cs) : Rd m' s l:=by
  obtain ⟨q0,hs,qs,h⟩:=h
  have h0 : Rd m' s hs:=h.own.froz hm fun o ho=>hq o (by rw [h.eq]; exact List.mem_append_left _ ho)
  refine ⟨by rw [← h.l1]; exact h0.len,h0.cap,h0.max,h0.nil,fun k hk=>?_⟩
  have hk1 : k < hs.length:=by rw [h.l1]; exact hk
  obtain ⟨b,off,cs,h1,h2,h3,h4⟩:=h0.el k hk1
  refine ⟨b,off,cs,h1,h2,h3,hs[k],h4,?_⟩
  obtain ⟨p,hp⟩:=getElem?_of_lt (l:=qs) (i:=k) (by rw [h.l2]; exact hk)
  exact (h.el k hs[k] p l[k] (by simp [hk1]) hp (by simp [hk])).froz hm fun o ho=>hq o (by rw [h.eq]; exact List.mem_append_right _ (mem_flatten_of hp ho))

theorem goAt_goSet {γ : Type} {l : List γ} {i : Int} {x y : γ} (h : goAt l i = some x) : goAt (goSet l i y) i = some y:=by
  obtain ⟨h0,h1⟩:=goAt_some h
  have hlt:=(List.getElem?_eq_some_iff.1 h1).1
  unfold goAt
  rw [show decide (0 ≤ i) = true by simpa using h0]
  simp [goSet,hlt]

theorem flatten_set_perm {qs : List Piece} {k : Nat} {p p' : Piece} (h : qs[k]? = some p) : ((qs.set k p').flatten ++ p).Perm (p' ++ qs.flatten):=by
  induction qs generalizing k with
  | nil=>simp at h
  | cons a qs ih =>
    cases k with
    | zero =>
      simp only [List.getElem?_cons_zero,Option.some.injEq] at h
      subst h
      simp only [List.set_cons_zero,List.flatten_cons,List.append_assoc]
      exact List.Perm.append_left _ List.perm_append_comm
    | succ k =>
      simp only [List.getElem?_cons_succ] at h
      simp only [List.set_cons_succ,List.flatten_cons]
      have:=ih h
      calc (a ++ (qs.set k p').flatten ++ p).Perm (a ++ ((qs.set k p').flatten ++ p)):=by rw [List.append_assoc]
        _ |>.Perm (a ++ (p' ++ qs.flatten)):=List.Perm.append_left _ this
        _ |>.Perm (p' ++ (a ++ qs.flatten)):=by
          rw [← List.append_assoc,← List.append_assoc]
          exact List.Perm.append_right _ List.perm_append_comm

end

section

variable {P : Program} {L : List (Nat × Value)} {m : Mem} {O : List Piece} {d : Option Tmp} {ty : TypeId} {p : String} {af : Array Edge} {g : Option (Nat × Bool)} {x y : Operand}

variable {a : Act} {n : Nat} {X : List Nat} {w0 w : World} {K : Act→World→Prop} {Q : Exit→Act→World→Prop} {β : Type} [Rep β] {l r l1 l2 : List (List β)}

theorem wp_makeD {t E Ei : TypeId} {kl kc : IntKind} {c : Int} {by' : Nat} {zc : List Value} (hF : FrD DS a n L) (hS : St X w0 w m O) (hu : P.underlying t = some (.slice E)) (hI : inf P E = some (1,by',zc)) (hzc : zc = [nilS.v])
    (hx : evo L x = some (.int kl c)) (hy : evo L y = some (.int kc c)) (hby : 1 ≤ by') (hr : goMake by' c ([] : List β) = some l) (hd : dok d n = true)
    (k : ∀ a' w' q s,FrD DS a' n (putL d s.v L)→St X w0 w' m (q :: O)→OwnD m E Ei q s l→Below w.heap.size w w'→K a' w') :
    (⟨d,.makeSlice t x y,ty,p,af,g⟩ : Oper).wp P a w K Q:=by
  subst hzc
  unfold goMake at hr
  cases hb : (decide (0 ≤ c) && decide ((by' : Int) * c ≤ 281474976710656) && decide (c ≤ 9223372036854775807)) with
  | false=>rw [hb] at hr; cases hr
  | true =>
    rw [hb] at hr
    obtain rfl:=(Option.some.inj hr).symm
    refine wp_make (α:=Sl) (z:=nilS) (l:=List.replicate c.toNat nilS) hF hS hu hI rfl hx hy rfl rfl hby (by unfold goMake; rw [hb]; rfl) hd fun a' w' q s hF' hS' hq hb'=>?_
    refine k a' w' q s hF' hS' ⟨q,List.replicate c.toNat nilS,List.replicate c.toNat [],?_,hq,by simp,by simp,fun i h p x h1 h2 h3=>?_⟩ hb'
    · have : (List.replicate c.toNat ([] : Piece)).flatten = []:=by simp
      rw [this,List.append_nil]
    · rw [List.getElem?_replicate] at h1 h2 h3
      split at h1
      · rename_i hlt
        rw [if_pos hlt] at h2 h3
        obtain rfl:=Option.some.inj h1
        obtain rfl:=Option.some.inj h2
        obtain rfl:=Option.some.inj h3
        exact OwnL.nil m Ei
      · cases h1

theorem wp_build1D {t E Ei : TypeId} {qi : Piece} {s' : Sl} {l' : List β} {o : Operand} {by' : Nat} {zc : List Value} (hF : FrD DS a n L) (hS : St X w0 w m (qi :: O)) (hq : OwnL m Ei qi s' l') (hu : P.underlying t = some (.slice E)) (hI : inf P E = some (1,by',zc)) (hzc : zc = [nilS.v])
    (hx : evo L o = some s'.v) (hd : dok d n = true)
    (k : ∀ a' w' q s,FrD DS a' n (putL d s.v L)→St X w0 w' m (q :: O)→OwnD m E Ei q s [l']→Below w.heap.size w w'→K a' w') :
    (⟨d,.buildSlice t 1 [(0,o)].toArray,ty,p,af,g⟩ : Oper).wp P a w K Q:=by
  subst hzc
  refine wp_buildSlice' (α:=Sl) (l:=[s']) (vs:=[(0,s'.v)]) (cells:=[s'.v]) hF hS hu hI (by simp [evps,hx]) rfl (by kernel_rfl) rfl rfl rfl ⟨rfl,rfl⟩ rfl hd fun a' w' q s hF' hS' hq' hb'=>?_
  refine k a' w' (q ++ qi) s hF' ?_ ⟨q,[s'],[qi],by simp,hq',rfl,rfl,fun i h p x h1 h2 h3=>?_⟩ hb'
  · exact hS'.permF (R:=[]) (by simp)
  · cases i with
    | zero=>simp at h1 h2 h3; subst h1 h2 h3; exact hq
    | succ i=>simp at h1

theorem wp_appendD {t E Ei : TypeId} {q1 q2 : Piece} {s1 s2 : Sl} {by' : Nat} {zc : List Value} (hF : FrD DS a n L) (hS : St X w0 w m (q1 :: q2 :: O)) (hq1 : OwnD m E Ei q1 s1 l1) (hq2 : OwnD m E Ei q2 s2 l2) (hu : P.underlying t = some (.slice E)) (hI : inf P E = some (1,by',zc)) (hzc : zc = [nilS.v])
    (hx : evo L x = some s1.v) (hy : evo L y = some s2.v) (hby : 1 ≤ by') (hr : goApp by' l1 l2 = some r) (hd : dok d n = true)
    (k : ∀ a' w' q' s',FrD DS a' n (putL d s'.v L)→St X w0 w' m (q' :: O)→OwnD m E Ei q' s' r→K a' w') :
    (⟨d,.call { callee:=.builtin .append,args:=#[x,y],argTypes:=#[t,t] },ty,p,af,g⟩ : Oper).wp P a w K Q:=by
  subst hzc
  obtain ⟨q01,hs1,qs1,h1⟩:=hq1
  obtain ⟨q02,hs2,qs2,h2⟩:=hq2
  obtain ⟨hb,rfl⟩:=goApp_some hr
  have hS1 : St X w0 w m (q01 :: q02 :: (qs1.flatten ++ qs2.flatten) :: O):=hS.permF (R:=[]) (by
    simp only [List.flatten_cons,List.append_nil,h1.eq,h2.eq,List.append_assoc]
    exact List.Perm.append_left _ (List.perm_append_comm_assoc _ _ _))
  refine wp_append (α:=Sl) (l:=hs1) (xs:=hs2) (r:=hs1 ++ hs2) hF hS1 h1.own hu hI rfl rfl hx hy (h2.own.vw hS1 (j:=1) rfl) rfl hby (by
    unfold goApp
    rw [h1.l1,h2.l1,show decide ((l1.length + l2.length) * by' ≤ 140737488355328) = true by simpa using hb]
    rfl) hd fun a' w' q' s' hF' hS' hq'=>?_
  refine k a' w' (q' ++ (qs1.flatten ++ qs2.flatten)) s' hF' ?_ ⟨q',hs1 ++ hs2,qs1 ++ qs2,by simp,hq',by simp [h1.l1,h2.l1],by simp [h1.l2,h2.l2],fun i h p x e1 e2 e3=>?_⟩
  · exact hS'.permF (R:=q02) (by
      simp only [List.flatten_cons,List.append_assoc]
      refine List.Perm.append_left _ ?_
      simpa only [List.append_assoc] using (List.perm_append_comm (l₁:=qs1.flatten ++ qs2.flatten ++ O.flatten) (l₂:=q02)))
  · by_cases hi : i < l1.length
    · rw [List.getElem?_append_left (by rw [h1.l1]; exact hi)] at e1
      rw [List.getElem?_append_left (by rw [h1.l2]; exact hi)] at e2
      rw [List.getElem?_append_left hi] at e3
      exact h1.el i h p x e1 e2 e3
    · rw [List.getElem?_append_right (by rw [h1.l1]; omega),h1.l1] at e1
      rw [List.getElem?_append_right (by rw [h1.l2]; omega),h1.l2] at e2
      rw [List.getElem?_append_right (by omega)] at e3
      exact h2.el _ h p x e1 e2 e3

theorem wp_storeD {t E Ei : TypeId} {q qi : Piece} {s s2 : Sl} {k' : Nat} {i : Int} {x0 x2 : List β} (hF : FrD DS a n L) (hS : St X w0 w m (q :: qi :: O)) (hq : OwnD m E Ei q s l) (hqi : OwnL m Ei qi s2 x2) (hz : szOf P t = some 1)
    (hx : evo L x = some (elP s k')) (hy : evo L y = some s2.v) (hi : goAt l i = some x0) (hk : k' = i.toNat * 1)
    (kk : ∀ w' q',St X w0 w' m (q' :: O)→OwnD m E Ei q' s (goSet l i x2)→K a w') :
    (⟨none,.store t x y,ty,p,af,g⟩ : Oper).wp P a w K Q:=by
  obtain ⟨q0,hs,qs,h⟩:=hq
  obtain ⟨h0,p0,e1,e2,e3,e4⟩:=h.hdr hi
  obtain ⟨vs,hat,rfl⟩:=h.own.at e4 1 rfl
  have hS1 : St X w0 w m (q0 :: qs.flatten :: qi :: O):=hS.permF (R:=[]) (by simp [h.eq])
  obtain ⟨hi0,hi1⟩:=goAt_some hi
  refine wp_storeE (α:=Sl) (e':=s2) (us:=[s2.v]) (vs:=[h0.v]) 0 hF hS1 h.own hz hx hy rfl rfl rfl rfl rfl e4 hat rfl hk rfl fun w' q' hS' hq'=>?_
  refine kk w' (q' ++ (qs.set i.toNat qi).flatten) ?_ ⟨q',goSet hs i s2,qs.set i.toNat qi,rfl,hq',by simp [goSet,h.l1],by simp [goSet,h.l2],fun k h1 p1 x1 f1 f2 f3=>?_⟩
  · exact hS'.permF (R:=p0) (by
      simp only [List.flatten_cons,List.append_assoc]
      refine List.Perm.append_left _ ?_
      have hp:=flatten_set_perm (p':=qi) e2
      refine (List.Perm.append_left (qs.set i.toNat qi).flatten List.perm_append_comm).trans ?_
      rw [← List.append_assoc,← List.append_assoc]
      exact List.Perm.append_right _ (hp.trans List.perm_append_comm))
  · by_cases hki : k = i.toNat
    · subst hki
      have l1:=(List.getElem?_eq_some_iff.1 e1).1
      have l2:=(List.getElem?_eq_some_iff.1 e2).1
      have l3:=(List.getElem?_eq_some_iff.1 hi1).1
      simp [goSet,l1,l2,l3] at f1 f2 f3
      subst f1 f2 f3
      exact hqi
    · rw [goSet,List.getElem?_set_ne (Ne.symm hki)] at f1 f3
      rw [List.getElem?_set_ne (Ne.symm hki)] at f2
      exact h.el k h1 p1 x1 f1 f2 f3

theorem wp_storeV {t E Ei : TypeId} {q : Piece} {s s' : Sl} {sz nz k' : Nat} {i j : Int} {xl : List β} {e e' : β} {v : Value} {us vs : List Value} (o : Nat) (hF : FrD DS a n L) (hS : St X w0 w m (q :: O)) (hq : ViewD m E Ei q s l i s') (hi : goAt l i = some xl) (hz : szOf P t = some nz)
    (hx : evo L x = some (elP s' k')) (hy : evo L y = some v) (hv : v.cells = us.toArray) (hn : us.length = nz) (h1 : us.all (·.oneCell') = true) (hwd : Rep.wd β = sz) (hle : Nat.ble (o + us.length) sz = true) (hj : goAt xl j = some e)
    (hat : AtV q s' (j.toNat * sz) vs) (hvl : vs.length = sz) (hk : k' = j.toNat * sz + o) (hrd : Rep.rd m (setCs vs o us) e')
    (kk : ∀ w' q',St X w0 w' m (q' :: O)→ViewD m E Ei q' s (goSet l i (goSet xl j e')) i s'→K a w') :
    (⟨none,.store t x y,ty,p,af,g⟩ : Oper).wp P a w K Q:=by
  obtain ⟨q0,hs,qs,h,hh⟩:=hq
  obtain ⟨h0,p0,e1,e2,e3,e4⟩:=h.hdr hi
  rw [hh] at e1
  obtain rfl:=Option.some.inj e1
  obtain ⟨hi0,hi1⟩:=goAt_some hi
  have hS1 : St X w0 w m (p0 :: q0 :: ((qs.set i.toNat []).flatten) :: O):=hS.permF (R:=[]) (by
    simp only [List.flatten_cons,List.append_nil,h.eq,← List.append_assoc]
    refine List.Perm.append_right _ ?_
    have hp:=flatten_set_perm (p':=[]) e2
    refine List.Perm.trans (l₂:=q0 ++ p0 ++ (qs.set i.toNat []).flatten) (List.Perm.append_right _ List.perm_append_comm) ?_
    rw [List.append_assoc]
    exact List.Perm.append_left _ (List.perm_append_comm.trans hp))
  have hat' : AtO p0 Ei s' (j.toNat * sz) vs:=by
    obtain ⟨vs',g1,g2⟩:=e3.at hj sz hwd
    have g3:=Rep.len g2
    obtain ⟨b1,o1,c1,T1,z1,k1,k2,k3,k4⟩:=hat.at (m:=m) (O:=q :: O) 0 rfl X w0 w hS
    obtain ⟨b2,o2,c2,T2,z2,k5,k6,k7,k8⟩:=g1.at (m:=m) (O:=p0 :: q0 :: ((qs.set i.toNat []).flatten) :: O) 0 rfl X w0 w hS1
    rw [k1] at k5
    simp only [Option.some.injEq,Addr.mk.injEq,and_true] at k5
    obtain ⟨rfl,rfl⟩:=k5
    rw [k2] at k6
    simp only [Option.some.injEq,Obj.cells.injEq] at k6
    obtain ⟨rfl,_,_⟩:=k6
    rw [g3,hwd] at k8
    rw [hvl] at k4
    rw [← k4,k8]
    exact g1
  refine wp_storeE (e':=e') o hF hS1 e3 hz hx hy hv hn h1 hwd hle hj hat' hvl hk hrd fun w' p' hS' hp'=>?_
  refine kk w' (q0 ++ (qs.set i.toNat p').flatten) ?_ ⟨q0,hs,qs.set i.toNat p',⟨rfl,h.own,by simp [goSet,h.l1],by simp [goSet,h.l2],fun k h1 p1 x1 f1 f2 f3=>?_⟩,hh⟩
  · refine hS'.permF (R:=[]) ?_
    simp only [List.flatten_cons,List.append_nil,← List.append_assoc]
    refine List.Perm.append_right _ ?_
    have l2:=(List.getElem?_eq_some_iff.1 e2).1
    have hp:=flatten_set_perm (qs:=qs.set i.toNat []) (k:=i.toNat) (p:=[]) (p':=p') (by simp [l2])
    rw [List.set_set,List.append_nil] at hp
    refine List.Perm.trans (List.Perm.append_left q0 hp) ?_
    rw [← List.append_assoc]
    exact List.Perm.append_right _ List.perm_append_comm
  · by_cases hki : k = i.toNat
    · subst hki
      have l2:=(List.getElem?_eq_some_iff.1 e2).1
      have l3:=(List.getElem?_eq_some_iff.1 hi1).1
      rw [hh] at f1
      simp [goSet,l2,l3] at f2 f3
      obtain rfl:=Option.some.inj f1
      subst f2 f3
      exact hp'
    · rw [goSet,List.getElem?_set_ne (Ne.symm hki)] at f3
      rw [List.getElem?_set_ne (Ne.symm hki)] at f2
      exact h.el k h1 p1 x1 f1 f2 f3

end

section

variable {P : Program} {L : List (Nat × Value)} {m : Mem} {O : List Piece} {d : Option Tmp} {ty : TypeId} {p : String} {af : Array Edge} {g : Option (Nat × Bool)} {x y : Operand}

theorem run_equal_nilS (t e : TypeId) (a : Option Addr) (l c : Nat) (w : World) (h : P.underlying t = some (.slice e)) : (Op.equal t (.slice a l c) (.slice none 0 0)).run P w = .ok a.isNone w:=by
  show (Op.equalIn (9999 + 1) t (.slice a l c) (.slice none 0 0)).run P w = _
  generalize 9999 = k
  cases a <;> simp [Op.equalIn,run_underlying h]

theorem ex_eqNil {t yt e : TypeId} {s : Sl} (hu : P.underlying t = some (.slice e)) (hx : evo L x = some s.v) (hy : evo L y = some nilS.v) : Ex P ⟨d,.binOp .eql t x y yt,ty,p,af,g⟩ L m O (.bool s.p.isNone):=fun _ a n X w0 w hF _=>by
  simp only [execOp,hF.eval hx,hF.eval hy,eqGuard]
  simp [binOp,run_equal_nilS t e s.p s.len s.cap w hu]

theorem Rd.nilE {α : Type} [Rep α] {s : Sl} {l : List α} (h : Rd m s l) (hc : s.p.isNone = true) : l = []:=by
  have h1:=h.nil (by simpa using hc)
  exact List.eq_nil_of_length_eq_zero (by rw [h.len]; exact h1.1)

theorem OwnL.nilE {α : Type} [Rep α] {T : TypeId} {q : Piece} {s : Sl} {l : List α} (h : OwnL m T q s l) (hc : s.p.isNone = true) : l = []:=by
  have hp : s.p = none:=by simpa using hc
  refine List.eq_nil_of_length_eq_zero ?_
  rcases h.blk with ⟨_,_,h3⟩ | ⟨b,cs,_,h2,_⟩
  · have:=h.cap; have:=h.len; omega
  · rw [hp] at h2; cases h2

end

def Tot {α : Type} (x : Option α) (Q : α→Prop) : Prop:=∃ r,x = some r∧Q r

section

variable {α β σ ρ : Type} {x y : Option α} {P Q : α→Prop} {R : β→Prop} {f : α→Option β}

theorem tot_some {r : α} (h : Q r) : Tot (some r) Q:=⟨r,rfl,h⟩

theorem tot_bind (h : Tot x Q) (k : ∀ t,Q t→Tot (f t) R) : Tot (x.bind f) R:=by
  obtain ⟨r,rfl,hr⟩:=h
  exact k r hr

theorem tot_cond {b : Bool} (h1 : b = true→Tot x Q) (h2 : b = false→Tot y Q) : Tot (cond b x y) Q:=by
  cases b
  · exact h2 rfl
  · exact h1 rfl

theorem tot_loop {body : σ→Option (Stp σ ρ)} {Q : ρ→Prop} {s : σ} (I : σ→Prop) (μ : σ→Nat) (h0 : I s)
    (h : ∀ s,I s→Tot (body s) (fun st=>match st with | .next s'=>I s'∧μ s' < μ s | .done r=>Q r)) : Tot (loopC body s) Q:=by
  refine loopC_inv I μ Q (fun s hs=>?_) s h0
  obtain ⟨st,e,hq⟩:=h s hs
  cases st with
  | next s'=>exact .inr ⟨s',e,hq⟩
  | done r=>exact .inl ⟨r,e,hq⟩

theorem tot_at {l : List α} {i : Int} (h0 : 0 ≤ i) (h1 : i < l.length) (hq : ∀ e,l[i.toNat]? = some e→e ∈ l→Q e) : Tot (goAt l i) Q:=by
  have hlt : i.toNat < l.length:=by omega
  have e : l[i.toNat]? = some l[i.toNat]:=by simp [hlt]
  refine ⟨l[i.toNat],?_,hq _ e (List.getElem_mem hlt)⟩
  unfold goAt
  rw [decide_eq_true h0]
  exact e

theorem tot_app {b : Nat} {l z : List α} {Q : List α→Prop} (h : (l.length + z.length) * b ≤ 140737488355328) (hq : Q (l ++ z)) : Tot (goApp b l z) Q:=⟨_,goApp_ok h,hq⟩

theorem tot_make {b n : Nat} {z : α} {i : Int} {Q : List α→Prop} (hi : i = n) (h : b * n ≤ 281474976710656) (h2 : n ≤ 9223372036854775807) (hq : Q (List.replicate n z)) : Tot (goMake b i z) Q:=by
  subst hi
  exact ⟨_,goMake_ok h h2,hq⟩

theorem tot_rem {a b : Int} {Q : Int→Prop} (h : b ≠ 0) (hq : Q (a.tmod b)) : Tot (goRem a b) Q:=by
  refine ⟨_,?_,hq⟩
  unfold goRem
  rw [show (b == 0) = false by simpa using h]
  rfl

theorem tot_quo {k : IntKind} {a b : Int} {Q : Int→Prop} (h : b ≠ 0) (hq : Q (k.wrap (a.tdiv b))) : Tot (goQuo k a b) Q:=by
  refine ⟨_,?_,hq⟩
  unfold goQuo
  rw [show (b == 0) = false by simpa using h]
  rfl

theorem tot_sub {l : List α} {i j : Int} {Q : List α→Prop} (h0 : 0 ≤ i) (h1 : i ≤ j) (h2 : j ≤ l.length) (hq : Q ((l.drop i.toNat).take (j.toNat - i.toNat))) : Tot (goSub l i j) Q:=by
  refine ⟨_,?_,hq⟩
  unfold goSub
  rw [decide_eq_true h0,decide_eq_true h1,decide_eq_true h2]
  rfl

theorem tot_eq {r : α} (h : Tot x (fun z=>z = r)) : x = some r:=by
  obtain ⟨z,e,rfl⟩:=h
  exact e

end

def Bis (x : Option Bool) (P : Prop) : Prop:=∃ b : Bool,x = some b∧(b = true ↔ P)

section

variable {α : Type} {x y : Option Bool} {P Q : Prop}

theorem bis_some {b : Bool} (h : b = true ↔ P) : Bis (some b) P:=⟨b,rfl,h⟩

theorem bis_iff (h : Bis x P) (hpq : P ↔ Q) : Bis x Q:=by
  obtain ⟨b,e,hb⟩:=h
  exact ⟨b,e,hb.trans hpq⟩

theorem bis_not (h : Bis x P) : Bis (x.bind fun t=>some (!t)) (¬ P):=by
  obtain ⟨b,rfl,hb⟩:=h
  refine ⟨!b,rfl,?_⟩
  rw [← hb]; cases b <;> simp

theorem bis_loop {l : List α} (p : Nat→α→Prop) {body : Int→Option (Stp Int (Unit ⊕ Bool))}
    (h1 : ∀ k x,l[k]? = some x→∃ b : Bool,(b = true ↔ p k x)∧body k = some (cond b (.next ((k + 1 : Nat) : Int)) (.done (.inr false))))
    (h2 : body l.length = some (.done (.inl ()))) : Bis ((loopC body 0).bind fun | .inl ()=>some true | .inr o=>some o) (∀ k x,l[k]? = some x→p k x):=by
  suffices h : ∀ (j k : Nat),k + j = l.length→(∀ i x,i < k→l[i]? = some x→p i x)→Bis ((loopC body (k : Int)).bind fun | .inl ()=>some true | .inr o=>some o) (∀ k x,l[k]? = some x→p k x) from
    h l.length 0 (by omega) (fun i x hi=>by omega)
  intro j
  induction j with
  | zero =>
    intro k hk hp
    obtain rfl : k = l.length:=by omega
    rw [loopC_eq,h2]
    exact ⟨true,rfl,by simp only [true_iff]; exact fun i x hx=>hp i x (List.getElem?_eq_some_iff.1 hx).1 hx⟩
  | succ j ih =>
    intro k hk hp
    have hlt : k < l.length:=by omega
    have hx : l[k]? = some l[k]:=by simp [hlt]
    obtain ⟨b,hb,e⟩:=h1 k l[k] hx
    rw [loopC_eq,e]
    cases b with
    | true =>
      refine ih (k + 1) (by omega) fun i x hi hix=>?_
      by_cases hik : i = k
      · subst hik
        rw [hx] at hix
        obtain rfl:=Option.some.inj hix
        exact hb.1 rfl
      · exact hp i x (by omega) hix
    | false =>
      refine ⟨false,rfl,?_⟩
      simp only [Bool.false_eq_true,false_iff]
      exact fun hall=>by have:=hb.2 (hall k l[k] hx); simp at this

end

def goStrAt (l : List UInt8) (i : Int) : Option Int:=cond (decide (0 ≤ i)) (l[i.toNat]?.map fun b=>(b.toNat : Int)) none

def goCat (a b : List UInt8) : Option (List UInt8):=cond (decide (a.length + b.length ≤ 9223372036854775807)) (some (a ++ b)) none

def goBytes (l : List (K .u8)) : List UInt8:=l.map fun x=>UInt8.ofNat x.v.toNat

theorem bytes_size (l : List UInt8) : (ByteArray.mk l.toArray).size = l.length:=by simp [ByteArray.size]

section

variable {P : Program} {L : List (Nat × Value)} {m : Mem} {O : List Piece} {d : Option Tmp} {ty : TypeId} {p : String} {af : Array Edge} {g : Option (Nat × Bool)} {x y : Operand} {l r : List UInt8}

theorem ex_strIdx {t : TypeId} {k : IntKind} {i v : Int} (hu : P.underlying t = some .string) (hx : evo L x = some (strV l)) (hy : evo L y = some (.int k i)) (h : goStrAt l i = some v) : Ex P ⟨d,.index t x y,ty,p,af,g⟩ L m O (.int .u8 v):=fun _ a n X w0 w hF _=>by
  unfold goStrAt at h
  cases hb : decide (0 ≤ i) with
  | false=>rw [hb] at h; cases h
  | true =>
    rw [hb] at h
    simp only [cond_true,Option.map_eq_some_iff] at h
    obtain ⟨b,h1,rfl⟩:=h
    obtain ⟨h2,h3⟩:=List.getElem?_eq_some_iff.1 h1
    have h0 : 0 ≤ i:=by simpa using hb
    have hi : 0 ≤ i∧i < (ByteArray.mk l.toArray).size:=by rw [bytes_size]; omega
    have hr:=run_index_string (P:=P) w t ⟨l.toArray⟩ k i hu
    rw [dif_pos hi] at hr
    simp only [execOp,hF.eval hx,hF.eval hy,Sem.run_bind,hr,Result.andThen_ok,Sem.run_pure]
    have e : (ByteArray.mk l.toArray)[i.toNat]'(by omega) = l[i.toNat]:=by
      show l.toArray[i.toNat] = l[i.toNat]
      simp
    rw [e,h3]

end

abbrev iV (n : Int) : Value:=.int .i64 n

section

variable {P : Program} {L : List (Nat × Value)} {m : Mem} {O O0 O1 : List Piece} {a : Act} {n : Nat} {X : List Nat} {w0 w : World} {Q : Exit→Act→World→Prop} {K : Act→World→Prop}

variable {d : Option Tmp} {ty : TypeId} {p : String} {af : Array Edge} {g : Option (Nat × Bool)} {ops : Array Oper} {rest : List Oper} {x : Operand}

theorem ex_makeFunc {f : FuncId} {cs : List Operand} {vs : List Value} (hc : evs L cs = some vs) : Ex P ⟨d,.makeFunc (.func f) #[] cs.toArray,ty,p,af,g⟩ L m O (.func (.func f) #[] vs.toArray) :=
  fun _ a n X w0 w hF _=>by
    have e : cs.toArray.map a.eval = vs.toArray:=by simp [hF.evs hc]
    simp [execOp,Instr.makeFunc,hF.evs hc]

theorem run_callv {o : Oper} {f : FuncId} {fn : Func} {args : Array Operand} {ats : Array TypeId} {cap : List Value} (hop : o.op = .call { callee:=.value x,args,argTypes:=ats })
    (hx : a.eval x = .func (.func f) #[] cap.toArray) (hf : P.funcs[f]? = some fn) (hname : (fn.name == "runtime.NumGoroutine") = false) (hb : fn.body.isNone = false) : (execOp a.eval o).run P w = .ok (.enter f (args.map a.eval ++ cap.toArray)) w := by
  have h1 : ¬ fn.name = "runtime.NumGoroutine" := by simpa using hname
  have h2 : ¬ fn.body = none:=by cases hx : fn.body <;> simp_all
  unfold execOp
  simp [hop,resolve,hx,Deferred.ofValue,invoke,callFunc,hf,h1,h2]

theorem wp_callV {f : FuncId} {fn : Func} {args : List Operand} {ats : Array TypeId} {vs cap : List Value} {R : Value→World→Prop} (hF : FrD DS a n L)
    (hx : evo L x = some (.func (.func f) #[] cap.toArray))
    (hf : P.funcs[f]? = some fn) (hname : (fn.name == "runtime.NumGoroutine") = false) (hb : fn.body.isNone = false) (hargs : evs L args = some vs) (hd : dok d n = true)
    (hc : RetX P f (vs ++ cap) w R) (k : ∀ a' w' v,R v w'→FrD DS a' n (putL d v L)→K a' w') :
    (⟨d,.call { callee:=.value x,args:=args.toArray,argTypes:=ats },ty,p,af,g⟩ : Oper).wp P a w K Q:=by
  unfold Oper.wp
  rw [run_callv (a:=a) (w:=w) (cap:=cap) rfl (hF.eval hx) hf hname hb]
  have e : args.toArray.map a.eval ++ cap.toArray = (vs ++ cap).toArray:=by simp [hF.evs hargs]
  rw [e]
  refine Calls.mono hc ?_
  rintro e w' ⟨v,rfl,hR⟩
  exact k _ _ _ hR (hF.put _ hd)

theorem wp_callv {f : FuncId} {fn : Func} {args : List Operand} {ats : Array TypeId} {vs cap : List Value} {R : Value→World→Prop} (hF : FrD DS a n L) (hS : St X w0 w m O)
    (hx : evo L x = some (.func (.func f) #[] cap.toArray))
    (hf : P.funcs[f]? = some fn) (hname : (fn.name == "runtime.NumGoroutine") = false) (hb : fn.body.isNone = false) (hargs : evs L args = some vs) (hd : dok d n = true)
    (hc : Ret P f (vs ++ cap) w R) (k : ∀ a' w' v,R v w'→FrD DS a' n (putL d v L)→St X w0 w' m O→Below w.heap.size w w'→K a' w') :
    (⟨d,.call { callee:=.value x,args:=args.toArray,argTypes:=ats },ty,p,af,g⟩ : Oper).wp P a w K Q:=by
  unfold Oper.wp
  rw [run_callv (a:=a) (w:=w) (cap:=cap) rfl (hF.eval hx) hf hname hb]
  have e : args.toArray.map a.eval ++ cap.toArray = (vs ++ cap).toArray:=by simp [hF.evs hargs]
  rw [e]
  refine Calls.mono hc ?_
  rintro e w' ⟨v,rfl,hbel,hR⟩
  exact k _ _ _ hR (hF.put _ hd) (hS.below hbel) hbel

theorem q_callv {f : FuncId} {fn : Func} {args : List Operand} {ats : Array TypeId} {vs cap : List Value} {R : Value→World→Prop} (hF : FrD DS a n L) (hS : St X w0 w m O)
    (hx : evo L x = some (.func (.func f) #[] cap.toArray))
    (hf : P.funcs[f]? = some fn) (hname : (fn.name == "runtime.NumGoroutine") = false) (hb : fn.body.isNone = false) (hargs : evs L args = some vs) (hd : dok d n = true)
    (hc : Ret P f (vs ++ cap) w R) (k : ∀ a' w' v,R v w'→FrD DS a' n (putL d v L)→St X w0 w' m O→wpList P ops Q rest a' w') :
    wpList P ops Q (⟨d,.call { callee:=.value x,args:=args.toArray,argTypes:=ats },ty,p,af,none⟩ :: rest) a w :=
  wpList_plain rfl fun _ hK=>wp_callv hF hS hx hf hname hb hargs hd hc fun a' w' v h1 h2 h3 _=>hK _ _ (k a' w' v h1 h2 h3)

variable {Ld : LdB} {f : Nat} {l : Array Bool}

theorem e_callv {g : FuncId} {fn : Func} {args : List Operand} {ats : Array TypeId} {vs cap : List Value} {R : Value→World→Prop} {i : Nat} (hF : FrD DS a n L) (hS : St X w0 w m O)
    (hi : ops[i]? = some ⟨d,.call { callee:=.value x,args:=args.toArray,argTypes:=ats },ty,p,af,none⟩)
    (hx : evo L x = some (.func (.func g) #[] cap.toArray))
    (hf : P.funcs[g]? = some fn) (hname : (fn.name == "runtime.NumGoroutine") = false) (hb : fn.body.isNone = false) (hargs : evs L args = some vs) (hd : dok d n = true)
    (hc : Ret P g (vs ++ cap) w R) (k : ∀ a' w' v,R v w'→FrD DS a' n (putL d v L)→St X w0 w' m O→wpE P ops Ld K f (l.setIfInBounds i true) a' w') : EOp P ops Ld K f l i a w :=
  e_op hi rfl fun _ hK=>wp_callv hF hS hx hf hname hb hargs hd hc fun a' w' v h1 h2 h3 hbb=>hK _ _ hbb (k a' w' v h1 h2 h3)

end

def NF {α : Type} (s : Sl) (l : List α) : Prop:=l.isEmpty = true→s.p = none

def goNE {α : Type} (l : List α) : Option Unit:=cond l.isEmpty none (some ())

section

variable {α : Type} {s : Sl} {l x : List α}

theorem NF.nil : NF nilS ([] : List α):=fun _=>rfl

theorem NF.cons {a : α} : NF s (a :: l):=fun h=>by cases h

theorem NF.goNE {u : Unit} (h : goNE l = some u) : NF s l:=fun hl=>by unfold Gx.goNE at h; rw [hl] at h; cases h

end

section

variable {P : Program} {L : List (Nat × Value)} {m : Mem} {O : List Piece} {d : Option Tmp} {ty : TypeId} {p : String} {af : Array Edge} {g : Option (Nat × Bool)} {x y : Operand}

variable {α : Type} {s : Sl} {l : List α}

theorem nf_isNone (hn : NF s l) (hf : s.p.isNone = true→l = []) : s.p.isNone = l.isEmpty:=by
  cases h : l.isEmpty with
  | true=>rw [hn h]; rfl
  | false =>
    cases hp : s.p.isNone with
    | false=>rfl
    | true=>rw [hf hp] at h; simp at h

theorem ex_eqNilF {t yt e : TypeId} (hu : P.underlying t = some (.slice e)) (hn : NF s l) (hf : s.p.isNone = true→l = []) (hx : evo L x = some s.v) (hy : evo L y = some nilS.v) : Ex P ⟨d,.binOp .eql t x y yt,ty,p,af,g⟩ L m O (.bool l.isEmpty):=by
  rw [← nf_isNone hn hf]; exact ex_eqNil hu hx hy

end

def goDel {α : Type} (l : List α) (i j : Int) : Option (List α):=cond (decide (0 ≤ i) && decide (i < j) && decide (j ≤ (l.length : Int))) (some (l.take i.toNat ++ l.drop j.toNat)) none

def delS (s : Sl) (n : Nat) : Sl:=⟨s.p,n,s.cap⟩

section

variable {P : Program} {L : List (Nat × Value)} {m : Mem} {O : List Piece} {d : Option Tmp} {ty : TypeId} {p : String} {af : Array Edge} {g : Option (Nat × Bool)} {x y : Operand}

variable {a : Act} {n : Nat} {X : List Nat} {w0 w : World} {K : Act→World→Prop} {Q : Exit→Act→World→Prop} {α : Type} [Rep α] {l r : List α}

end

def goLe (i j : Int) : Option Unit:=cond (decide (i ≤ j)) (some ()) none

section

variable {P : Program} {L : List (Nat × Value)} {m : Mem} {O : List Piece} {d : Option Tmp} {ty : TypeId} {p : String} {af : Array Edge} {g : Option (Nat × Bool)} {x : Operand}

end

def goIx (n : Nat) (i : Int) : Option Unit:=cond (decide (0 ≤ i) && decide (i < (n : Int))) (some ()) none

section

variable {P : Program} {L : List (Nat × Value)} {m : Mem} {O : List Piece} {d : Option Tmp} {ty : TypeId} {p : String} {af : Array Edge} {g : Option (Nat × Bool)} {x y : Operand}

end

section

variable {X : List Nat} {w0 w : World} {m m' : Mem} {O O' : List Piece}

variable {β : Type} [Rep β] {E Ei : TypeId} {q qi : Piece} {s s' : Sl} {l : List (List β)} {i j : Int} {x : List β} {y : β}

def OwnH {β : Type} [Rep β] (m : Mem) (E Ei : TypeId) (q : Piece) (s : Sl) (l : List (List β)) (i : Int) : Prop :=
  ∃ (q0 : Piece) (hs : List Sl) (qs : List Piece),q = q0 ++ qs.flatten∧OwnL m E q0 s hs∧hs.length = l.length∧qs.length = l.length∧qs[i.toNat]? = some [] ∧
    ∀ (k : Nat) (h : Sl) (p : Piece) (z : List β),k ≠ i.toNat→hs[k]? = some h→qs[k]? = some p→l[k]? = some z→OwnL m Ei p h z

theorem St.takeV (hS : St X w0 w m (q :: O)) (h : ViewD m E Ei q s l i s') (hx : goAt l i = some x) : ∃ qi q1,St X w0 w m (qi :: q1 :: O)∧OwnL m Ei qi s' x∧OwnH m E Ei q1 s l i:=by
  obtain ⟨q0,hs,qs,h,hh⟩:=h
  obtain ⟨h0,p0,e1,e2,e3,e4⟩:=h.hdr hx
  rw [hh] at e1
  obtain rfl:=Option.some.inj e1
  have l2:=(List.getElem?_eq_some_iff.1 e2).1
  refine ⟨p0,q0 ++ (qs.set i.toNat []).flatten,?_,e3,q0,hs,qs.set i.toNat [],rfl,h.own,h.l1,by simp [h.l2],by simp [l2],fun k h1 p1 z hk f1 f2 f3=>?_⟩
  · exact hS.permF (R:=[]) (by
      simp only [List.flatten_cons,List.append_nil,h.eq,← List.append_assoc]
      refine List.Perm.append_right _ ?_
      have hp:=flatten_set_perm (p':=[]) e2
      refine List.Perm.trans (l₂:=q0 ++ p0 ++ (qs.set i.toNat []).flatten) (List.Perm.append_right _ List.perm_append_comm) ?_
      rw [List.append_assoc]
      exact List.Perm.append_left _ (List.perm_append_comm.trans hp))
  · rw [List.getElem?_set_ne (Ne.symm hk)] at f2
    exact h.el k h1 p1 z f1 f2 f3

theorem OwnH.mono (h : OwnH m E Ei q s l i) (hm : Mem.le m m') : OwnH m' E Ei q s l i:=by
  obtain ⟨q0,hs,qs,h1,h2,h3,h4,h5,h6⟩:=h
  exact ⟨q0,hs,qs,h1,h2.mono hm,h3,h4,h5,fun k a p z hk f1 f2 f3=>(h6 k a p z hk f1 f2 f3).mono hm⟩

theorem OwnH.hdr (h : OwnH m E Ei q s l i) (hx : goAt l j = some x) : ∃ (q0 : Piece) (hs : List Sl) (a : Sl),OwnL m E q0 s hs∧goAt hs j = some a:=by
  obtain ⟨q0,hs,qs,h1,h2,h3,h4,h5,h6⟩:=h
  obtain ⟨h0,hx1⟩:=goAt_some hx
  have hlt:=(List.getElem?_eq_some_iff.1 hx1).1
  obtain ⟨a,ha⟩:=getElem?_of_lt (l:=hs) (i:=j.toNat) (by rw [h3]; exact hlt)
  refine ⟨q0,hs,a,h2,?_⟩
  unfold goAt
  rw [show decide (0 ≤ j) = true by simpa using h0]
  exact ha

theorem OwnH.idx (h : OwnH m E Ei q s l i) (hx : goAt l j = some x) : Idx s j:=by
  obtain ⟨q0,hs,a,h1,h2⟩:=OwnH.hdr h hx
  exact h1.idx h2

end

section

variable {P : Program} {L : List (Nat × Value)} {m : Mem} {O : List Piece} {d : Option Tmp} {ty : TypeId} {p : String} {af : Array Edge} {g : Option (Nat × Bool)} {x y : Operand}

variable {a : Act} {n : Nat} {X : List Nat} {w0 w : World} {K : Act→World→Prop} {Q : Exit→Act→World→Prop} {β : Type} [Rep β] {l : List (List β)}

theorem wp_storeH {t E Ei : TypeId} {q qi : Piece} {s s2 : Sl} {k' : Nat} {i : Int} {x0 x2 : List β} (hF : FrD DS a n L) (hS : St X w0 w m (q :: qi :: O)) (hq : OwnH m E Ei q s l i) (hqi : OwnL m Ei qi s2 x2) (hz : szOf P t = some 1)
    (hx : evo L x = some (elP s k')) (hy : evo L y = some s2.v) (hi : goAt l i = some x0) (hk : k' = i.toNat * 1)
    (kk : ∀ w' q',St X w0 w' m (q' :: O)→OwnD m E Ei q' s (goSet l i x2)→K a w') :
    (⟨none,.store t x y,ty,p,af,g⟩ : Oper).wp P a w K Q:=by
  obtain ⟨q0,hs,qs,e0,ho,l1,l2,l5,hel⟩:=hq
  obtain ⟨hi0,hi1⟩:=goAt_some hi
  have hlt:=(List.getElem?_eq_some_iff.1 hi1).1
  obtain ⟨h0,ha⟩:=getElem?_of_lt (l:=hs) (i:=i.toNat) (by rw [l1]; exact hlt)
  have e4 : goAt hs i = some h0:=by
    unfold goAt
    rw [show decide (0 ≤ i) = true by simpa using hi0]
    exact ha
  obtain ⟨vs,hat,rfl⟩:=ho.at e4 1 rfl
  have hS1 : St X w0 w m (q0 :: qs.flatten :: qi :: O):=hS.permF (R:=[]) (by simp [e0])
  refine wp_storeE (α:=Sl) (e':=s2) (us:=[s2.v]) (vs:=[h0.v]) 0 hF hS1 ho hz hx hy rfl rfl rfl rfl rfl e4 hat rfl hk rfl fun w' q' hS' hq'=>?_
  refine kk w' (q' ++ (qs.set i.toNat qi).flatten) ?_ ⟨q',goSet hs i s2,qs.set i.toNat qi,rfl,hq',by simp [goSet,l1],by simp [goSet,l2],fun k h1 p1 x1 f1 f2 f3=>?_⟩
  · exact hS'.permF (R:=[]) (by
      simp only [List.flatten_cons,List.append_assoc]
      refine List.Perm.append_left _ ?_
      have hp:=flatten_set_perm (p':=qi) l5
      refine (List.Perm.append_left (qs.set i.toNat qi).flatten List.perm_append_comm).trans ?_
      rw [← List.append_assoc,← List.append_assoc]
      exact List.Perm.append_right _ (hp.trans List.perm_append_comm))
  · by_cases hki : k = i.toNat
    · subst hki
      have m1:=(List.getElem?_eq_some_iff.1 ha).1
      have m2:=(List.getElem?_eq_some_iff.1 l5).1
      simp [goSet,m1,m2,hlt] at f1 f2 f3
      subst f1 f2 f3
      exact hqi
    · rw [goSet,List.getElem?_set_ne (Ne.symm hki)] at f1 f3
      rw [List.getElem?_set_ne (Ne.symm hki)] at f2
      exact hel k h1 p1 x1 hki f1 f2 f3

end

section

variable {P : Program} {L : List (Nat × Value)} {m : Mem} {O : List Piece} {d : Option Tmp} {ty : TypeId} {p : String} {af : Array Edge} {g : Option (Nat × Bool)} {x y : Operand} {l r : List UInt8}

end

def NO (Q : Exit→Act→World→Prop) : Exit→Act→World→Prop:=fun e a w=>e ≠ .outgrown∧Q e a w

abbrev FR (l : Option Nat) : Fence:={ Fence.wide with round:=l }

def Wr (P : Program) (l : Option Nat) (c : Code) (Q : Exit→Act→World→Prop) (a : Act) (w : World) : Prop:=c.wpIn (FR l) 0 P (NO Q) a w

def noDefer : List Oper→Bool
  | []=>true
  | o :: r=>(match o.op with | .defer _=>false | _=>true) && noDefer r

section

variable {P : Program} {Q : Exit→Act→World→Prop} {a : Act} {w : World} {l : Option Nat}

theorem NO.out (Q : Exit→Act→World→Prop) : ¬ LetsOut (NO Q):=fun ⟨_,_,h,_⟩=>h rfl

def Sr (P : Program) (l : Option Nat) (r : Code) (Q : Exit→Act→World→Prop) : Exit→Act→World→Prop:=Exit.then (Wr P l r Q) Q

variable {n : Nat} {L : List (Nat × Value)}

end

def seqC {α σ ρ : Type} (f : α→σ→Option (Stp σ ρ)) : List α→σ→Option (σ ⊕ ρ)
  | [],s=>some (.inl s)
  | x :: r,s=>match f x s with
    | none=>none
    | some (.next s')=>seqC f r s'
    | some (.done o)=>some (.inr o)

def mk (D : Nat) : Deferred:={ target:=.collected D,args:=#[] }

structure Mk (w0 : World) (Z : List Deferred) (X1 : List Nat) (w1 : World) : Prop where
  kept : Kept [] w0 w1
  out : ∀ b ∈ X1,w0.heap.size ≤ b
  cel : ∀ b ∈ X1,∃ c T fz,w1.heap[b]? = some (.cells c T fz)
  ds : ∃ Ds : List Nat,Z = Ds.map mk∧Ds.Nodup∧∀ D ∈ Ds,w0.heap.size ≤ D∧w1.heap[D]? = some (.deferred (some []))

def Sf (w0 : World) (Z : List Deferred) (w : World) (m : Mem) (O : List Piece) : Prop:=∃ X1,Mk w0 Z X1 w∧St X1 w w m O

structure Tr (w0 : World) (l : Nat) (q q' : Piece) (A B : World) : Prop where
  os : B.os = A.os
  tape : B.tape = A.tape
  output : B.output = A.output
  size : A.heap.size ≤ B.heap.size
  block : ∀ k,k < A.heap.size→(∀ x ∈ q,x.b ≠ k)→k ≠ l→B.heap[k]? = A.heap[k]?
  lo : w0.heap.size ≤ l
  lp : ∃ r,A.heap[l]? = some (.loop r)
  same : q'.map (·.b) = q.map (·.b)
  cells : ∀ o ∈ q',B.heap[o.b]? = some (.cells o.cs.toArray o.T (0,0))

section

variable {P : Program} {w0 w1 w A B : World} {Z : List Deferred} {X1 : List Nat} {m m' m0 : Mem} {O : List Piece} {q q' : Piece} {l : Nat}

theorem Mk.start (w : World) : Mk w [] [] w:=⟨Kept.refl _ _,by simp,by simp,[],rfl,List.nodup_nil,by simp⟩

theorem Mk.not_in (h : Mk w0 Z X1 w1) {k : Nat} {o : Obj} (hk : w1.heap[k]? = some o) (ho : ∀ c T fz,o ≠ .cells c T fz) : k ∉ X1:=fun hx=>by
  obtain ⟨c,T,fz,hc⟩:=h.cel k hx
  rw [hk] at hc
  exact ho c T fz (Option.some.inj hc)

theorem Mk.kp (h : Mk w0 Z X1 w1) (hS : St X1 w1 w m O) {k : Nat} {o : Obj} (hk : w1.heap[k]? = some o) (ho : ∀ c T fz,o ≠ .cells c T fz) : w.heap[k]? = some o :=
  (hS.kept.block k (lt_of_heap hk) (h.not_in hk ho)).trans hk

theorem Mk.keptB (h : Mk w0 Z X1 w1) (hk : Kept X1 w1 w) : Kept [] w0 w :=
  ⟨hk.os.trans h.kept.os,hk.tape.trans h.kept.tape,hk.output.trans h.kept.output,Nat.le_trans h.kept.size hk.size,fun k hlt hx=>by
    rw [hk.block k (Nat.lt_of_lt_of_le hlt h.kept.size) fun hx1=>by have:=h.out k hx1; omega]
    exact h.kept.block k hlt hx⟩

theorem Mk.freeB (h : Mk w0 Z X1 w1) (hS : St X1 w1 w m O) {o : OBlk} (ho : o ∈ O.flatten) : m o.b = none∧w0.heap.size ≤ o.b:=by
  obtain ⟨h1,h2⟩:=hS.free o ho
  refine ⟨h1,?_⟩
  rcases h2 with h2 | h2
  · exact Nat.le_trans h.kept.size h2
  · exact h.out _ h2

theorem Mk.back (h : Mk w0 Z X1 w1) (hS : St X1 w1 w m O) : St [] w0 w m O :=
  ⟨h.keptB hS.kept,hS.vis,hS.own,fun o ho=>⟨(h.freeB hS ho).1,.inl (h.freeB hS ho).2⟩,hS.nodup⟩

theorem Mk.sf (h : Mk w0 Z X1 w1) (hS : St X1 w1 w m O) : Sf w0 Z w m O:=by
  refine ⟨O.flatten.map (·.b),⟨h.keptB hS.kept,fun b hb=>?_,fun b hb=>?_,?_⟩,⟨Kept.refl _ _,hS.vis,hS.own,fun o ho=>⟨(hS.free o ho).1,.inr (List.mem_map.2 ⟨o,ho,rfl⟩)⟩,hS.nodup⟩⟩
  · obtain ⟨o,ho,rfl⟩:=List.mem_map.1 hb
    exact (h.freeB hS ho).2
  · obtain ⟨o,ho,rfl⟩:=List.mem_map.1 hb
    exact ⟨_,_,_,hS.own o ho⟩
  · obtain ⟨Ds,h1,h2,h3⟩:=h.ds
    exact ⟨Ds,h1,h2,fun D hD=>⟨(h3 D hD).1,h.kp hS (h3 D hD).2 (fun _ _ _=>nofun)⟩⟩

theorem Sf.tr (h : Sf w0 Z A m (q :: O)) (t : Tr w0 l q q' A B) : Sf w0 Z B m (q' :: O):=by
  obtain ⟨X1,hM,hS⟩:=h
  obtain ⟨r,hr⟩:=t.lp
  have hq : ∀ o ∈ q,o ∈ (q :: O).flatten:=fun o ho=>by simp [ho]
  have hO : ∀ o ∈ O.flatten,o ∈ (q :: O).flatten:=fun o ho=>by simp only [List.flatten_cons,List.mem_append]; exact .inr ho
  have hbs : (q' :: O).flatten.map (·.b) = (q :: O).flatten.map (·.b):=by simp only [List.flatten_cons,List.map_append,t.same]
  have hin : ∀ o ∈ q',∃ p ∈ q,p.b = o.b:=fun o ho=>by
    have : o.b ∈ q.map (·.b):=by rw [← t.same]; exact List.mem_map.2 ⟨o,ho,rfl⟩
    obtain ⟨p,hp,he⟩:=List.mem_map.1 this
    exact ⟨p,hp,he⟩
  have keep : ∀ k o,A.heap[k]? = some o→(∀ x ∈ q,x.b ≠ k)→(∀ r,o ≠ .loop r)→B.heap[k]? = some o:=fun k o hk hx hl=>by
    rw [t.block k (lt_of_heap hk) hx (fun e=>by subst e; rw [hr] at hk; exact hl r (Option.some.inj hk).symm)]
    exact hk
  have hnd:=hS.nodup
  simp only [List.flatten_cons,List.map_append] at hnd
  rw [List.nodup_append] at hnd
  obtain ⟨_,_,hdis⟩:=hnd
  refine ⟨(q :: O).flatten.map (·.b),⟨⟨t.os.trans hM.kept.os,t.tape.trans hM.kept.tape,t.output.trans hM.kept.output,Nat.le_trans hM.kept.size t.size,fun k hk hx=>?_⟩,fun b hb=>?_,fun b hb=>?_,?_⟩,
    ⟨Kept.refl _ _,fun b cs hb=>?_,fun o ho=>?_,fun o ho=>?_,by rw [hbs]; exact hS.nodup⟩⟩
  · rw [t.block k (Nat.lt_of_lt_of_le hk hM.kept.size) (fun x hxq e=>by have:=(hM.freeB hS (hq x hxq)).2; omega) (fun e=>by have:=t.lo; omega)]
    exact hM.kept.block k hk hx
  · obtain ⟨o,ho,rfl⟩:=List.mem_map.1 hb
    exact (hM.freeB hS ho).2
  · rw [← hbs] at hb
    obtain ⟨o,ho,rfl⟩:=List.mem_map.1 hb
    simp only [List.flatten_cons,List.mem_append] at ho
    rcases ho with ho | ho
    · exact ⟨_,_,_,t.cells o ho⟩
    · exact ⟨_,_,_,keep _ _ (hS.own o (hO o ho)) (fun x hx e=>hdis _ (List.mem_map.2 ⟨x,hx,rfl⟩) _ (List.mem_map.2 ⟨o,ho,rfl⟩) e) (fun _=>nofun)⟩
  · obtain ⟨Ds,h1,h2,h3⟩:=hM.ds
    refine ⟨Ds,h1,h2,fun D hD=>⟨(h3 D hD).1,keep _ _ (h3 D hD).2 (fun x hx e=>?_) (fun _=>nofun)⟩⟩
    have:=hS.own x (hq x hx)
    rw [e,(h3 D hD).2] at this
    cases this
  · obtain ⟨T,fz,hc⟩:=hS.vis b cs hb
    refine ⟨T,fz,keep _ _ hc (fun x hx e=>?_) (fun _=>nofun)⟩
    have:=(hS.free x (hq x hx)).1
    rw [e,hb] at this
    cases this
  · simp only [List.flatten_cons,List.mem_append] at ho
    rcases ho with ho | ho
    · exact t.cells o ho
    · exact keep _ _ (hS.own o (hO o ho)) (fun x hx e=>hdis _ (List.mem_map.2 ⟨x,hx,rfl⟩) _ (List.mem_map.2 ⟨o,ho,rfl⟩) e) (fun _=>nofun)
  · simp only [List.flatten_cons,List.mem_append] at ho
    rcases ho with ho | ho
    · obtain ⟨p,hp,he⟩:=hin o ho
      rw [← he]
      exact ⟨(hS.free p (hq p hp)).1,.inr (List.mem_map.2 ⟨p,hq p hp,rfl⟩)⟩
    · exact ⟨(hS.free o (hO o ho)).1,.inr (List.mem_map.2 ⟨o,hO o ho,rfl⟩)⟩

def ItF (m0 : Mem) (q : Piece) (A : World) : Prop:=Vis m0 A∧(q.map (·.b)).Nodup∧∀ o ∈ q,A.heap[o.b]? = some (.cells o.cs.toArray o.T (0,0))∧m0 o.b = none

def ItOK (P : Program) (gf : FuncId) (q0 : Piece) (caps : List Value) (xs : List (List UInt8)) (m0 : Mem) : Prop :=
  ∀ (w0 : World) (l : Nat) (J : Nat→Piece→World→Prop) (Jx : World→Prop) (W : World),w0.heap.size ≤ l →
    (∀ i q q' A B,Tr w0 l q q' A B→B.heap[l]? = A.heap[l]?→J i q A→J i q' B) →
    (∀ i q A,J i q A→ItF m0 q A∧∃ r,A.heap[l]? = some (.loop r)) →
    (∀ i q A x,J i q A→xs[i]? = some x→∃ fn tmps assign body,(Instr.yield l #[strV x]).run P A = .ok (.round l fn tmps assign body) A ∧
      RoundIn (FR none) 0 P l fn tmps assign body A fun e W'=>(e = .returned (.bool true)∧J (i + 1) q W') ∨ (e = .returned (.bool false)∧Jx W')) →
    J 0 q0 W →
    CallsIn (FR none) 0 P gf (#[.func (.yield l) #[] #[]] ++ caps.toArray) W fun e W'=>(∃ v,e = .returned v)∧((∃ q,J xs.length q W') ∨ Jx W')

def RQ {σ ρ : Type} (I : List Deferred→σ→Piece→World→Prop) (D : List Deferred→ρ→Piece→World→Prop) (Z : List Deferred) (q : Piece) (wr : World) (st : Stp σ ρ) : Exit→Act→World→Prop:=fun e _ w =>
  (∀ (k : Nat) (r : Loop),wr.heap[k]? = some (Obj.loop r)→w.heap[k]? = some (Obj.loop r))∧match st with
  | .next s=>e = .normal∧I Z s q w
  | .done o=>e = .ret∧D Z o q w

theorem Tr.put (lo : w0.heap.size ≤ l) {r : Loop} (hl : A.heap[l]? = some (.loop r)) (hf : ItF m0 q A) (o : Obj) : Tr w0 l q q A (A.putObj l o) :=
  ⟨rfl,rfl,rfl,by simp,fun k _ _ hne=>World.putObj_heap_other hne,lo,⟨r,hl⟩,rfl,fun x hx=>by
    rw [World.putObj_heap_other (fun e=>by have:=(hf.2.2 x hx).1; rw [e,hl] at this; cases this)]
    exact (hf.2.2 x hx).1⟩

variable {Q : Exit→Act→World→Prop} {a : Act} {n : Nat} {L L0 : List (Nat × Value)}

end

def splitB (c : UInt8) : List UInt8→List (List UInt8)
  | []=>[[]]
  | x :: r=>if x == c then [] :: splitB c r else match splitB c r with
    | []=>[[x]]
    | y :: ys=>(x :: y) :: ys

def idxB (c : UInt8) : List UInt8→Int
  | []=>-1
  | x :: r=>if x == c then 0 else if idxB c r == -1 then -1 else idxB c r + 1

section

variable {P : Program} {Q : Exit→Act→World→Prop} {a : Act} {w w0 : World} {ro : Option Nat} {ops : Array Oper} {rest : List Oper} {L : List (Nat × Value)} {m m0 : Mem} {O : List Piece} {X : List Nat} {n : Nat}

variable {q q' : Piece} {A B : World} {l : Nat}

theorem ItF.st (h : ItF m0 q A) : St (q.map (·.b)) A A m0 [q] :=
  ⟨Kept.refl _ _,h.1,fun o ho=>(h.2.2 o (by simpa using ho)).1,fun o ho=>by
    have ho' : o ∈ q:=by simpa using ho
    exact ⟨(h.2.2 o ho').2,.inr (List.mem_map.2 ⟨o,ho',rfl⟩)⟩,by simpa using h.2.1⟩

theorem ItF.tr (h : ItF m0 q A) (hl : ∃ r,A.heap[l]? = some (.loop r)) (lo : w0.heap.size ≤ l) (hS : St (q.map (·.b)) A B m0 [q']) (hb : q'.map (·.b) = q.map (·.b)) : Tr w0 l q q' A B∧B.heap[l]? = A.heap[l]?:=by
  obtain ⟨r,hr⟩:=hl
  refine ⟨⟨hS.kept.os,hS.kept.tape,hS.kept.output,hS.kept.size,fun k hk hx hne=>hS.kept.block k hk fun hm=>?_,lo,⟨r,hr⟩,hb,fun o ho=>hS.own o (by simpa using ho)⟩,hS.kept.block l (lt_of_heap hr) fun hm=>?_⟩
  · obtain ⟨o,ho,he⟩:=List.mem_map.1 hm
    exact hx o ho he
  · obtain ⟨o,ho,he⟩:=List.mem_map.1 hm
    have:=(h.2.2 o ho).1
    rw [he,hr] at this
    cases this

end

def lenB (w : World) (b : Nat) : Nat:=match w.heap[b]? with
  | some (Obj.cells cs _ _)=>match cs[0]? with
    | some (Value.string s)=>s.size
    | _=>0
  | _=>0

theorem Sf.below {w0 w w' : World} {Z : List Deferred} {m : Mem} {O : List Piece} (h : Sf w0 Z w m O) (hb : Below w.heap.size w w') : Sf w0 Z w' m O:=by
  obtain ⟨X1,hM,hS⟩:=h
  exact hM.sf (hS.below hb)

section

variable {P : Program} {w0 w : World} {Z : List Deferred} {m0 : Mem} {Q : Exit→Act→World→Prop} {a : Act} {n : Nat} {L L0 : List (Nat × Value)}

end

def goRune (i : Int) : Option (List UInt8):=cond (decide (0 ≤ i∧i < 128)) (some [UInt8.ofNat i.toNat]) none

section

variable {P : Program} {L : List (Nat × Value)} {m : Mem} {O : List Piece} {d : Option Tmp} {ty : TypeId} {p : String} {af : Array Edge} {g : Option (Nat × Bool)} {x : Operand}

end

def goSpl (s : List UInt8) : Option Unit:=cond (decide (s.length < 4294967281)) (some ()) none

open Classical in
noncomputable def recO {α : Type} (F : Nat→Option α) : Option α:=if h : ∃ k,(F k).isSome = true then F h.choose else none

abbrev pP (b o : Nat) : Value:=.pointer (some ⟨b,o,none⟩)

section

variable {P : Program} {L : List (Nat × Value)} {m : Mem} {O : List Piece} {d : Option Tmp} {ty : TypeId} {p : String} {af : Array Edge} {x : Operand}

variable {a : Act} {n : Nat} {X : List Nat} {w0 w : World} {K : Act→World→Prop} {Q : Exit→Act→World→Prop} {ops : Array Oper} {o : Oper} {rest : List Oper} {v : Value} {Ld : LdB} {f : Nat} {l : Array Bool} {c1 c2 : Code}

theorem q_sr {id : Nat} {lo : List Oper} (h : wpList P lo.toArray (Sq P c2 Q) lo a w) : (Code.seq (Code.region id lo.toArray false) c2).wp P Q a w:=q_seq (q_region h)

theorem q_m (hF : FrD DS a n L) (hx : evo L x = some v) (k : ∀ a',FrD DS a' n (putL d v L)→wpList P ops Q rest a' w) (hd : dok d n = true:=by rfl) : wpList P ops Q (⟨d,.move x,ty,p,af,none⟩ :: rest) a w :=
  q_x hF (St.start w _ (vis_none w)) (ex_move hx) rfl hd k

theorem q_s (hF : FrD DS a n L) (hx : evo L x = some v) (k : ∀ a',FrD DS a' n (putL d v L)→wpList P ops Q rest a' w) (hd : dok d n = true:=by rfl) : wpList P ops Q (⟨d,.assign x,ty,p,af,none⟩ :: rest) a w :=
  q_x hF (St.start w _ (vis_none w)) (ex_assign hx) rfl hd k

theorem q_y (hF : FrD DS a n L) (hS : St X w0 w m O) (hx : Ex P o L m O v) (k : ∀ a',FrD DS a' n (putL o.dst v L)→wpList P ops Q rest a' w) (hg : o.guard = none:=by rfl) (hd : dok o.dst n = true:=by rfl) : wpList P ops Q (o :: rest) a w :=
  q_x hF hS hx hg hd k

theorem q_g {j t : Nat} {b c : Bool} (hF : FrD DS a n L) (hS : St X w0 w m O) (hx : Ex P o L m O v) (hb : b = c) (k : ∀ a',FrD DS a' n (putL o.dst v L)→wpList P ops Q rest a' w) (hg : o.guard = some (j,c):=by rfl) (hj : (ops[j]?).bind (·.dst) = some t:=by rfl) (hl : lk L t = some (.bool b):=by rfl) (hd : dok o.dst n = true:=by rfl) : wpList P ops Q (o :: rest) a w :=
  q_xg hF hS hx (wanted_t hF hg hj hl hb) hd k

theorem q_k {j t : Nat} {b c e : Bool} (hF : FrD DS a n L) (hb : b = e) (k : ∀ a',FrD DS a' n (putL o.dst undef L)→wpList P ops Q rest a' w) (hg : o.guard = some (j,c):=by rfl) (hj : (ops[j]?).bind (·.dst) = some t:=by rfl) (hl : lk L t = some (.bool b):=by rfl) (hbc : (e == c) = false:=by rfl) (hd : dok o.dst n = true:=by rfl) : wpList P ops Q (o :: rest) a w :=
  q_skip hF (wanted_f hF hg hj hl hb hbc) hd k

theorem e_P (i : Nat) (hF : FrD DS a n L) (hi : ops[i]? = some o) (hx : Ex P o L (fun _=>none) [] v)
    (k : ∀ a',FrD DS a' n (putL o.dst v L)→wpE P ops Ld K f (l.setIfInBounds i true) a' w) (hg : o.guard = none:=by rfl) (hd : dok o.dst n = true:=by rfl) (hs : Region.noSelect ops = true:=by kernel_rfl) (hf : Region.free .any ops l i = true:=by kernel_rfl) (hr : (Region.ready .any ops l).contains i = true:=by kernel_rfl) : wpE P ops Ld K (f + 1) l a w :=
  e_p i hF hi hx hg hd hs hf hr k

theorem e_X (i : Nat) (hF : FrD DS a n L) (hS : St X w0 w m O) (hi : ops[i]? = some o) (hx : Ex P o L m O v)
    (k : ∀ a',FrD DS a' n (putL o.dst v L)→wpE P ops Ld K f (l.setIfInBounds i true) a' w) (hg : o.guard = none:=by rfl) (hd : dok o.dst n = true:=by rfl) (hs : Region.noSelect ops = true:=by kernel_rfl) (hf : Region.free .any ops l i = true:=by kernel_rfl) (hr : (Region.ready .any ops l).contains i = true:=by kernel_rfl) (hl : ldWait ops Ld l i = true:=by kernel_rfl) : wpE P ops Ld K (f + 1) l a w :=
  e_x i hF hS hi hx hg hd hs hf hr hl k

end

def goBld (a b : List UInt8) : Option (List UInt8):=cond (decide (a.length + b.length ≤ 140737488355328)) (some (a ++ b)) none

section

variable {m m' : Mem} {T : TypeId} {q : Piece} {s : Sl} {l : List Int} {X : List Nat} {w0 w w' : World} {O : List Piece} {i : Int} {x : Int}

structure OwnT (m : Mem) (T : TypeId) (q : Piece) (s : Sl) (l : List Int) : Prop where
  len : l.length = s.len
  cap : s.len ≤ s.cap
  max : s.cap ≤ maxLen
  blk : ∃ b off cs,q = [⟨b,cs,T⟩]∧s.p = some ⟨b,off,none⟩∧off + s.cap ≤ cs.length∧∀ (i : Nat) (x : Int),l[i]? = some x→cs[off + i]? = some (.int .i64 x)

theorem OwnT.any (h : OwnT m T q s l) (m' : Mem) : OwnT m' T q s l:=⟨h.len,h.cap,h.max,h.blk⟩

theorem OwnT.mono (h : OwnT m T q s l) (hm : Mem.le m m') : OwnT m' T q s l:=h.any m'

theorem OwnL.toT (h : OwnL m T q s l) (hne : l ≠ []) : OwnT m T q s l:=by
  refine ⟨h.len,h.cap,h.max,?_⟩
  rcases h.blk with ⟨_,_,h3⟩ | ⟨b,cs,h1,h2,h3,h4⟩
  · have h5:=h.cap; have h6:=h.len
    exact absurd (List.eq_nil_of_length_eq_zero (by omega)) hne
  · have hw : (Rep.wd Int) = 1:=rfl
    rw [hw,Nat.mul_one] at h3
    refine ⟨b,0,cs,h1,h2,by omega,fun i x hx=>?_⟩
    obtain ⟨hi,rfl⟩:=List.getElem?_eq_some_iff.1 hx
    have h5:=h4 i hi
    rw [hw,Nat.mul_one] at h5
    have h6 : slab cs i 1 = [.int .i64 l[i]]:=h5
    unfold slab at h6
    have h7 : (List.take 1 (List.drop i cs))[0]? = some (.int .i64 l[i]):=by rw [h6]; rfl
    rw [List.getElem?_take_of_lt (by omega),List.getElem?_drop] at h7
    simpa using h7

theorem OwnT.idx (h : OwnT m T q s l) (hx : goAt l i = some x) : Idx s i:=by
  obtain ⟨h1,h2⟩:=goAt_some hx
  have hlt:=(List.getElem?_eq_some_iff.1 h2).1
  obtain ⟨b,off,cs,_,hp,_⟩:=h.blk
  exact ⟨h1,by rw [← h.len]; exact hlt,b,off,hp⟩

def AtT (q : Piece) (T : TypeId) (s : Sl) (k : Nat) (vs : List Value) : Prop:=∃ b off cs,q = [⟨b,cs,T⟩]∧s.p = some ⟨b,off,none⟩∧off + k + vs.length ≤ cs.length∧slab cs (off + k) vs.length = vs

theorem AtT.at {k : Nat} {vs : List Value} (h : AtT q T s k vs) (j : Nat) (hj : O[j]? = some q) : AtM m O s k vs:=fun X w0 w hS=>by
  obtain ⟨b,off,cs,rfl,h2,h3,h4⟩:=h
  have hh:=hS.own ⟨b,cs,T⟩ (List.mem_flatten.2 ⟨_,List.mem_of_getElem? hj,List.mem_singleton.2 rfl⟩)
  exact ⟨b,off,cs.toArray,T,(0,0),h2,hh,by simpa using h3,by simpa using h4⟩

theorem OwnT.at (h : OwnT m T q s l) (hx : goAt l i = some x) (n : Nat) (hn : n = 1) : ∃ vs,AtT q T s (i.toNat * n) vs∧vs = [.int .i64 x]:=by
  subst hn
  obtain ⟨h1,h2⟩:=goAt_some hx
  obtain ⟨b,off,cs,hq,hp,hc,hall⟩:=h.blk
  have h3:=hall _ _ h2
  obtain ⟨hlt,he⟩:=List.getElem?_eq_some_iff.1 h3
  refine ⟨_,⟨b,off,cs,hq,hp,?_,?_⟩,rfl⟩
  · simp only [List.length_singleton]; omega
  · unfold slab
    simp only [List.length_singleton,Nat.mul_one]
    rw [List.drop_eq_getElem_cons hlt,he]
    rfl

theorem OwnT.sub (h : OwnT m T q s l) (hx : goAt l 0 = some x) : SubOk s 1 (s.len : Int):=by
  obtain ⟨_,h2⟩:=goAt_some hx
  have hlt:=(List.getElem?_eq_some_iff.1 h2).1
  have h3:=h.len
  exact ⟨by omega,by simp at hlt; omega,by omega,h.cap⟩

theorem OwnT.drop (h : OwnT m T q s l) (hx : goAt l 0 = some x) : OwnT m T q (subS s 1 (1 : Int).toNat (s.len : Int).toNat s.cap) (l.drop 1):=by
  obtain ⟨_,h2⟩:=goAt_some hx
  have hlt:=(List.getElem?_eq_some_iff.1 h2).1
  have h3:=h.len; have h4:=h.cap; have h5:=h.max
  simp at hlt
  obtain ⟨b,off,cs,hq,hp,hc,hall⟩:=h.blk
  have e1 : (1 : Int).toNat = 1:=rfl
  refine ⟨by simp [subS]; omega,by simp [subS]; omega,by simp only [subS,e1]; omega,?_⟩
  by_cases hcap : s.cap = 1
  · refine ⟨b,off,cs,hq,by simp [subS,hcap,hp],by simp only [subS,e1]; omega,fun i x hx=>?_⟩
    rw [List.getElem?_drop] at hx
    have:=(List.getElem?_eq_some_iff.1 hx).1
    omega
  · refine ⟨b,off + 1,cs,hq,by simp [subS,hcap,hp,Addr.add],by simp only [subS,e1]; omega,fun i x hx=>?_⟩
    rw [List.getElem?_drop] at hx
    have:=hall _ _ hx
    rw [show off + 1 + i = off + (1 + i) by omega]
    exact this

theorem OwnT.jlen (h : OwnT m T q s l) : goLen l = (s.len : Int):=by rw [goLen,h.len]

theorem OwnT.subok {r : List Int} {i j : Int} (h : OwnT m T q s l) (hr : goSub l i j = some r) : SubOk s i j:=by
  obtain ⟨hi,hij,hj,rfl⟩:=goSub_some hr
  exact ⟨hi,hij,by rw [← h.len]; exact hj,h.cap⟩

theorem OwnT.sub1 {r : List Int} (h : OwnT m T q s l) (hr : goSub l 1 (goLen l) = some r) : OwnT m T q (subS s 1 (1 : Int).toNat (goLen l).toNat s.cap) r:=by
  obtain ⟨hi,hij,hj,rfl⟩:=goSub_some hr
  have hlt : 1 ≤ l.length:=by simp only [goLen] at hij; omega
  have h3:=h.len; have h4:=h.cap; have h5:=h.max
  obtain ⟨b,off,cs,hq,hp,hc,hall⟩:=h.blk
  have e1 : (1 : Int).toNat = 1:=rfl
  have e2 : (goLen l).toNat = l.length:=Int.toNat_natCast _
  have e3 : (l.drop (1 : Int).toNat).take ((goLen l).toNat - (1 : Int).toNat) = l.drop 1:=by
    rw [e1,e2,List.take_of_length_le (by simp)]
  rw [e3]
  refine ⟨by simp [subS] <;> omega,by simp only [subS,e1,e2]; omega,by simp only [subS,e1]; omega,?_⟩
  by_cases hcap : s.cap = 1
  · refine ⟨b,off,cs,hq,by simp [subS,hcap,hp],by simp only [subS,e1]; omega,fun i x hx=>?_⟩
    rw [List.getElem?_drop] at hx
    have:=(List.getElem?_eq_some_iff.1 hx).1
    omega
  · refine ⟨b,off + 1,cs,hq,by simp [subS,hcap,hp,Addr.add],by simp only [subS,e1]; omega,fun i x hx=>?_⟩
    rw [List.getElem?_drop] at hx
    have:=hall _ _ hx
    rw [show off + 1 + i = off + (1 + i) by omega]
    exact this

end

section

variable {P : Program} (w : World)

theorem run_append_roomT (t ty e : TypeId) (i : TypeInfo) (ht : P.underlying t = some (.slice e)) (hi : P.info? e = some i)
    (g off sLen sCap : Nat) (cur : Array Value) (hg : w.heap[g]? = some (.cells cur e (0,0)))
    (a : Addr) (m c : Nat) (news : List Value) (hl : news.length = m * i.size) (hnews : ∀ j u,news[j]? = some u→w.cell? (a.add j) = some u) (h1 : ∀ u ∈ news,u.oneCell' = true)
    (hroom : sLen + m ≤ sCap) (hfit : off + sLen * i.size + news.length ≤ cur.size) :
    (Builtin.append_ #[t,t] ty #[.slice (some ⟨g,off,none⟩) sLen sCap,.slice (some a) m c]).run P w =
      .ok (.slice (some ⟨g,off,none⟩) (sLen + m) sCap) (w.setRow g (cur.toList.take (off + sLen * i.size) ++ news ++ cur.toList.drop (off + sLen * i.size + news.length)).toArray):=by
  have hf:=run_firstCells_some (P:=P) w i.size m a m c news hl hnews
  have hst:=run_storeCells_at P g (off + sLen * i.size) e news 0 cur w hg (by simpa using hfit) h1
  simp only [Nat.add_zero] at hst
  simp [Builtin.append_,run_underlying ht,sizeOf,typeInfo,hi,Builtin.lenOf,hroom,hf,Addr.add_lit,hst]

end

section

variable {P : Program} {L : List (Nat × Value)} {m : Mem} {O : List Piece} {a : Act} {n : Nat} {X : List Nat} {w0 w : World} {Q : Exit→Act→World→Prop} {K : Act→World→Prop}

variable {d : Option Tmp} {ty : TypeId} {p : String} {af : Array Edge} {g : Option (Nat × Bool)} {x y : Operand} {l r : List Int} {z : Int}

theorem wp_appendT {t E : TypeId} {q : Piece} {s s2 : Sl} {sz by' : Nat} {zc : List Value} (hF : FrD DS a n L) (hS : St X w0 w m (q :: O)) (hq : OwnT m E q s l) (hu : P.underlying t = some (.slice E)) (hI : inf P E = some (sz,by',zc)) (hzc : zc.length = sz)
    (hsz : sz = 1) (hx : evo L x = some s.v) (hy : evo L y = some s2.v) (hv : Vw m w s2 [z]) (hby : 1 ≤ by') (hr : goApp by' l [z] = some r) (hd : dok d n = true)
    (k : ∀ a' w' q' s',FrD DS a' n (putL d s'.v L)→St X w0 w' m (q' :: O)→OwnT m E q' s' r→K a' w') :
    (⟨d,.call { callee:=.builtin .append,args:=#[x,y],argTypes:=#[t,t] },ty,p,af,g⟩ : Oper).wp P a w K Q:=by
  obtain ⟨i,z',hi,h1,h2,h3,h4⟩:=inf_spec hI
  obtain ⟨hb,rfl⟩:=goApp_some hr
  subst hsz
  have hlen:=hq.len
  have hcap:=hq.cap
  have hlen2:=hv.len
  simp only [List.length_singleton] at hlen2 hb
  obtain ⟨b,off,cs,rfl,hp,hcs,hall⟩:=hq.blk
  have hh:=hS.own ⟨b,cs,E⟩ (by simp)
  obtain ⟨ad,news,hp2,hnl,hnews,hnrd⟩:=hv.cells (by simp)
  have hw : (Rep.wd Int) = 1:=rfl
  rw [hw,Nat.mul_one] at hnl
  have hn1 : news = [.int .i64 z]:=by
    have h5:=hnrd 0 (by simp)
    rw [hw] at h5
    have h6 : slab news (0 * 1) 1 = [.int .i64 z]:=h5
    unfold slab at h6
    match news,hnl with
    | [u],_=>simpa using h6
    | [],h=>simp at h; omega
    | _ :: _ :: _,h=>simp at h; omega
  subst hn1
  have h1c : ∀ u ∈ [Value.int .i64 z],u.oneCell' = true:=fun u hu=>by simp at hu; subst hu; rfl
  have hv2 : s2.v = .slice (some ad) 1 s2.cap:=by simp [Sl.v,hp2,← hlen2]
  have hsv : s.v = .slice (some ⟨b,off,none⟩) s.len s.cap:=by simp [Sl.v,hp]
  have hmax : l.length + 1 ≤ maxLen:=by
    have : l.length + 1 ≤ (l.length + 1) * by':=Nat.le_mul_of_pos_right _ (by omega)
    simp only [maxLen]
    omega
  have hmaxI : ((s.len + 1 : Nat) : Int) ≤ 9223372036854775807:=by
    have h6 : maxLen ≤ 9223372036854775807:=by decide
    omega
  have hev : ∀ {v' : Value} {w' : World},(Builtin.append_ #[t,t] ty #[s.v,s2.v]).run P w = .ok v' w'→(execOp a.eval ⟨d,.call { callee:=.builtin .append,args:=#[x,y],argTypes:=#[t,t] },ty,p,af,g⟩).run P w = .ok (.value v') w':=fun h=>by
    simp [execOp,resolve,invoke,builtin,hF.eval hx,hF.eval hy,h]
  by_cases hroom : s.len + 1 ≤ s.cap
  · have hrun:=run_append_roomT (P:=P) w t ty E i hu hi b off s.len s.cap cs.toArray hh ad 1 s2.cap [.int .i64 z] (by simp [h1]) hnews h1c hroom (by rw [h1]; simp; omega)
    rw [← hsv,← hv2] at hrun
    rw [h1] at hrun
    simp only [Nat.mul_one,List.length_singleton] at hrun
    have hS' : St X w0 _ m ([⟨b,cs.take (off + s.len) ++ [Value.int .i64 z] ++ cs.drop (off + s.len + 1),E⟩] :: O):=hS.setRow (j:=0) (k:=0) rfl (cs.take (off + s.len) ++ [Value.int .i64 z] ++ cs.drop (off + s.len + 1))
    refine wp_of_run (hev hrun) (k _ _ [⟨b,cs.take (off + s.len) ++ [Value.int .i64 z] ++ cs.drop (off + s.len + 1),E⟩] ⟨some ⟨b,off,none⟩,s.len + 1,s.cap⟩ (hF.put _ hd) hS' ⟨by simp [hlen],hroom,hq.max,b,off,_,rfl,rfl,?_,fun j u hj=>?_⟩)
    · simp; omega
    · by_cases hjl : j < l.length
      · rw [List.getElem?_append_left hjl] at hj
        have:=hall j u hj
        rw [List.append_assoc,List.getElem?_append_left (by simp; omega),List.getElem?_take_of_lt (by omega)]
        exact this
      · have hlt:=(List.getElem?_eq_some_iff.1 hj).1
        simp at hlt
        obtain rfl : j = l.length:=by omega
        rw [List.getElem?_append_right (Nat.le_refl _)] at hj
        simp at hj
        subst hj
        rw [List.append_assoc,List.getElem?_append_right (by simp; omega)]
        have e : off + l.length - (cs.take (off + s.len)).length = 0:=by simp; omega
        rw [e]; rfl
  · have holds : ∀ j u,((cs.drop off).take s.len)[j]? = some u→w.cell? ((⟨b,off,none⟩ : Addr).add j) = some u:=fun j u hj=>by
      have hjlt : j < s.len:=by have:=(List.getElem?_eq_some_iff.1 hj).1; simp at this; omega
      rw [List.getElem?_take_of_lt hjlt,List.getElem?_drop] at hj
      rw [addr_add]
      simp [World.cell?,hh,hj]
    have hol : ((cs.drop off).take s.len).length = s.len:=by simp; omega
    have hfits : Builtin.nextslicecap (s.len + 1) s.cap * i.bytes ≤ 281474976710656:=growslice_fits (by omega) (by rw [h2,← hlen]; exact hb)
    have hrun:=run_append_grow (P:=P) w t ty E i z' hu hi h3 ⟨b,off,none⟩ s.len s.cap ((cs.drop off).take s.len) (by rw [h1,hol]; simp) holds ad 1 s2.cap [.int .i64 z] (by simp [h1]) hnews (by omega) hmaxI hfits
    rw [← hsv,← hv2] at hrun
    have hge:=grownCap_ge w (s.len + 1) s.cap E
    have hcm:=grownCap_le_maxLen w (s.len + 1) s.cap E (by rw [← hlen]; exact hmax)
    have hzz : z'.cells.size = 1:=by rw [h4]; simpa using hzc
    let cs' : List Value:=(cs.drop off).take s.len ++ [.int .i64 z] ++ (Builtin.zeroCells z'.cells (grownCap w (s.len + 1) s.cap E - (s.len + 1))).toList
    have hcs' : (((cs.drop off).take s.len).toArray ++ [Value.int .i64 z].toArray ++ Builtin.zeroCells z'.cells (grownCap w (s.len + 1) s.cap E - (s.len + 1))) = cs'.toArray:=by
      apply Array.ext'
      simp [cs']
    rw [hcs'] at hrun
    have hS1 : St X w0 (w.drew.alloc (.cells cs'.toArray E)) m ([⟨w.heap.size,cs',E⟩] :: O):=by
      have hbl : Below w.heap.size w w.drew:=(Below.refl _ _).drew
      have h5:=(hS.below hbl).alloc cs' E
      exact h5.permF (R:=[⟨b,cs,E⟩]) (by simp only [List.flatten_cons,List.append_assoc]; exact List.Perm.append_left _ List.perm_append_comm)
    refine wp_of_run (hev hrun) (k _ _ _ ⟨some ⟨w.heap.size,0,none⟩,s.len + 1,grownCap w (s.len + 1) s.cap E⟩ (hF.put _ hd) hS1 ⟨by simp [hlen],hge,hcm,w.heap.size,0,cs',rfl,rfl,?_,fun j u hj=>?_⟩)
    · simp only [cs',List.length_append,List.length_singleton,hol,Array.length_toList,size_zeroCells,hzz]
      omega
    · simp only [Nat.zero_add,cs']
      by_cases hjl : j < l.length
      · rw [List.getElem?_append_left hjl] at hj
        have:=hall j u hj
        rw [List.append_assoc,List.getElem?_append_left (by rw [hol]; omega),List.getElem?_take_of_lt (by omega),List.getElem?_drop]
        exact this
      · have hlt:=(List.getElem?_eq_some_iff.1 hj).1
        simp at hlt
        obtain rfl : j = l.length:=by omega
        rw [List.getElem?_append_right (Nat.le_refl _)] at hj
        simp at hj
        subst hj
        rw [List.append_assoc,List.getElem?_append_right (by rw [hol]; omega),hol,hlen]
        simp

end

section

variable {P : Program} {L : List (Nat × Value)} {m : Mem} {O : List Piece} {a : Act} {n : Nat} {X : List Nat} {w0 w : World} {Q : Exit→Act→World→Prop} {K : Act→World→Prop}

variable {d : Option Tmp} {ty : TypeId} {p : String} {af : Array Edge} {g : Option (Nat × Bool)} {x y : Operand}

end

def splitBN (c : UInt8) : Nat→List UInt8→List (List UInt8)
  | 0,s=>[s]
  | k + 1,s=>if idxB c s < 0 then [s] else s.take (idxB c s).toNat :: splitBN c k (s.drop ((idxB c s).toNat + 1))

section

variable {P : Program} {L : List (Nat × Value)} {m : Mem} {O : List Piece} {a : Act} {n : Nat} {X : List Nat} {w0 w : World} {Q : Exit→Act→World→Prop} {K : Act→World→Prop}

variable {d : Option Tmp} {ty : TypeId} {p : String} {af : Array Edge} {g : Option (Nat × Bool)} {x y : Operand}

end

section

variable {P : Program} {L : List (Nat × Value)} {m : Mem} {O : List Piece} {d : Option Tmp} {ty : TypeId} {p : String} {af : Array Edge} {g : Option (Nat × Bool)} {x : Operand}

end

theorem NF.set {α : Type} {s : Sl} {l : List α} {i : Int} {x : α} (h : NF s l) : NF s (goSet l i x):=fun hl=>h (by
  unfold goSet at hl
  cases l with
  | nil=>rfl
  | cons a l=>cases hi : i.toNat <;> rw [hi] at hl <;> simp at hl)

def goCopy (l r : List Int) : Option (List Int):=cond (decide (0 < l.length∧0 < r.length)) (some (r.take l.length ++ l.drop r.length)) none

section

variable {P : Program} {L : List (Nat × Value)} {m : Mem} {O : List Piece} {a : Act} {n : Nat} {X : List Nat} {w0 w : World} {Q : Exit→Act→World→Prop} {K : Act→World→Prop}

variable {d : Option Tmp} {ty : TypeId} {p : String} {af : Array Edge} {g : Option (Nat × Bool)} {x y : Operand}

end

theorem OwnD.nilE {m : Mem} {E Ei : TypeId} {q : Piece} {s : Sl} {β : Type} [Rep β] {l : List (List β)} (h : OwnD m E Ei q s l) (hc : s.p.isNone = true) : l = []:=by
  obtain ⟨q0,hs,qs,h⟩:=h
  have h1:=h.own.nilE hc
  have h2:=h.l1
  rw [h1] at h2
  exact List.eq_nil_of_length_eq_zero h2.symm

theorem Sl.v_inj {s s' : Sl} (h : s.v = s'.v) : s = s':=by
  cases s; cases s'
  simp [Sl.v] at h
  simp [h]

section

variable {m : Mem} {E Ei : TypeId} {q : Piece} {s s' : Sl} {β : Type} [Rep β] {l : List (List β)} {i : Int}

theorem ViewD.hdrs {q0 : Piece} {hs : List Sl} {qs : List Piece} (hv : ViewD m E Ei q s l i s') (h : DD m E Ei q s l q0 hs qs) : hs[i.toNat]? = some s':=by
  obtain ⟨q0',hs',qs',h',hh⟩:=hv
  have hlt:=(List.getElem?_eq_some_iff.1 hh).1
  have g1:=h'.own.len; have g2:=h'.own.cap
  rcases h'.own.blk with ⟨_,_,hc⟩ | ⟨b',cs',hq',hp',hc',hall'⟩
  · omega
  rcases h.own.blk with ⟨_,hp,_⟩ | ⟨b,cs,hq,hp,hc,hall⟩
  · rw [hp'] at hp; cases hp
  · rw [hp'] at hp
    simp only [Option.some.injEq,Addr.mk.injEq,and_true] at hp
    subst hp
    have e:=h.eq.symm.trans h'.eq
    rw [hq,hq'] at e
    simp only [List.cons_append,List.nil_append,List.cons.injEq,OBlk.mk.injEq,true_and,and_true] at e
    obtain ⟨rfl,_⟩:=e
    have hl : hs.length = hs'.length:=by rw [h.l1,h'.l1]
    have hk : i.toNat < hs.length:=by omega
    have r1 : slab cs (i.toNat * Rep.wd Sl) (Rep.wd Sl) = [hs[i.toNat].v]:=hall i.toNat hk
    have r2 : slab cs (i.toNat * Rep.wd Sl) (Rep.wd Sl) = [hs'[i.toNat].v]:=hall' i.toNat hlt
    rw [r1] at r2
    have e3:=Sl.v_inj (List.cons.inj r2).1
    have e4 : hs'[i.toNat] = s':=(List.getElem?_eq_some_iff.1 hh).2
    rw [← e4,← e3]
    exact List.getElem?_eq_getElem hk

end

section

variable {P : Program} {L : List (Nat × Value)} {m : Mem} {O : List Piece} {d : Option Tmp} {ty : TypeId} {p : String} {af : Array Edge} {g : Option (Nat × Bool)} {x y : Operand}

variable {a : Act} {n : Nat} {X : List Nat} {w0 w : World} {K : Act→World→Prop} {Q : Exit→Act→World→Prop} {β : Type} [Rep β] {l r l1 l2 : List (List β)}

theorem wp_storeVk {t E Ei : TypeId} {q : Piece} {s s' : Sl} {sz nz k' : Nat} {i j : Int} {xl : List β} {e e' : β} {v : Value} {us vs : List Value} (o : Nat) (hF : FrD DS a n L) (hS : St X w0 w m (q :: O)) (hq : ViewD m E Ei q s l i s') {i2 : Int} {s2' : Sl} (hq2 : ViewD m E Ei q s l i2 s2') (hi : goAt l i = some xl) (hz : szOf P t = some nz)
    (hx : evo L x = some (elP s' k')) (hy : evo L y = some v) (hv : v.cells = us.toArray) (hn : us.length = nz) (h1 : us.all (·.oneCell') = true) (hwd : Rep.wd β = sz) (hle : Nat.ble (o + us.length) sz = true) (hj : goAt xl j = some e)
    (hat : AtV q s' (j.toNat * sz) vs) (hvl : vs.length = sz) (hk : k' = j.toNat * sz + o) (hrd : Rep.rd m (setCs vs o us) e')
    (kk : ∀ w' q',St X w0 w' m (q' :: O)→ViewD m E Ei q' s (goSet l i (goSet xl j e')) i s'→ViewD m E Ei q' s (goSet l i (goSet xl j e')) i2 s2'→K a w') :
    (⟨none,.store t x y,ty,p,af,g⟩ : Oper).wp P a w K Q:=by
  obtain ⟨q0,hs,qs,h,hh⟩:=hq
  have hh2 : hs[i2.toNat]? = some s2':=hq2.hdrs h
  obtain ⟨h0,p0,e1,e2,e3,e4⟩:=h.hdr hi
  rw [hh] at e1
  obtain rfl:=Option.some.inj e1
  obtain ⟨hi0,hi1⟩:=goAt_some hi
  have hS1 : St X w0 w m (p0 :: q0 :: ((qs.set i.toNat []).flatten) :: O):=hS.permF (R:=[]) (by
    simp only [List.flatten_cons,List.append_nil,h.eq,← List.append_assoc]
    refine List.Perm.append_right _ ?_
    have hp:=flatten_set_perm (p':=[]) e2
    refine List.Perm.trans (l₂:=q0 ++ p0 ++ (qs.set i.toNat []).flatten) (List.Perm.append_right _ List.perm_append_comm) ?_
    rw [List.append_assoc]
    exact List.Perm.append_left _ (List.perm_append_comm.trans hp))
  have hat' : AtO p0 Ei s' (j.toNat * sz) vs:=by
    obtain ⟨vs',g1,g2⟩:=e3.at hj sz hwd
    have g3:=Rep.len g2
    obtain ⟨b1,o1,c1,T1,z1,k1,k2,k3,k4⟩:=hat.at (m:=m) (O:=q :: O) 0 rfl X w0 w hS
    obtain ⟨b2,o2,c2,T2,z2,k5,k6,k7,k8⟩:=g1.at (m:=m) (O:=p0 :: q0 :: ((qs.set i.toNat []).flatten) :: O) 0 rfl X w0 w hS1
    rw [k1] at k5
    simp only [Option.some.injEq,Addr.mk.injEq,and_true] at k5
    obtain ⟨rfl,rfl⟩:=k5
    rw [k2] at k6
    simp only [Option.some.injEq,Obj.cells.injEq] at k6
    obtain ⟨rfl,_,_⟩:=k6
    rw [g3,hwd] at k8
    rw [hvl] at k4
    rw [← k4,k8]
    exact g1
  refine wp_storeE (e':=e') o hF hS1 e3 hz hx hy hv hn h1 hwd hle hj hat' hvl hk hrd fun w' p' hS' hp'=>?_
  have D : DD m E Ei (q0 ++ (qs.set i.toNat p').flatten) s (goSet l i (goSet xl j e')) q0 hs (qs.set i.toNat p'):=by
    refine ⟨rfl,h.own,by simp [goSet,h.l1],by simp [goSet,h.l2],fun k h1 p1 x1 f1 f2 f3=>?_⟩
    by_cases hki : k = i.toNat
    · subst hki
      have l2:=(List.getElem?_eq_some_iff.1 e2).1
      have l3:=(List.getElem?_eq_some_iff.1 hi1).1
      rw [hh] at f1
      simp [goSet,l2,l3] at f2 f3
      obtain rfl:=Option.some.inj f1
      subst f2 f3
      exact hp'
    · rw [goSet,List.getElem?_set_ne (Ne.symm hki)] at f3
      rw [List.getElem?_set_ne (Ne.symm hki)] at f2
      exact h.el k h1 p1 x1 f1 f2 f3
  refine kk w' (q0 ++ (qs.set i.toNat p').flatten) ?_ ⟨q0,hs,qs.set i.toNat p',D,hh⟩ ⟨q0,hs,qs.set i.toNat p',D,hh2⟩
  · refine hS'.permF (R:=[]) ?_
    simp only [List.flatten_cons,List.append_nil,← List.append_assoc]
    refine List.Perm.append_right _ ?_
    have l2:=(List.getElem?_eq_some_iff.1 e2).1
    have hp:=flatten_set_perm (qs:=qs.set i.toNat []) (k:=i.toNat) (p:=[]) (p':=p') (by simp [l2])
    rw [List.set_set,List.append_nil] at hp
    refine List.Perm.trans (List.Perm.append_left q0 hp) ?_
    rw [← List.append_assoc]
    exact List.Perm.append_right _ List.perm_append_comm

end

section

variable {P : Program} {ops : Array Oper} {n : Nat} {X : List Nat} {w0 : World} {m : Mem} {Ld : LdB} {K : Act→World→Prop}

def BtOkA (P : Program) (ops : Array Oper) (n : Nat) (X : List Nat) (w0 : World) (m : Mem) (ds : List Nat) (L : List (Nat × Value)) (b : Bt) : Prop :=
  ∃ o,ops[b.i]? = some o∧o.guard = none∧∀ {DS : List Deferred} (a : Act) (w : World) (A : List (Nat × Value)) (O : List Piece),FrD DS a n (A ++ L)→(∀ i ∈ A.map (·.1),ds.contains i = true)→St X w0 w m O →
    ∀ K' : Act→World→Prop,(∀ a' w' v q,FrD DS a' n ((b.dst,v) :: (A ++ L))→b.B v q→St X w0 w' m (q :: O)→Below w.heap.size w w'→K' a' w')→o.wp P a w K' NP

theorem BtOkA.mk {ds : List Nat} {L : List (Nat × Value)} {i dst : Nat} {B : Value→Piece→Prop} {o : Oper} (ho : ops[i]? = some o) (hg : o.guard = none)
    (h : ∀ {DS : List Deferred} (a : Act) (w : World) (A : List (Nat × Value)) (O : List Piece),FrD DS a n (A ++ L)→(∀ i ∈ A.map (·.1),ds.contains i = true)→St X w0 w m O→∀ K' : Act→World→Prop,(∀ a' w' v q,FrD DS a' n ((dst,v) :: (A ++ L))→B v q→St X w0 w' m (q :: O)→Below w.heap.size w w'→K' a' w')→o.wp P a w K' NP) :
    BtOkA P ops n X w0 m ds L ⟨i,dst,B⟩:=⟨o,ho,hg,h⟩

theorem BtOkA.more {ds : List Nat} {L : List (Nat × Value)} {b : Bt} (h : BtOkA P ops n X w0 m ds L b) {z : Nat} {v : Value} (hz : ds.contains z = true) : BtOkA P ops n X w0 m ds ((z,v) :: L) b:=by
  obtain ⟨o,h1,h2,h3⟩:=h
  refine ⟨o,h1,h2,fun a w A O hF hA hS K' hK=>h3 a w (A ++ [(z,v)]) O (by rw [List.append_assoc]; exact hF) (fun i hi=>?_) hS K' fun a' w' v' q hF'=>hK a' w' v' q (by rw [List.append_assoc] at hF'; exact hF')⟩
  simp only [List.map_append,List.mem_append,List.map_cons,List.map_nil,List.mem_singleton] at hi
  rcases hi with hi | rfl
  · exact hA i hi
  · exact hz

def rdyG (ops : Array Oper) (l : Array Bool) (is zs : List Nat) : Bool :=
  (is.all fun i=>(Region.ready .any ops l).contains i) &&
  ((List.range ops.size).all fun j=>l.getD j true || is.contains j || zs.contains j || match ops[j]? with
    | none=>true
    | some o=>(o.after.any fun e=>Region.binds .any e && !is.contains e.on && !zs.contains e.on && !l.getD e.on true) || (is.all fun i=>o.after.any fun e=>Region.binds .any e && e.on == i))

theorem rdyG.cases {l : Array Bool} {is zs : List Nat} {bs R : List Bt} {D : List (Bt × Value × Piece)} (hr : rdyG ops l is zs = true) (his : bs.map (·.i) = is) (hi : is.Nodup) (hp : (D.map (·.1) ++ R).Perm bs) (hR : R ≠ []) :
    ∀ j ∈ Region.ready .any ops (setAll l (D.map (·.1.i))),zs.contains j = true ∨ ∃ b ∈ R,b.i = j:=by
  unfold rdyG at hr
  simp only [Bool.and_eq_true,List.all_eq_true] at hr
  obtain ⟨hr1,hr2⟩:=hr
  intro j hj
  obtain ⟨hjun,oj,hoj,hallj⟩:=mem_ready.1 hj
  have hjlt : j < ops.size:=(Array.getElem?_eq_some_iff.1 hoj).1
  cases hcz : zs.contains j with
  | true=>exact .inl rfl
  | false =>
    refine .inr ?_
    have key : is.contains j = true:=by
      cases hc : is.contains j with
      | true=>rfl
      | false =>
        exfalso
        have hjD : j ∉ D.map (·.1.i):=fun hm=>by
          obtain ⟨d,hdm,rfl⟩:=List.mem_map.1 hm
          have : d.1.i ∈ is:=by rw [← his]; exact List.mem_map.2 ⟨d.1,hp.mem_iff.1 (by simp only [List.mem_append,List.mem_map]; exact .inl ⟨d,hdm,rfl⟩),rfl⟩
          simp [this] at hc
        rw [setAll_getD _ _ _ hjD] at hjun
        have h2:=hr2 j (by simpa using hjlt)
        simp only [hjun,hc,hcz,Bool.false_or,hoj,Bool.or_eq_true] at h2
        rcases h2 with h2 | h2
        · obtain ⟨e,he,hb⟩:=Array.any_eq_true'.1 h2
          simp only [Bool.and_eq_true,Bool.not_eq_true'] at hb
          obtain ⟨⟨⟨hb1,hb2⟩,_⟩,hb3⟩:=hb
          have h3:=hallj e he hb1
          have heD : e.on ∉ D.map (·.1.i):=fun hm=>by
            obtain ⟨d,hdm,hde⟩:=List.mem_map.1 hm
            have : e.on ∈ is:=by rw [← his,← hde]; exact List.mem_map.2 ⟨d.1,hp.mem_iff.1 (by simp only [List.mem_append,List.mem_map]; exact .inl ⟨d,hdm,rfl⟩),rfl⟩
            simp [this] at hb2
          rw [setAll_getD _ _ _ heD] at h3
          rcases Nat.lt_or_ge e.on l.size with h' | h'
          · simp [h'] at h3 hb3; rw [hb3] at h3; cases h3
          · simp [Array.getElem?_eq_none h'] at h3
        · cases hRc : R with
          | nil=>exact hR hRc
          | cons b R' =>
            have hbR : b ∈ R:=by rw [hRc]; simp
            have hbi : b.i ∈ is:=by rw [← his]; exact List.mem_map.2 ⟨b,hp.mem_iff.1 (by simp [hbR]),rfl⟩
            have h3:=List.all_eq_true.1 h2 b.i hbi
            obtain ⟨e,he,hb⟩:=Array.any_eq_true'.1 h3
            simp only [Bool.and_eq_true,beq_iff_eq] at hb
            have h4:=hallj e he hb.1
            rw [hb.2] at h4
            have hbD : b.i ∉ D.map (·.1.i):=batch_apart his hi hp hbR
            rw [setAll_getD _ _ _ hbD] at h4
            have h5:=(mem_ready.1 (by simpa using hr1 b.i hbi)).1
            rcases Nat.lt_or_ge b.i l.size with h' | h'
            · simp [h'] at h4 h5; rw [h5] at h4; cases h4
            · simp [Array.getElem?_eq_none h'] at h4
    have hjis : j ∈ is:=by simpa using key
    rw [← his] at hjis
    obtain ⟨b,hb,rfl⟩:=List.mem_map.1 hjis
    have:=hp.mem_iff.2 hb
    simp only [List.mem_append,List.mem_map] at this
    rcases this with ⟨d,hdm,rfl⟩ | hbR
    · exfalso
      have hlt : d.1.i < l.size:=by
        have h5:=(mem_ready.1 (by simpa using hr1 d.1.i (by rw [← his]; exact List.mem_map.2 ⟨d.1,hb,rfl⟩))).1
        rcases Nat.lt_or_ge d.1.i l.size with h' | h'
        · exact h'
        · simp [Array.getElem?_eq_none h'] at h5
      have : ∀ (r : List Nat) (l : Array Bool),d.1.i ∈ r→d.1.i < l.size→(setAll l r).getD d.1.i true = true:=by
        intro r
        induction r with
        | nil=>intro l h; cases h
        | cons x r ih2 =>
          intro l h hlt
          simp only [setAll]
          by_cases hm : d.1.i ∈ r
          · exact ih2 _ hm (by simpa using hlt)
          · have : d.1.i = x:=by simpa [hm] using h
            subst this
            rw [setAll_getD _ _ _ hm]
            simp [hlt]
      rw [this _ _ (List.mem_map.2 ⟨d,hdm,rfl⟩) hlt] at hjun
      cases hjun
    · exact ⟨b,hbR,rfl⟩

theorem rdyG.rdy {l : Array Bool} {is zs : List Nat} (hr : rdyG ops l is zs = true) {i : Nat} (hi : i ∈ is) : i ∈ Region.ready .any ops l:=by
  unfold rdyG at hr
  simp only [Bool.and_eq_true,List.all_eq_true] at hr
  simpa using hr.1 i hi

theorem rdyG.set {l : Array Bool} {is : List Nat} {z : Nat} (hr : rdyG ops l is [z] = true) (hz : z ∉ is) (hzr : z ∈ Region.ready .any ops l) : rdyG ops (l.setIfInBounds z true) is [] = true:=by
  have h0:=hr
  unfold rdyG at hr ⊢
  simp only [Bool.and_eq_true,List.all_eq_true] at hr ⊢
  obtain ⟨hr1,hr2⟩:=hr
  refine ⟨fun i hi=>by
    have h9 : i ∈ Region.ready .any ops (l.setIfInBounds z true):=ready_mono (rdyG.rdy h0 hi) (fun e=>hz (by rw [← e]; exact hi))
    simpa using h9,fun j hj=>?_⟩
  have h2:=hr2 j hj
  by_cases hjz : j = z
  · subst hjz
    have h5:=(mem_ready.1 hzr).1
    have hlt : j < l.size:=by
      rcases Nat.lt_or_ge j l.size with h' | h'
      · exact h'
      · simp [Array.getElem?_eq_none h'] at h5
    simp [hlt]
  · rw [getD_set_ne true (fun e=>hjz e.symm)]
    simp only [Bool.or_eq_true] at h2 ⊢
    rcases h2 with ((h2 | h2) | h2) | h2
    · exact .inl (.inl (.inl h2))
    · exact .inl (.inl (.inr h2))
    · simp at h2; exact absurd h2 hjz
    · refine .inr ?_
      cases ho : ops[j]? with
      | none=>rfl
      | some o =>
        simp only [ho,Bool.or_eq_true] at h2 ⊢
        rcases h2 with h2 | h2
        · refine .inl ?_
          obtain ⟨e,he,hb⟩:=Array.any_eq_true'.1 h2
          simp only [Bool.and_eq_true,Bool.not_eq_true'] at hb
          obtain ⟨⟨⟨hb1,hb2⟩,hbz⟩,hb3⟩:=hb
          have hez : ¬ z = e.on:=fun h=>by simp [h] at hbz
          refine Array.any_eq_true'.2 ⟨e,he,?_⟩
          rw [getD_set_ne true hez]
          simp only [Bool.and_eq_true,Bool.not_eq_true']
          exact ⟨⟨⟨hb1,hb2⟩,by simp⟩,hb3⟩
        · exact .inr h2

end

def BtsOkA (P : Program) (ops : Array Oper) (n : Nat) (X : List Nat) (w0 : World) (m : Mem) (ds : List Nat) (L : List (Nat × Value)) : List Bt→Prop
  | []=>True
  | b :: r=>BtOkA P ops n X w0 m ds L b∧BtsOkA P ops n X w0 m ds L r

theorem BtsOkA.all {P : Program} {ops : Array Oper} {n : Nat} {X : List Nat} {w0 : World} {m : Mem} {ds : List Nat} {L : List (Nat × Value)} : ∀ {bs : List Bt},BtsOkA P ops n X w0 m ds L bs→∀ b ∈ bs,BtOkA P ops n X w0 m ds L b
  | [],_,b,hb=>by cases hb
  | c :: r,h,b,hb=>by
    rcases List.mem_cons.1 hb with e | hb
    · rw [e]; exact h.1
    · exact BtsOkA.all h.2 b hb

end Go.Gx

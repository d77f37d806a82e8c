import Derived.OrdersIn
import Derived.RangeFuncLeaves
import Derived.RangeFuncRecord
import Derived.Orders
import Derived.OrdersHeld
import Derived.Tactics
import Derived.Below
import Derived.WalkKit
import Derived.KernelRfl
import Derived.ProofKit
import Derived.DataReads
import Derived.Laws.OwnMore
import Derived.Great.BuildSlice
import Derived.JoinedOf
import Derived.Laws.StructEq
import Derived.ArgAppend
import Derived.Lib.AppendZeros

namespace Go.Gx

set_option linter.all false

open Go.RowKit

def lk : List (Nat × Value)→Nat→Option Value
  | [],_=>none
  | p :: L,i=>match Nat.beq p.1 i with
    | true=>some p.2
    | false=>lk L i

def evo (L : List (Nat × Value)) : Operand→Option Value
  | .tmp t=>lk L t
  | .const v=>some v
  | .global g=>some (.pointer (some ⟨g,0,none⟩))
  | .func f=>some (.func (.func f) #[] #[])

structure FrD (DS : List Deferred) (a : Act) (n : Nat) (L : List (Nat × Value)) : Prop where
  size : a.tmps.size = n
  defers : a.defers = DS
  has : ∀ i v,lk L i = some v→a.tmps[i]? = some v

abbrev Fr:=FrD []

variable {DS : List Deferred}

def Sub (L : List (Nat × Value)) : List (Nat × Value)→Prop
  | []=>True
  | p :: L'=>lk L p.1 = some p.2∧Sub L L'

theorem Sub.spec {L : List (Nat × Value)} : ∀ {L'},Sub L L'→∀ i v,lk L' i = some v→lk L i = some v
  | [],_,i,v,h=>by simp [lk] at h
  | p :: L',hs,i,v,h=>by
    obtain ⟨h1,h2⟩:=hs
    simp only [lk] at h
    split at h
    · rename_i hb
      have : p.1 = i:=Nat.eq_of_beq_eq_true hb
      subst this; rw [h1,h]
    · exact Sub.spec h2 i v h

theorem FrD.sub {a : Act} {n : Nat} {L L' : List (Nat × Value)} (h : FrD DS a n L) (hs : Sub L L') : FrD DS a n L' :=
  ⟨h.size,h.defers,fun i v hl=>h.has i v (hs.spec i v hl)⟩

theorem FrD.eval {a : Act} {n : Nat} {L : List (Nat × Value)} (h : FrD DS a n L) {x : Operand} {v : Value} (hx : evo L x = some v) : a.eval x = v:=by
  cases x with
  | tmp t=>have:=h.has t v hx; simp [Act.eval,this]
  | const u=>simpa [evo,Act.eval] using hx
  | global g=>simpa [evo,Act.eval] using hx
  | func f=>simpa [evo,Act.eval] using hx

def putL : Option Tmp→Value→List (Nat × Value)→List (Nat × Value)
  | some d,v,L=>(d,v) :: L
  | none,_,L=>L

def dok : Option Tmp→Nat→Bool
  | some d,n=>Nat.blt d n
  | none,_=>true

theorem FrD.put {a : Act} {n : Nat} {L : List (Nat × Value)} (h : FrD DS a n L) {d : Option Tmp} (v : Value) (hd : dok d n = true) : FrD DS (a.put d v) n (putL d v L):=by
  cases d with
  | none=>exact h
  | some d =>
    have hlt : d < n:=by simpa [dok,Nat.blt_eq] using hd
    refine ⟨by simp [Act.put,h.size],h.defers,fun i u hl=>?_⟩
    simp only [putL,lk] at hl
    have hs:=h.size
    split at hl
    · rename_i hb
      have : d = i:=Nat.eq_of_beq_eq_true hb
      subst this
      simp only [Option.some.injEq] at hl
      subst hl
      simp [Act.put,hs,hlt]
    · rename_i hb
      have : d ≠ i:=fun e=>by subst e; simp at hb
      have:=h.has i u hl
      simp [Act.put,Array.getElem?_setIfInBounds_ne ‹d ≠ i›,this]

def argL : Nat→List Value→List (Nat × Value)
  | _,[]=>[]
  | i,v :: vs=>(i,v) :: argL (i + 1) vs

theorem argL_has : ∀ (vs pre : List Value) (i : Nat) (v : Value),lk (argL pre.length vs) i = some v→(pre ++ vs)[i]? = some v
  | [],_,_,_,h=>by simp [argL,lk] at h
  | u :: vs,pre,i,v,h=>by
    simp only [argL,lk] at h
    split at h
    · rename_i hb
      have : pre.length = i:=Nat.eq_of_beq_eq_true hb
      subst this
      simpa using h
    · have:=argL_has vs (pre ++ [u]) i v (by simpa using h)
      simpa using this

theorem Fr.start (args : List Value) (n : Nat) (h : args.length ≤ n) : Fr { tmps:=args.toArray ++ Array.replicate (n - args.toArray.size) undef,defers:=[] } n (argL 0 args):=by
  refine ⟨by simp; omega,rfl,fun i v hl=>?_⟩
  have h1:=argL_has args [] i v hl
  simp only [List.nil_append] at h1
  have hi : i < args.length:=by
    rw [List.getElem?_eq_some_iff] at h1
    exact h1.1
  simp only [List.getElem?_eq_some_iff] at h1
  simp [Array.getElem?_append,hi,h1.2]

abbrev Mem:=Nat→Option (List Value)

def Mem.le (m m' : Mem) : Prop:=∀ b cs,m b = some cs→m' b = some cs

theorem Mem.le.refl (m : Mem) : Mem.le m m:=fun _ _ h=>h

theorem Mem.le.trans {m1 m2 m3 : Mem} (h : Mem.le m1 m2) (k : Mem.le m2 m3) : Mem.le m1 m3:=fun b cs hh=>k b cs (h b cs hh)

def Vis (m : Mem) (w : World) : Prop:=∀ b cs,m b = some cs→∃ T fz,w.heap[b]? = some (.cells cs.toArray T fz)

structure OBlk where
  b : Nat
  cs : List Value
  T : TypeId

abbrev Piece:=List OBlk

structure Kept (X : List Nat) (w w' : World) : Prop where
  os : w'.os = w.os
  tape : w'.tape = w.tape
  output : w'.output = w.output
  size : w.heap.size ≤ w'.heap.size
  block : ∀ k,k < w.heap.size→k ∉ X→w'.heap[k]? = w.heap[k]?

theorem Kept.refl (X : List Nat) (w : World) : Kept X w w:=⟨rfl,rfl,rfl,Nat.le_refl _,fun _ _ _=>rfl⟩

theorem Kept.trans {X : List Nat} {a b c : World} (h : Kept X a b) (k : Kept X b c) : Kept X a c :=
  ⟨k.os.trans h.os,k.tape.trans h.tape,k.output.trans h.output,Nat.le_trans h.size k.size,
   fun i hi hx=>(k.block i (Nat.lt_of_lt_of_le hi h.size) hx).trans (h.block i hi hx)⟩

theorem Kept.below {X : List Nat} {a b c : World} (h : Kept X a b) (k : Below b.heap.size b c) : Kept X a c :=
  ⟨k.os.trans h.os,k.tape.trans h.tape,k.output.trans h.output,Nat.le_trans h.size k.size,
   fun i hi hx=>(k.block i (Nat.lt_of_lt_of_le hi h.size)).trans (h.block i hi hx)⟩

theorem Kept.toBelow {a b : World} (h : Kept [] a b) : Below a.heap.size a b :=
  ⟨h.os,h.tape,h.output,h.size,fun k hk=>h.block k hk (by simp)⟩

structure St (X : List Nat) (w0 w : World) (m : Mem) (O : List Piece) : Prop where
  kept : Kept X w0 w
  vis : Vis m w
  own : ∀ o ∈ O.flatten,w.heap[o.b]? = some (.cells o.cs.toArray o.T (0,0))
  free : ∀ o ∈ O.flatten,m o.b = none∧(w0.heap.size ≤ o.b ∨ o.b ∈ X)
  nodup : (O.flatten.map (·.b)).Nodup

theorem lt_of_heap {w : World} {b : Nat} {o : Obj} (h : w.heap[b]? = some o) : b < w.heap.size:=by
  rw [Array.getElem?_eq_some_iff] at h
  exact h.1

theorem Vis.below {m : Mem} {w w' : World} (h : Vis m w) (k : Below w.heap.size w w') : Vis m w':=fun b cs hb=>by
  obtain ⟨T,fz,hh⟩:=h b cs hb
  exact ⟨T,fz,by rw [k.block b (lt_of_heap hh)]; exact hh⟩

theorem St.below {X : List Nat} {w0 w w' : World} {m : Mem} {O : List Piece} (h : St X w0 w m O) (k : Below w.heap.size w w') : St X w0 w' m O :=
  ⟨h.kept.below k,h.vis.below k,fun o ho=>by rw [k.block o.b (lt_of_heap (h.own o ho))]; exact h.own o ho,h.free,h.nodup⟩

theorem St.start (w : World) (m : Mem) (hv : Vis m w) : St [] w w m [] :=
  ⟨Kept.refl _ _,hv,by simp,by simp,by simp⟩

theorem St.alloc {X : List Nat} {w0 w : World} {m : Mem} {O : List Piece} (h : St X w0 w m O) (cs : List Value) (T : TypeId) :
    St X w0 (w.alloc (.cells cs.toArray T)) m ([⟨w.heap.size,cs,T⟩] :: O):=by
  have hb : Below w.heap.size w (w.alloc (.cells cs.toArray T)):=(Below.refl _ _).alloc (Nat.le_refl _) _
  have h':=h.below hb
  refine ⟨h'.kept,h'.vis,fun o ho=>?_,fun o ho=>?_,?_⟩
  · simp only [List.flatten_cons,List.singleton_append,List.mem_cons] at ho
    rcases ho with rfl | ho
    · show (w.heap.push _)[w.heap.size]? = _
      simp
    · exact h'.own o ho
  · simp only [List.flatten_cons,List.singleton_append,List.mem_cons] at ho
    rcases ho with rfl | ho
    · refine ⟨?_,.inl h.kept.size⟩
      cases hm : m w.heap.size with
      | none=>rfl
      | some c =>
        obtain ⟨T',fz,hh⟩:=h.vis _ _ hm
        have:=lt_of_heap hh
        omega
    · exact h.free o ho
  · simp only [List.flatten_cons,List.singleton_append,List.map_cons,List.nodup_cons]
    refine ⟨fun hc=>?_,h.nodup⟩
    rw [List.mem_map] at hc
    obtain ⟨o,ho,hob⟩:=hc
    have:=lt_of_heap (h.own o ho)
    omega

theorem addr_add (b off n : Nat) : (⟨b,off,none⟩ : Addr).add n = ⟨b,off + n,none⟩:=by
  unfold Addr.add; split <;> simp_all

section

variable {P : Program}

def Ex (P : Program) (o : Oper) (L : List (Nat × Value)) (m : Mem) (O : List Piece) (v : Value) : Prop :=
  ∀ (DS : List Deferred) (a : Act) (n : Nat) (X : List Nat) (w0 w : World),FrD DS a n L→St X w0 w m O→(execOp a.eval o).run P w = .ok (.value v) w

variable {L : List (Nat × Value)} {m : Mem} {O : List Piece} {d : Option Tmp} {ty : TypeId} {p : String} {af : Array Edge} {g : Option (Nat × Bool)}

variable {x y : Operand}

theorem ex_move {v : Value} (hx : evo L x = some v) : Ex P ⟨d,.move x,ty,p,af,g⟩ L m O v :=
  fun _ a n X w0 w hF _=>by simp [execOp,hF.eval hx]

theorem ex_assign {v : Value} (hx : evo L x = some v) : Ex P ⟨d,.assign x,ty,p,af,g⟩ L m O v :=
  fun _ a n X w0 w hF _=>by simp [execOp,hF.eval hx]

theorem ex_pick_t {c : Operand} {b : Bool} {v : Value} (hc : evo L c = some (.bool b)) (hx : evo L x = some v) (hb : b = true) : Ex P ⟨d,.pick c x y,ty,p,af,g⟩ L m O v :=
  fun _ a n X w0 w hF _=>by subst hb; simp [execOp,hF.eval hc,hF.eval hx,asBool]

theorem ex_pick_f {c : Operand} {b : Bool} {v : Value} (hc : evo L c = some (.bool b)) (hy : evo L y = some v) (hb : b = false) : Ex P ⟨d,.pick c x y,ty,p,af,g⟩ L m O v :=
  fun _ a n X w0 w hF _=>by subst hb; simp [execOp,hF.eval hc,hF.eval hy,asBool]

def ibin : BinOp→IntKind→Int→Int→Option Value
  | .add,k,a,b=>some (.int k (k.wrap (a + b)))
  | .sub,k,a,b=>some (.int k (k.wrap (a - b)))
  | .mul,k,a,b=>some (.int k (k.wrap (a * b)))
  | .eql,_,a,b=>some (.bool (a == b))
  | .neq,_,a,b=>some (.bool (a != b))
  | .lss,_,a,b=>some (.bool (decide (a < b)))
  | .leq,_,a,b=>some (.bool (decide (a ≤ b)))
  | .gtr,_,a,b=>some (.bool (decide (b < a)))
  | .geq,_,a,b=>some (.bool (decide (b ≤ a)))
  | _,_,_,_=>none

theorem ex_ibin {op : BinOp} {xt yt : TypeId} {k : IntKind} {i j : Int} {v : Value} (hx : evo L x = some (.int k i)) (hy : evo L y = some (.int k j)) (hv : ibin op k i j = some v) :
    Ex P ⟨d,.binOp op xt x y yt,ty,p,af,g⟩ L m O v :=
  fun _ a n X w0 w hF _=>by
    have e1:=hF.eval hx
    have e2:=hF.eval hy
    cases op <;> simp [ibin] at hv <;> subst hv <;> simp [execOp,e1,e2,eqGuard,binOp,Op.intArith,Op.intCmp]

theorem ex_idiv {xt yt : TypeId} {k : IntKind} {i j : Int} (hx : evo L x = some (.int k i)) (hy : evo L y = some (.int k j)) (hj : j ≠ 0) :
    Ex P ⟨d,.binOp .quo xt x y yt,ty,p,af,g⟩ L m O (.int k (k.wrap (i.tdiv j))) :=
  fun _ a n X w0 w hF _=>by
    simp [execOp,hF.eval hx,hF.eval hy,eqGuard,binOp,Op.intDiv,hj]

theorem ex_irem {xt yt : TypeId} {k : IntKind} {i j : Int} (hx : evo L x = some (.int k i)) (hy : evo L y = some (.int k j)) (hj : j ≠ 0) :
    Ex P ⟨d,.binOp .rem xt x y yt,ty,p,af,g⟩ L m O (.int k (i.tmod j)) :=
  fun _ a n X w0 w hF _=>by
    simp [execOp,hF.eval hx,hF.eval hy,eqGuard,binOp,Op.intDiv,hj]

theorem run_equal_bool {t : TypeId} (hu : P.underlying t = some .bool) (i j : Bool) (w : World) : (Op.equal t (.bool i) (.bool j)).run P w = .ok (i == j) w :=
  run_equalIn_bool' w 9999 t i j hu

theorem ex_bne {xt yt : TypeId} {i j : Bool} (hu : P.underlying xt = some .bool) (hx : evo L x = some (.bool i)) (hy : evo L y = some (.bool j)) :
    Ex P ⟨d,.binOp .neq xt x y yt,ty,p,af,g⟩ L m O (.bool (i != j)) :=
  fun _ a n X w0 w hF _=>by
    simp only [execOp,hF.eval hx,hF.eval hy,eqGuard]
    simp [binOp,run_equal_bool hu]
    cases i <;> cases j <;> rfl

theorem ex_not {xt : TypeId} {i : Bool} (hx : evo L x = some (.bool i)) : Ex P ⟨d,.unOp .not xt x,ty,p,af,g⟩ L m O (.bool (!i)) :=
  fun _ a n X w0 w hF _=>by simp [execOp,hF.eval hx,Op.unary]

theorem ex_conv {s t : TypeId} {k k' : IntKind} {i : Int} {sd : TypeDesc} (hs : P.underlying s = some sd) (ht : P.underlying t = some (.int k)) (hx : evo L x = some (.int k' i)) :
    Ex P ⟨d,.convert s t x,ty,p,af,g⟩ L m O (.int k (k.wrap i)) :=
  fun _ a n X w0 w hF _=>by
    simp only [execOp,hF.eval hx]
    cases sd <;> simp [convert,run_underlying hs,run_underlying ht,Conv.intToInt]

theorem ex_extract {vs : Array Value} {i : Nat} {v : Value} (hx : evo L x = some (.tuple vs)) (hv : vs[i]? = some v) : Ex P ⟨d,.extract x i,ty,p,af,g⟩ L m O v :=
  fun _ a n X w0 w hF _=>by simp [execOp,hF.eval hx,Instr.extract,hv]

def szOf (P : Program) (t : TypeId) : Option Nat:=(P.info? t).map (·.size)

theorem run_sizeOf {t : TypeId} {n : Nat} (h : szOf P t = some n) (w : World) : (sizeOf t).run P w = .ok n w:=by
  unfold szOf at h
  cases hi : P.info? t with
  | none=>simp [hi] at h
  | some i=>simp [hi] at h; subst h; simp [sizeOf,typeInfo,hi]

theorem ex_fieldAddr {s : TypeId} {i : Nat} {fs : Array Field} {f : Field} {b off off' n : Nat} (hu : P.underlying s = some (.struct fs)) (hf : fs[i]? = some f)
    (hi : szOf P f.type = some (n + 1)) (hx : evo L x = some (.pointer (some ⟨b,off,none⟩))) (ho : off + f.offset = off') :
    Ex P ⟨d,.fieldAddr s x i,ty,p,af,g⟩ L m O (.pointer (some ⟨b,off',none⟩)) :=
  fun _ a n X w0 w hF _=>by
    subst ho
    simp [execOp,hF.eval hx,Instr.fieldAt,run_underlying hu,hf,Instr.sureAddr,fieldPlace,run_sizeOf hi,addr_add]

def aggD : TypeDesc→Bool
  | .struct _ | .array _ _=>true
  | _=>false

theorem run_isAgg {t : TypeId} {td : TypeDesc} (h : P.underlying t = some td) (w : World) : (isAgg t).run P w = .ok (aggD td) w:=by
  unfold isAgg
  cases td <;> simp [run_underlying h,aggD]

theorem run_load_cells {w : World} {b off n : Nat} {cs : List Value} {T : TypeId} {fz : Nat × Nat} (h : w.heap[b]? = some (.cells cs.toArray T fz)) (hn : off + n ≤ cs.length) :
    (loadCells ⟨b,off,none⟩ n).run P w = .ok ((cs.drop off).take n).toArray w:=by
  have hl : ((cs.drop off).take n).length = n:=by simp; omega
  have:=run_loadCells_list (P:=P) w ⟨b,off,none⟩ ((cs.drop off).take n) (fun j v hj=>by
    rw [addr_add]
    have hj' : j < n:=by
      rw [List.getElem?_eq_some_iff] at hj
      have:=hj.1
      omega
    rw [List.getElem?_take_of_lt hj',List.getElem?_drop] at hj
    simp [World.cell?,h,hj])
  rw [hl] at this
  exact this

def getO (O : List Piece) (j k : Nat) : Option OBlk:=(O[j]?).bind (·[k]?)

theorem getO_mem {O : List Piece} {j k : Nat} {o : OBlk} (h : getO O j k = some o) : o ∈ O.flatten:=by
  unfold getO at h
  cases hj : O[j]? with
  | none=>simp [hj] at h
  | some q =>
    simp [hj] at h
    exact List.mem_flatten.2 ⟨q,List.mem_of_getElem? hj,List.mem_of_getElem? h⟩

theorem St.heap {X : List Nat} {w0 w : World} (h : St X w0 w m O) {j k b : Nat} {cs : List Value} {T : TypeId} (ho : getO O j k = some ⟨b,cs,T⟩) : w.heap[b]? = some (.cells cs.toArray T (0,0)) :=
  h.own ⟨b,cs,T⟩ (getO_mem ho)

theorem ex_load1 {t T : TypeId} {td : TypeDesc} {b off : Nat} {cs : List Value} {v : Value} (j k : Nat) (hu : P.underlying t = some td) (ha : aggD td = false)
    (hx : evo L x = some (.pointer (some ⟨b,off,none⟩))) (ho : getO O j k = some ⟨b,cs,T⟩) (hv : cs[off]? = some v) : Ex P ⟨d,.load t x,ty,p,af,g⟩ L m O v :=
  fun _ a n X w0 w hF hS=>by
    have hc : w.cell? ⟨b,off,none⟩ = some v:=by simp [World.cell?,hS.heap ho,hv]
    simp [execOp,hF.eval hx,Instr.loadAt,Instr.sureAddr,loadVar,run_isAgg hu,ha,hc]

theorem ex_loadA {t T : TypeId} {td : TypeDesc} {b off n : Nat} {cs vs : List Value} (j k : Nat) (hu : P.underlying t = some td) (ha : aggD td = true) (hz : szOf P t = some n)
    (hx : evo L x = some (.pointer (some ⟨b,off,none⟩))) (ho : getO O j k = some ⟨b,cs,T⟩) (hn : Nat.ble (off + n) cs.length = true) (hv : (cs.drop off).take n = vs) :
    Ex P ⟨d,.load t x,ty,p,af,g⟩ L m O (.agg vs.toArray) :=
  fun _ a n' X w0 w hF hS=>by
    simp [execOp,hF.eval hx,Instr.loadAt,Instr.sureAddr,loadVar,run_isAgg hu,ha,run_sizeOf hz,run_load_cells (hS.heap ho) (Nat.le_of_ble_eq_true hn),hv]

def evps (L : List (Nat × Value)) : List (Nat × Operand)→Option (List (Nat × Value))
  | []=>some []
  | (i,x) :: r=>(evo L x).bind fun v=>(evps L r).bind fun vs=>some ((i,v) :: vs)

theorem FrD.evps {a : Act} {n : Nat} (h : FrD DS a n L) : ∀ {ps : List (Nat × Operand)} {vs : List (Nat × Value)},evps L ps = some vs→ps.map (fun q=>(q.1,a.eval q.2)) = vs
  | [],vs,e=>by simp [Gx.evps] at e; simp [e]
  | (i,x) :: r,vs,e=>by
    simp only [Gx.evps] at e
    cases h1 : evo L x with
    | none=>simp [h1] at e
    | some v =>
      cases h2 : Gx.evps L r with
      | none=>simp [h1,h2] at e
      | some us =>
        simp [h1,h2] at e
        subst e
        simp [h.eval h1,h.evps h2]

theorem ex_build {t : TypeId} {ps : List (Nat × Operand)} {vs : List (Nat × Value)} {cells : List Value} (hp : evps L ps = some vs) (hb : P.built t vs = some cells.toArray) :
    Ex P ⟨d,.build t ps.toArray,ty,p,af,g⟩ L m O (.agg cells.toArray) :=
  fun _ a n X w0 w hF _=>by
    have e : (ps.toArray.map fun (i,x)=>(i,a.eval x)) = vs.toArray:=by
      have:=hF.evps hp
      simp only [List.map_toArray]
      rw [← this]
    simp only [execOp,e]
    have:=run_build w t vs.toArray cells.toArray (P:=P) (by simpa using hb)
    simp [this]

variable {a : Act} {n : Nat} {X : List Nat} {w0 w : World} {K : Act→World→Prop} {Q : Exit→Act→World→Prop}

theorem wp_of_run {o : Oper} {v : Value} {w' : World} (h : (execOp a.eval o).run P w = .ok (.value v) w') (k : K (a.put o.dst v) w') : o.wp P a w K Q:=by
  unfold Oper.wp; rw [h]; exact k

theorem wp_of_skip {o : Oper} {w' : World} (h : (execOp a.eval o).run P w = .ok .skip w') (k : K (a.put o.dst undef) w') : o.wp P a w K Q:=by
  unfold Oper.wp; rw [h]; exact k

theorem below_alloc (w : World) (o : Obj) : Below w.heap.size w (w.alloc o):=(Below.refl _ _).alloc (Nat.le_refl _) _

theorem wp_box {T : TypeId} {v : Value} {cs : List Value} (hF : FrD DS a n L) (hS : St X w0 w m O) (hx : evo L x = some v) (hv : v.cells = cs.toArray) (hd : dok d n = true)
    (k : ∀ a' w' b,FrD DS a' n (putL d (.pointer (some ⟨b,0,none⟩)) L)→St X w0 w' m ([⟨b,cs,T⟩] :: O)→Below w.heap.size w w'→K a' w') :
    (⟨d,.box T x,ty,p,af,g⟩ : Oper).wp P a w K Q:=by
  refine wp_of_run (v:=.pointer (some ⟨w.heap.size,0,none⟩)) (w':=w.alloc (.cells cs.toArray T)) ?_ (k _ _ _ (hF.put _ hd) (hS.alloc cs T) (below_alloc _ _))
  simp [execOp,hF.eval hx,Instr.box,newVar,newRow,newObj,hv,Sem.run]

theorem wp_alloc {T : TypeId} {z : Value} {cs : List Value} (hF : FrD DS a n L) (hS : St X w0 w m O) (hz : (P.info? T).bind (·.zero) = some z) (hv : z.cells = cs.toArray) (hd : dok d n = true)
    (k : ∀ a' w' b,FrD DS a' n (putL d (.pointer (some ⟨b,0,none⟩)) L)→St X w0 w' m ([⟨b,cs,T⟩] :: O)→Below w.heap.size w w'→K a' w') :
    (⟨d,.alloc T,ty,p,af,g⟩ : Oper).wp P a w K Q:=by
  refine wp_of_run (v:=.pointer (some ⟨w.heap.size,0,none⟩)) (w':=w.alloc (.cells cs.toArray T)) ?_ (k _ _ _ (hF.put _ hd) (hS.alloc cs T) (below_alloc _ _))
  cases hi : P.info? T with
  | none=>simp [hi] at hz
  | some i =>
    simp [hi] at hz
    simp [execOp,Instr.alloc,zeroValue,typeInfo,hi,hz,newVar,newRow,newObj,hv,Sem.run]

def setCs (cs : List Value) (off : Nat) (vs : List Value) : List Value:=cs.take off ++ vs ++ cs.drop (off + vs.length)

def setO (O : List Piece) (j k : Nat) (o : OBlk) : List Piece:=O.modify j (·.set k o)

theorem flatten_setO_b : ∀ {O : List Piece} {j k : Nat} {o o' : OBlk},getO O j k = some o→o'.b = o.b→(setO O j k o').flatten.map (·.b) = O.flatten.map (·.b)
  | [],j,k,o,o',h,_=>by simp [getO] at h
  | q :: O,0,k,o,o',h,hb=>by
    simp [getO] at h
    simp only [setO,List.modify_zero_cons,List.flatten_cons,List.map_append]
    congr 1
    rw [List.map_set]
    apply List.ext_getElem?
    intro i
    rw [List.getElem?_set]
    split
    · rename_i hki
      subst hki
      have hlt:=(List.getElem?_eq_some_iff.1 h).1
      simp [hlt,hb]
      rw [(List.getElem?_eq_some_iff.1 h).2]
    · rfl
  | q :: O,j + 1,k,o,o',h,hb=>by
    have h' : getO O j k = some o:=by simpa [getO] using h
    simp only [setO,List.modify_succ_cons,List.flatten_cons,List.map_append]
    congr 1
    exact flatten_setO_b h' hb

theorem mem_setO : ∀ {O : List Piece} {j k : Nat} {o' q : OBlk},q ∈ (setO O j k o').flatten→q = o' ∨ q ∈ O.flatten
  | [],j,k,o',q,h=>by simp [setO] at h
  | r :: O,0,k,o',q,h=>by
    simp only [setO,List.modify_zero_cons,List.flatten_cons,List.mem_append] at h ⊢
    rcases h with h | h
    · rcases List.mem_or_eq_of_mem_set h with h | h
      · exact .inr (.inl h)
      · exact .inl h
    · exact .inr (.inr h)
  | r :: O,j + 1,k,o',q,h=>by
    simp only [setO,List.modify_succ_cons,List.flatten_cons,List.mem_append] at h ⊢
    rcases h with h | h
    · exact .inr (.inl h)
    · rcases mem_setO (O:=O) h with h | h
      · exact .inl h
      · exact .inr (.inr h)

theorem nodup_inj {α β : Type} {f : α→β} : ∀ {l : List α},(l.map f).Nodup→∀ {x y},x ∈ l→y ∈ l→f x = f y→x = y
  | [],_,x,_,hx,_,_=>by cases hx
  | z :: l,h,x,y,hx,hy,he=>by
    simp only [List.map_cons,List.nodup_cons,List.mem_map,not_exists,not_and] at h
    rcases List.mem_cons.1 hx with e1 | hx'
    · rcases List.mem_cons.1 hy with e2 | hy'
      · rw [e1,e2]
      · exact absurd (by rw [← he,e1]) (h.1 y hy')
    · rcases List.mem_cons.1 hy with e2 | hy'
      · exact absurd (by rw [he,e2]) (h.1 x hx')
      · exact nodup_inj h.2 hx' hy' he

theorem St.setRow (h : St X w0 w m O) {j k b : Nat} {cs : List Value} {T : TypeId} (ho : getO O j k = some ⟨b,cs,T⟩) (cs' : List Value) :
    St X w0 (w.setRow b cs'.toArray) m (setO O j k ⟨b,cs',T⟩):=by
  have hh:=h.heap ho
  have hfree:=h.free _ (getO_mem ho)
  refine ⟨⟨h.kept.os,h.kept.tape,h.kept.output,by simpa using h.kept.size,fun i hi hx=>?_⟩,fun c cs1 hc=>?_,fun o hm=>?_,fun o hm=>?_,?_⟩
  · rw [setRow_other _ _ _ _ (by
      rintro rfl
      rcases hfree.2 with h1 | h1
      · exact absurd hi (by simp at h1; omega)
      · exact hx h1)]
    exact h.kept.block i hi hx
  · obtain ⟨T',fz,hc'⟩:=h.vis c cs1 hc
    refine ⟨T',fz,?_⟩
    rw [setRow_other _ _ _ _ (by
      rintro rfl
      rw [hfree.1] at hc
      cases hc)]
    exact hc'
  · rcases Nat.decEq o.b b with hb | hb
    · rcases mem_setO hm with rfl | hm'
      · exact absurd rfl hb
      · rw [setRow_other _ _ _ _ hb]; exact h.own o hm'
    · -- the same block: it is the new one
      have hmb : (setO O j k ⟨b,cs',T⟩).flatten.map (·.b) = O.flatten.map (·.b):=flatten_setO_b ho rfl
      have hnd : ((setO O j k ⟨b,cs',T⟩).flatten.map (·.b)).Nodup:=by rw [hmb]; exact h.nodup
      have hin : (⟨b,cs',T⟩ : OBlk) ∈ (setO O j k ⟨b,cs',T⟩).flatten:=by
        have : getO (setO O j k ⟨b,cs',T⟩) j k = some ⟨b,cs',T⟩:=by
          unfold getO at ho ⊢
          cases hj : O[j]? with
          | none=>simp [hj] at ho
          | some q =>
            simp [hj] at ho
            have hlt:=(List.getElem?_eq_some_iff.1 ho).1
            simp [setO,hj,hlt]
        exact getO_mem this
      have:=nodup_inj hnd hm hin hb
      subst this
      exact setRow_heap w b cs.toArray cs'.toArray T (0,0) hh
  · rcases mem_setO hm with rfl | hm'
    · exact hfree
    · exact h.free o hm'
  · rw [flatten_setO_b (o':=⟨b,cs',T⟩) ho rfl]; exact h.nodup

theorem wp_store {t T : TypeId} {b off n' : Nat} {cs cs' vs : List Value} {v : Value} (j k : Nat) (hF : FrD DS a n L) (hS : St X w0 w m O) (hz : szOf P t = some n')
    (hx : evo L x = some (.pointer (some ⟨b,off,none⟩))) (hy : evo L y = some v) (hv : v.cells = vs.toArray) (hn : vs.length = n') (h1 : vs.all (·.oneCell') = true)
    (ho : getO O j k = some ⟨b,cs,T⟩) (hb : Nat.ble (off + vs.length) cs.length = true) (hcs : setCs cs off vs = cs')
    (kk : ∀ w',St X w0 w' m (setO O j k ⟨b,cs',T⟩)→K a w') :
    (⟨none,.store t x y,ty,p,af,g⟩ : Oper).wp P a w K Q:=by
  subst hcs
  refine wp_of_skip (w':=w.setRow b (setCs cs off vs).toArray) ?_ (kk _ (hS.setRow ho _))
  have hr:=run_storeCells_at (P:=P) b off T vs 0 cs.toArray w (hS.heap ho) (by simpa using Nat.le_of_ble_eq_true hb) (by simpa using h1)
  have : vs.length = n':=hn
  simp only [Nat.add_zero] at hr
  simp [execOp,hF.eval hx,hF.eval hy,Instr.storeAt,Instr.sureAddr,storeVar,run_sizeOf hz,hv,hn,hr,setCs]

def evs (L : List (Nat × Value)) : List Operand→Option (List Value)
  | []=>some []
  | x :: r=>(evo L x).bind fun v=>(evs L r).bind fun vs=>some (v :: vs)

theorem FrD.evs (h : FrD DS a n L) : ∀ {ps : List Operand} {vs : List Value},evs L ps = some vs→ps.map a.eval = vs
  | [],vs,e=>by simp [Gx.evs] at e; simp [e]
  | x :: r,vs,e=>by
    simp only [Gx.evs] at e
    cases h1 : evo L x with
    | none=>simp [h1] at e
    | some v =>
      cases h2 : Gx.evs L r with
      | none=>simp [h1,h2] at e
      | some us =>
        simp [h1,h2] at e
        subst e
        simp [h.eval h1,h.evs h2]

theorem run_call {o : Oper} {f : FuncId} {fn : Func} {args : Array Operand} {ats : Array TypeId} (hop : o.op = .call { callee:=.value (.func f),args,argTypes:=ats })
    (hf : P.funcs[f]? = some fn) (hname : (fn.name == "runtime.NumGoroutine") = false) (hb : fn.body.isNone = false) : (execOp a.eval o).run P w = .ok (.enter f (args.map a.eval)) w := by
  have h1 : ¬ fn.name = "runtime.NumGoroutine" := by simpa using hname
  have h2 : ¬ fn.body = none:=by cases hx : fn.body <;> simp_all
  unfold execOp
  simp [hop,resolve,Deferred.ofValue,invoke,callFunc,hf,h1,h2,Act.eval]

def Ret (P : Program) (f : FuncId) (vs : List Value) (w : World) (R : Value→World→Prop) : Prop :=
  Calls P f vs.toArray w fun e w'=>∃ v,e = .returned v∧Below w.heap.size w w'∧R v w'

theorem wp_call {f : FuncId} {fn : Func} {args : List Operand} {ats : Array TypeId} {vs : List Value} {R : Value→World→Prop} (hF : FrD DS a n L) (hS : St X w0 w m O)
    (hf : P.funcs[f]? = some fn) (hname : (fn.name == "runtime.NumGoroutine") = false) (hb : fn.body.isNone = false) (hargs : evs L args = some vs) (hd : dok d n = true)
    (hc : Ret P f vs w R) (k : ∀ a' w' v,R v w'→FrD DS a' n (putL d v L)→St X w0 w' m O→Below w.heap.size w w'→K a' w') :
    (⟨d,.call { callee:=.value (.func f),args:=args.toArray,argTypes:=ats },ty,p,af,g⟩ : Oper).wp P a w K Q:=by
  unfold Oper.wp
  rw [run_call (a:=a) (w:=w) rfl hf hname hb]
  have e : args.toArray.map a.eval = vs.toArray:=by simp [hF.evs hargs]
  rw [e]
  refine Calls.mono hc ?_
  rintro e w' ⟨v,rfl,hbel,hR⟩
  exact k _ _ _ hR (hF.put _ hd) (hS.below hbel) hbel

inductive ResL (P : Program) (L : List (Nat × Value)) (O : List Piece) : List ResultVar→List Value→Prop
  | nil : ResL P L O [] []
  | tmp {t : Tmp} {v : Value} {rs : List ResultVar} {vs : List Value} : lk L t = some v→ResL P L O rs vs→ResL P L O (.tmp t :: rs) (v :: vs)
  | cell1 {t : Tmp} {ty T : TypeId} {td : TypeDesc} {b off : Nat} {cs : List Value} {v : Value} {rs : List ResultVar} {vs : List Value} (j k : Nat) : P.underlying ty = some td→aggD td = false →
      lk L t = some (.pointer (some ⟨b,off,none⟩))→getO O j k = some ⟨b,cs,T⟩→cs[off]? = some v→ResL P L O rs vs→ResL P L O (.cell t ty :: rs) (v :: vs)
  | cellA {t : Tmp} {ty T : TypeId} {td : TypeDesc} {b off n : Nat} {cs us : List Value} {rs : List ResultVar} {vs : List Value} (j k : Nat) : P.underlying ty = some td→aggD td = true→szOf P ty = some n →
      lk L t = some (.pointer (some ⟨b,off,none⟩))→getO O j k = some ⟨b,cs,T⟩→Nat.ble (off + n) cs.length = true→(cs.drop off).take n = us→ResL P L O rs vs→ResL P L O (.cell t ty :: rs) (.agg us.toArray :: vs)

def resOne (tmps : Array Value) : ResultVar→Sem Value
  | .tmp t=>pure (tmps.getD t undef)
  | .cell x t=>do loadVar t (← asAddr (tmps.getD x undef))

theorem ResL.run (hF : FrD DS a n L) (hS : St X w0 w m O) {rs : List ResultVar} {vs : List Value} (h : ResL P L O rs vs) :
    (rs.mapM (resOne a.tmps)).run P w = .ok vs w:=by
  induction h with
  | nil=>simp
  | @tmp t v rs vs h1 _ ih =>
    have e : a.tmps.getD t undef = v:=hF.eval (x:=.tmp t) h1
    have e1 : (resOne a.tmps (.tmp t)).run P w = .ok v w:=by simp only [resOne,e]; rfl
    simp only [List.mapM_cons,Sem.run_bind,e1,Result.andThen_ok,ih,Sem.run_pure]
  | @cell1 t ty T td b off cs v rs vs j k hu ha hl ho hv _ ih =>
    have e : a.tmps.getD t undef = .pointer (some ⟨b,off,none⟩):=hF.eval (x:=.tmp t) hl
    have hc : w.cell? ⟨b,off,none⟩ = some v:=by simp [World.cell?,hS.heap ho,hv]
    have e1 : (resOne a.tmps (.cell t ty)).run P w = .ok v w:=by
      simp only [resOne,e]
      simp [asAddr,loadVar,run_isAgg hu,ha,hc]
    simp only [List.mapM_cons,Sem.run_bind,e1,Result.andThen_ok,ih,Sem.run_pure]
  | @cellA t ty T td b off n cs us rs vs j k hu ha hz hl ho hn hv _ ih =>
    have e : a.tmps.getD t undef = .pointer (some ⟨b,off,none⟩):=hF.eval (x:=.tmp t) hl
    have e1 : (resOne a.tmps (.cell t ty)).run P w = .ok (.agg us.toArray) w:=by
      simp only [resOne,e]
      simp [asAddr,loadVar,run_isAgg hu,ha,run_sizeOf hz,run_load_cells (hS.heap ho) (Nat.le_of_ble_eq_true hn),hv]
    simp only [List.mapM_cons,Sem.run_bind,e1,Result.andThen_ok,ih,Sem.run_pure]

def tup : List Value→Value
  | [v]=>v
  | vs=>.tuple vs.toArray

theorem run_results {fn : Func} (hF : FrD DS a n L) (hS : St X w0 w m O) {rs : List ResultVar} {vs : List Value} (hr : fn.results = rs.toArray) (h : ResL P L O rs vs) :
    (results fn a.tmps).run P w = .ok (tup vs) w:=by
  have h1:=h.run hF hS
  have e : results fn a.tmps = (do let vs ← fn.results.mapM (resOne a.tmps); pure (if h : vs.size = 1 then vs[0] else .tuple vs)):=by
    unfold results
    congr 1
  rw [e,hr]
  simp only [List.mapM_toArray,map_eq_pure_bind,bind_assoc,Sem.run_bind,h1,Result.andThen_ok,Sem.run_pure]
  congr 1
  match vs with
  | []=>rfl
  | [v]=>rfl
  | u :: v :: r=>simp [tup]

theorem ret_of {fn : Func} {R : Value→World→Prop} {rs : List ResultVar} {vs : List Value} (hF : Fr a n L) (hS : St [] w0 w m O) (hr : fn.results = rs.toArray) (h : ResL P L O rs vs) (hR : R (tup vs) w) :
    bodyPost P fn (fun e w'=>∃ v,e = .returned v∧Below w0.heap.size w0 w'∧R v w') .ret a w :=
  bodyPost_ret (run_results hF hS hr h) hF.defers ⟨_,rfl,hS.kept.toBelow,hR⟩

theorem ret_start {f : FuncId} {fn : Func} {c : Code} {vs : List Value} {R : Value→World→Prop} (hf : P.funcs[f]? = some fn) (hb : fn.body = some c) (n : Nat) (hn : fn.ntmps = n) (hl : Nat.ble vs.length n = true)
    (m : Mem) (hv : Vis m w) (h : ∀ a,Fr a n (argL 0 vs)→St [] w w m []→c.wp P (bodyPost P fn (fun e w'=>∃ v,e = .returned v∧Below w.heap.size w w'∧R v w')) a w) : Ret P f vs w R:=by
  unfold Ret
  refine calls_of_wp hf hb (h _ ?_ (St.start w m hv))
  subst hn
  exact Fr.start vs _ (Nat.le_of_ble_eq_true hl)

theorem q_region {id : Nat} {l : List Oper} (h : wpList P l.toArray Q l a w) : (Code.region id l.toArray false).wp P Q a w:=wp_region_lit h

def Sq (P : Program) (r : Code) (Q : Exit→Act→World→Prop) : Exit→Act→World→Prop:=Exit.then (r.wp P Q) Q

theorem q_seq {x y : Code} (h : x.wp P (Sq P y Q) a w) : (Code.seq x y).wp P Q a w:=wp_seq h

theorem q_end {ops : Array Oper} (h : Q .normal a w) : wpList P ops Q [] a w:=h

theorem q_x {ops : Array Oper} {o : Oper} {rest : List Oper} {v : Value} (hF : FrD DS a n L) (hS : St X w0 w m O) (hx : Ex P o L m O v) (hg : o.guard = none) (hd : dok o.dst n = true)
    (k : ∀ a',FrD DS a' n (putL o.dst v L)→wpList P ops Q rest a' w) : wpList P ops Q (o :: rest) a w :=
  wpList_plain hg fun _ hK=>wp_of_run (hx _ a n X w0 w hF hS) (hK _ _ (k _ (hF.put v hd)))

end

section

variable {P : Program} {L : List (Nat × Value)} {m : Mem} {O : List Piece} {a : Act} {n : Nat} {X : List Nat} {w0 w : World} {Q : Exit→Act→World→Prop}

theorem yielded_of {ops : Array Oper} {j t : Nat} {b : Bool} (hF : FrD DS a n L) (hj : (ops[j]?).bind (·.dst) = some t) (hl : lk L t = some (.bool b)) : yielded ops a.tmps j = some b:=by
  simp [yielded,hj,hF.has _ _ hl]

theorem wanted_t {ops : Array Oper} {o : Oper} {j t : Nat} {b c : Bool} (hF : FrD DS a n L) (hg : o.guard = some (j,c)) (hj : (ops[j]?).bind (·.dst) = some t) (hl : lk L t = some (.bool b)) (hb : b = c) :
    Region.wanted o (yielded ops a.tmps) = true:=by
  subst hb
  simp [Region.wanted,hg,yielded_of hF hj hl]

theorem wanted_f {ops : Array Oper} {o : Oper} {j t : Nat} {b c e : Bool} (hF : FrD DS a n L) (hg : o.guard = some (j,c)) (hj : (ops[j]?).bind (·.dst) = some t) (hl : lk L t = some (.bool b)) (hb : b = e) (hbc : (e == c) = false) :
    Region.wanted o (yielded ops a.tmps) = false:=by
  subst hb
  simp [Region.wanted,hg,yielded_of hF hj hl]
  intro e
  rw [e] at hbc
  simp at hbc

theorem wanted_u {ops : Array Oper} {o : Oper} {j t : Nat} {c : Bool} (hF : FrD DS a n L) (hg : o.guard = some (j,c)) (hj : (ops[j]?).bind (·.dst) = some t) (hl : lk L t = some undef) :
    Region.wanted o (yielded ops a.tmps) = false:=by
  simp [Region.wanted,hg,yielded,hj,hF.has _ _ hl,undef]

theorem q_xg {ops : Array Oper} {o : Oper} {rest : List Oper} {v : Value} (hF : FrD DS a n L) (hS : St X w0 w m O) (hx : Ex P o L m O v) (hw : Region.wanted o (yielded ops a.tmps) = true) (hd : dok o.dst n = true)
    (k : ∀ a',FrD DS a' n (putL o.dst v L)→wpList P ops Q rest a' w) : wpList P ops Q (o :: rest) a w :=
  wpList_step fun _ hK=>by rw [if_pos hw]; exact wp_of_run (hx _ a n X w0 w hF hS) (hK _ _ (k _ (hF.put v hd)))

theorem q_skip {ops : Array Oper} {o : Oper} {rest : List Oper} (hF : FrD DS a n L) (hw : Region.wanted o (yielded ops a.tmps) = false) (hd : dok o.dst n = true)
    (k : ∀ a',FrD DS a' n (putL o.dst undef L)→wpList P ops Q rest a' w) : wpList P ops Q (o :: rest) a w :=
  wpList_step fun _ hK=>by rw [if_neg (by simp [hw])]; exact hK _ _ (k _ (hF.put undef hd))

theorem q_do {ops : Array Oper} {o : Oper} {rest : List Oper} (hg : o.guard = none) (h : ∀ K : Act→World→Prop,(∀ a w,wpList P ops Q rest a w→K a w)→o.wp P a w K Q) : wpList P ops Q (o :: rest) a w :=
  wpList_plain hg h

theorem q_dog {ops : Array Oper} {o : Oper} {rest : List Oper} (hw : Region.wanted o (yielded ops a.tmps) = true) (h : ∀ K : Act→World→Prop,(∀ a w,wpList P ops Q rest a w→K a w)→o.wp P a w K Q) : wpList P ops Q (o :: rest) a w :=
  wpList_step fun K hK=>by rw [if_pos hw]; exact h K hK

theorem q_cond_t {c : Operand} {x y : Code} {b : Bool} (hF : FrD DS a n L) (hc : evo L c = some (.bool b)) (hb : b = true) (h : x.wp P Q a w) : (Code.cond c x y).wp P Q a w :=
  wp_cond_true (by rw [hF.eval hc,hb]) h

theorem q_cond_f {c : Operand} {x y : Code} {b : Bool} (hF : FrD DS a n L) (hc : evo L c = some (.bool b)) (hb : b = false) (h : y.wp P Q a w) : (Code.cond c x y).wp P Q a w :=
  wp_cond_false (by rw [hF.eval hc,hb]) h

def Ib (id : Nat) (Q : Exit→Act→World→Prop) : Exit→Act→World→Prop:=Exit.inBlock id Q

theorem q_block {id : Nat} {c : Code} (h : c.wp P (Ib id Q) a w) : (Code.block id c).wp P Q a w:=wp_block h

theorem q_skipc (h : Q .normal a w) : Code.skip.wp P Q a w:=wp_skip h

theorem q_ret (h : Q .ret a w) : Code.ret.wp P Q a w:=wp_ret h

theorem q_exit {id : Nat} (h : Q (.exit id) a w) : (Code.exit id).wp P Q a w:=wp_exit h

end

inductive Stp (σ ρ : Type) where
  | next (s : σ)
  | done (r : ρ)

def itr {σ ρ : Type} (body : σ→Option (Stp σ ρ)) : Nat→σ→Option ρ
  | 0,_=>none
  | n + 1,s=>match body s with
    | none=>none
    | some (.next s')=>itr body n s'
    | some (.done r)=>some r

theorem itr_mono {σ ρ : Type} (body : σ→Option (Stp σ ρ)) : ∀ {n : Nat} {s : σ} {r : ρ},itr body n s = some r→∀ {k},n ≤ k→itr body k s = some r
  | 0,s,r,h,_,_=>by simp [itr] at h
  | n + 1,s,r,h,0,hk=>by omega
  | n + 1,s,r,h,k + 1,hk=>by
    simp only [itr] at h ⊢
    split at h
    · simp at h
    · rename_i s' hb
      exact itr_mono body h (by omega)
    · exact h

open Classical in
noncomputable def loopC {σ ρ : Type} (body : σ→Option (Stp σ ρ)) (s : σ) : Option ρ :=
  if h : ∃ n,(itr body n s).isSome = true then itr body h.choose s else none

theorem loopC_of {σ ρ : Type} {body : σ→Option (Stp σ ρ)} {n : Nat} {s : σ} {r : ρ} (h : itr body n s = some r) : loopC body s = some r:=by
  have hex : ∃ n,(itr body n s).isSome = true:=⟨n,by simp [h]⟩
  unfold loopC
  rw [dif_pos hex]
  obtain ⟨r',hr'⟩:=Option.isSome_iff_exists.1 hex.choose_spec
  rw [hr']
  have h1:=itr_mono body h (Nat.le_max_left n hex.choose)
  have h2:=itr_mono body hr' (Nat.le_max_right n hex.choose)
  rw [h1] at h2
  exact h2.symm

theorem loopC_run {σ ρ : Type} {body : σ→Option (Stp σ ρ)} {s : σ} {r : ρ} (h : loopC body s = some r) : ∃ n,itr body n s = some r:=by
  unfold loopC at h
  split at h
  · exact ⟨_,h⟩
  · cases h

theorem loopC_eq {σ ρ : Type} (body : σ→Option (Stp σ ρ)) (s : σ) : loopC body s = match body s with
    | none=>none
    | some (.next s')=>loopC body s'
    | some (.done r)=>some r:=by
  apply Option.ext
  intro r
  constructor
  · intro h
    obtain ⟨n,hn⟩:=loopC_run h
    cases n with
    | zero=>simp [itr] at hn
    | succ n =>
      simp only [itr] at hn
      split at hn
      · simp at hn
      · exact loopC_of hn
      · exact hn
  · intro h
    split at h
    · simp at h
    · rename_i s' hb
      obtain ⟨n,hn⟩:=loopC_run h
      exact loopC_of (n:=n + 1) (by simp only [itr,hb]; exact hn)
    · rename_i r' hb
      exact loopC_of (n:=1) (by simp only [itr,hb]; exact h)

section

variable {P : Program} {a : Act} {w : World} {Q : Exit→Act→World→Prop}

def LQ {σ ρ : Type} (I : σ→Act→World→Prop) (D : ρ→Exit→Act→World→Prop) (Q : Exit→Act→World→Prop) (r : ρ) (st : Stp σ ρ) : Exit→Act→World→Prop:=fun e a w =>
  match st with
  | .next s=>e = .normal∧I s a w
  | .done o=>e ≠ .normal∧(D o e a w ∨ (o = r→Q e a w))

theorem q_loop {σ ρ : Type} {c : Code} {body : σ→Option (Stp σ ρ)} {s : σ} {r : ρ} (I : σ→Act→World→Prop) (D : ρ→Exit→Act→World→Prop) (hrun : loopC body s = some r) (h0 : I s a w)
    (round : ∀ s a w st,I s a w→body s = some st→c.wp P (LQ I D Q r st) a w) (after : ∀ e a w,D r e a w→Q e a w) : (Code.loop c).wp P Q a w:=by
  obtain ⟨N,hN⟩:=loopC_run hrun
  clear hrun
  intro b k cs
  have key : ∀ (N : Nat) (s : σ) (a : Act) (w : World),itr body N s = some r→I s a w →
      ∃ e a' w',Q e a' w'∧Arrives P (lone (b.at a (.code c :: .inLoop c :: k)) cs w) b k cs e a' w':=by
    intro N
    induction N with
    | zero=>intro s a w h; simp [itr] at h
    | succ N ih =>
      intro s a w h hI
      simp only [itr] at h
      split at h
      · cases h
      · rename_i s' hb
        obtain ⟨e,a₁,w₁,hq,harr⟩:=round s a w _ hI hb b (.inLoop c :: k) cs
        obtain ⟨he,hI'⟩:=hq
        subst he
        obtain ⟨e2,a2,w2,hq2,harr2⟩:=ih s' a₁ w₁ h hI'
        exact ⟨e2,a2,w2,hq2,.of_steps (Steps.trans harr (.one step_inLoop)) harr2⟩
      · rename_i r' hb
        obtain ⟨e,a₁,w₁,hq,harr⟩:=round s a w _ hI hb b (.inLoop c :: k) cs
        obtain ⟨he,hD⟩:=hq
        simp only [Option.some.injEq] at h
        subst h
        exact ⟨e,a₁,w₁,hD.elim (after _ _ _) (fun h=>h rfl),.pass (x:=.inLoop c) rfl (fun _ _=>.inl he) harr⟩
  obtain ⟨e,a',w',hq,harr⟩:=key N s a w hN h0
  exact ⟨e,a',w',hq,.of_steps (.one step_loop) harr⟩

theorem Oper.wp_post {o : Oper} {K : Act→World→Prop} {Q' : Exit→Act→World→Prop} (h : o.wp P a w K (fun _ _ _=>False)) : o.wp P a w K Q':=by
  unfold Oper.wp at *
  generalize (execOp a.eval o).run P w = r at *
  cases r with
  | ok n w' =>
    cases n <;> simp only [Oper.upon] at h ⊢
    case enter f args =>
      refine Calls.mono h ?_
      intro e w2 hh
      cases e with
      | returned v=>exact hh
      | panicked c=>exact hh.elim
      | outgrown=>obtain ⟨a,w,hx⟩:=hh; exact hx.elim
    all_goals exact h
  | halt x w' =>
    cases x <;> simp only [Oper.upon] at h ⊢

def NP : Exit→Act→World→Prop:=fun _ _ _=>False

structure LdB where
  ld : List Nat
  b : List Nat
  m : Mem

def Keeps (B : List Nat) (w w' : World) : Prop:=∀ b ∈ B,w'.heap[b]? = w.heap[b]?

def KeepsL (Ld : LdB) (w w' : World) : Prop:=Keeps Ld.b w w'∧(Vis Ld.m w→Vis Ld.m w')

def wpE (P : Program) (ops : Array Oper) (Ld : LdB) (Q : Act→World→Prop) : Nat→Array Bool→Act→World→Prop
  | 0,l,a,w=>Region.ready .any ops l = []∧Q a w
  | f + 1,l,a,w=>(Region.ready .any ops l = []→Q a w) ∧
    ∀ i ∈ Region.ready .any ops l,wpOp P ops NP i (fun a' w'=>((i ∈ Ld.ld∧KeepsL Ld w w') ∨ Below w.heap.size w w')∧wpE P ops Ld Q f (l.setIfInBounds i true) a' w') a w

theorem wpOp_post {ops : Array Oper} {i : Nat} {K : Act→World→Prop} {Q' : Exit→Act→World→Prop} (h : wpOp P ops NP i K a w) : wpOp P ops Q' i K a w:=by
  unfold wpOp at *
  split
  · rename_i ho; simp only [ho] at h; exact h
  · rename_i o ho
    simp only [ho] at h
    split
    · rename_i hw
      rw [if_pos hw] at h
      rcases h with h | ⟨_,a2,w2,h⟩
      · exact .inl (Oper.wp_post h)
      · exact h.elim
    · rename_i hw
      rw [if_neg hw] at h
      exact h

theorem wpAny_of_E {ops : Array Oper} {Ld : LdB} {K : Act→World→Prop} {Q' : Exit→Act→World→Prop} (hK : ∀ a w,K a w→Q' .normal a w) : ∀ (f : Nat) (l : Array Bool) (a : Act) (w : World),
    wpE P ops Ld K f l a w→wpAny P .any ops Q' f l a w
  | 0,_,_,_,h=>⟨h.1,hK _ _ h.2⟩
  | f + 1,_,_,_,h=>⟨fun e=>hK _ _ (h.1 e),fun i hi=>wpOp_post (wpOp_mono (fun a' w' h'=>wpAny_of_E hK f _ a' w' h'.2) (h.2 i hi))⟩

theorem e_region {id : Nat} {l : List Oper} (Ld : LdB) (hm : P.follows .mixedOrders = true)
    (h : ∀ w',Below w.heap.size w w'→wpE P l.toArray Ld (fun a w=>Q .normal a w) l.length (Array.replicate l.length false) a w') : (Code.region id l.toArray true).wp P Q a w:=by
  refine wp_region_any hm ?_
  have:=h { w with drawn:=w.drawn + 1 } ⟨rfl,rfl,rfl,Nat.le_refl _,fun _ _=>rfl⟩
  have h2:=wpAny_of_E (Q':=Q) (fun _ _ h=>h) _ _ _ _ this
  simpa using h2

def ldWait (ops : Array Oper) (Ld : LdB) (l : Array Bool) (i : Nat) : Bool :=
  Ld.ld.all fun j=>j != i && (l.getD j true || match ops[j]? with
    | some o=>o.after.any fun e=>Region.binds .any e && e.on == i
    | none=>true)

theorem e_first {ops : Array Oper} {Ld : LdB} {K : Act→World→Prop} {i : Nat} {oi : Oper} {v : Value} (hi : ops[i]? = some oi) (hs : Region.noSelect ops = true) :
    ∀ (f : Nat) (l : Array Bool) (a : Act) (w : World),Region.free .any ops l i = true→(Region.ready .any ops l).contains i = true→ldWait ops Ld l i = true →
      YieldsIf P ops (fun w'=>Below w.heap.size w w') oi v a→wpE P ops Ld K f (l.setIfInBounds i true) (a.put oi.dst v) w→wpE P ops Ld K (f + 1) l a w:=by
  have hsel:=Region.noSelect_spec hs
  suffices hmain : ∀ (f : Nat) (l : Array Bool) (a : Act) (w : World),
      (∀ j oj,ops[j]? = some oj→j ≠ i→l.getD j true = false→(∀ e ∈ oj.after,Region.binds .any e = true→e.on ≠ i)→oi.apart ops oj = true) →
      (∀ j oj,ops[j]? = some oj→j ∈ Ld.ld→l.getD j true = false→j ≠ i∧∃ e ∈ oj.after,Region.binds .any e = true∧e.on = i) →
      i ∈ Region.ready .any ops l→YieldsIf P ops (fun w'=>Below w.heap.size w w') oi v a→wpE P ops Ld K f (l.setIfInBounds i true) (a.put oi.dst v) w→wpE P ops Ld K (f + 1) l a w by
    intro f l a w hf hr hl hy H
    refine hmain f l a w (Region.free_spec hi hf) (fun j oj hj hjl hun=>?_) (by simpa using hr) hy H
    unfold ldWait at hl
    rw [List.all_eq_true] at hl
    have h1:=hl j hjl
    simp only [hun,Bool.false_or,hj,Bool.and_eq_true,bne_iff_ne,ne_eq] at h1
    refine ⟨h1.1,?_⟩
    obtain ⟨e,he,hb⟩:=Array.any_eq_true'.1 h1.2
    simp only [Bool.and_eq_true,beq_iff_eq] at hb
    exact ⟨e,he,hb.1,hb.2⟩
  intro f
  induction f with
  | zero =>
    intro l a w _ _ hr hy H
    refine ⟨fun h=>(by rw [h] at hr; cases hr),fun j hj=>?_⟩
    by_cases hji : j = i
    · subst hji
      exact hy.wpOp hi (Below.refl _ _) ⟨.inr (Below.refl _ _),H⟩
    · have:=ready_mono hj hji
      rw [H.1] at this
      cases this
  | succ f ih =>
    intro l a w hfree hld hr hy H
    refine ⟨fun h=>(by rw [h] at hr; cases hr),fun j hj=>?_⟩
    by_cases hji : j = i
    · subst hji
      exact hy.wpOp hi (Below.refl _ _) ⟨.inr (Below.refl _ _),H⟩
    · have h1:=H.2 j (ready_mono hj hji)
      obtain ⟨hjun,oj,hoj,hall⟩:=mem_ready.1 hj
      have hiun:=(mem_ready.1 hr).1
      have hun' : l.getD i false = true→False:=fun h1=>by
        rcases Nat.lt_or_ge i l.size with h' | h'
        · simp [h'] at hiun h1; rw [hiun] at h1; cases h1
        · simp [Array.getElem?_eq_none h'] at h1
      have hnot : ∀ e ∈ oj.after,Region.binds .any e = true→e.on ≠ i:=fun e he hb heq=>by
        have h1:=hall e he hb
        rw [heq] at h1
        exact hun' h1
      have hjl : j ∉ Ld.ld:=fun hjl=>by
        obtain ⟨_,e,he,hb,heq⟩:=hld j oj hoj hjl hjun
        exact hnot e he hb heq
      have h2:=wpOp_putIf hoj (hfree j oj hoj hji hjun hnot) (fun cs b=>hsel i oi cs b hi) (fun cs b=>hsel j oj cs b hoj) (fun _ _ _ h=>h) hy h1
      have keep : ∀ k,(l.setIfInBounds j true).getD k true = false→l.getD k true = false:=fun k hk=>by
        by_cases hjk : j = k
        · subst hjk; exact hjun
        · rw [getD_set_ne true hjk] at hk; exact hk
      refine wpOp_mono (fun a' w' h3=>?_) h2
      obtain ⟨hy',hor,H'⟩:=h3
      have hbel : Below w.heap.size w w':=hor.resolve_left fun h=>hjl h.1
      refine ⟨.inr hbel,ih (l.setIfInBounds j true) a' w' (fun k ok hk hki hun hno=>hfree k ok hk hki (keep k hun) hno)
        (fun k ok hk hkl hun=>hld k ok hk hkl (keep k hun)) (ready_mono hr (Ne.symm hji)) ?_ ?_⟩
      · refine hy'.imp (fun h=>⟨h.1,fun w2 hw2=>h.2 w2 (hbel.trans (hw2.mono hbel.size))⟩) id
      · rw [Array.setIfInBounds_comm _ _ hji]
        exact H'

variable {L : List (Nat × Value)} {m : Mem} {O : List Piece} {n : Nat} {X : List Nat} {w0 : World}

theorem e_x {ops : Array Oper} {Ld : LdB} {K : Act→World→Prop} {f : Nat} {l : Array Bool} (i : Nat) {o : Oper} {v : Value} (hF : FrD DS a n L) (hS : St X w0 w m O) (hi : ops[i]? = some o) (hx : Ex P o L m O v)
    (hg : o.guard = none) (hd : dok o.dst n = true) (hs : Region.noSelect ops = true) (hf : Region.free .any ops l i = true) (hr : (Region.ready .any ops l).contains i = true) (hl : ldWait ops Ld l i = true)
    (k : ∀ a',FrD DS a' n (putL o.dst v L)→wpE P ops Ld K f (l.setIfInBounds i true) a' w) : wpE P ops Ld K (f + 1) l a w :=
  e_first hi hs f l a w hf hr hl (.inl ⟨by simp [Region.wanted,hg],fun w' hw'=>hx _ a n X w0 w' hF (hS.below hw')⟩) (k _ (hF.put v hd))

theorem e_xg {ops : Array Oper} {Ld : LdB} {K : Act→World→Prop} {f : Nat} {l : Array Bool} (i : Nat) {o : Oper} {v : Value} (hF : FrD DS a n L) (hS : St X w0 w m O) (hi : ops[i]? = some o) (hx : Ex P o L m O v)
    (hw : Region.wanted o (yielded ops a.tmps) = true) (hd : dok o.dst n = true) (hs : Region.noSelect ops = true) (hf : Region.free .any ops l i = true) (hr : (Region.ready .any ops l).contains i = true) (hl : ldWait ops Ld l i = true)
    (k : ∀ a',FrD DS a' n (putL o.dst v L)→wpE P ops Ld K f (l.setIfInBounds i true) a' w) : wpE P ops Ld K (f + 1) l a w :=
  e_first hi hs f l a w hf hr hl (.inl ⟨hw,fun w' hw'=>hx _ a n X w0 w' hF (hS.below hw')⟩) (k _ (hF.put v hd))

theorem e_end {ops : Array Oper} {Ld : LdB} {K : Act→World→Prop} {l : Array Bool} (hr : Region.ready .any ops l = []) (h : K a w) : ∀ f,wpE P ops Ld K f l a w
  | 0=>⟨hr,h⟩
  | _ + 1=>⟨fun _=>h,by rw [hr]; simp⟩

def eAll (P : Program) (ops : Array Oper) (Ld : LdB) (Q : Act→World→Prop) (f : Nat) (l : Array Bool) (a : Act) (w : World) : List Nat→Prop
  | []=>True
  | i :: r=>wpOp P ops NP i (fun a' w'=>((i ∈ Ld.ld∧KeepsL Ld w w') ∨ Below w.heap.size w w')∧wpE P ops Ld Q f (l.setIfInBounds i true) a' w') a w∧eAll P ops Ld Q f l a w r

theorem eAll_mem {ops : Array Oper} {Ld : LdB} {K : Act→World→Prop} {f : Nat} {l : Array Bool} : ∀ {rs : List Nat},eAll P ops Ld K f l a w rs→∀ i ∈ rs,
    wpOp P ops NP i (fun a' w'=>((i ∈ Ld.ld∧KeepsL Ld w w') ∨ Below w.heap.size w w')∧wpE P ops Ld K f (l.setIfInBounds i true) a' w') a w
  | [],_,i,hi=>by cases hi
  | j :: rs,h,i,hi=>by
    rcases List.mem_cons.1 hi with e | hi
    · subst e; exact h.1
    · exact eAll_mem h.2 i hi

theorem e_all {ops : Array Oper} {Ld : LdB} {K : Act→World→Prop} {f : Nat} {l : Array Bool} (rs : List Nat) (hr : Region.ready .any ops l = rs) (hne : rs.isEmpty = false)
    (h : eAll P ops Ld K f l a w rs) : wpE P ops Ld K (f + 1) l a w :=
  ⟨fun e=>by rw [hr] at e; simp [e] at hne,fun i hi=>eAll_mem h i (hr ▸ hi)⟩

theorem e_op {ops : Array Oper} {Ld : LdB} {K : Act→World→Prop} {f : Nat} {l : Array Bool} {i : Nat} {o : Oper} (hi : ops[i]? = some o) (hg : o.guard = none)
    (h : ∀ K' : Act→World→Prop,(∀ a' w',Below w.heap.size w w'→wpE P ops Ld K f (l.setIfInBounds i true) a' w'→K' a' w')→o.wp P a w K' NP) :
    wpOp P ops NP i (fun a' w'=>((i ∈ Ld.ld∧KeepsL Ld w w') ∨ Below w.heap.size w w')∧wpE P ops Ld K f (l.setIfInBounds i true) a' w') a w:=by
  unfold wpOp
  simp only [hi]
  rw [if_pos (by simp [Region.wanted,hg])]
  exact .inl (h _ fun a' w' hb hk=>⟨.inr hb,hk⟩)

theorem e_opl {ops : Array Oper} {Ld : LdB} {K : Act→World→Prop} {f : Nat} {l : Array Bool} {i : Nat} {o : Oper} (hi : ops[i]? = some o) (hg : o.guard = none) (hl : Ld.ld.contains i = true)
    (h : ∀ K' : Act→World→Prop,(∀ a' w',(KeepsL Ld w w'∧wpE P ops Ld K f (l.setIfInBounds i true) a' w')→K' a' w')→o.wp P a w K' NP) :
    wpOp P ops NP i (fun a' w'=>((i ∈ Ld.ld∧KeepsL Ld w w') ∨ Below w.heap.size w w')∧wpE P ops Ld K f (l.setIfInBounds i true) a' w') a w:=by
  unfold wpOp
  simp only [hi]
  rw [if_pos (by simp [Region.wanted,hg])]
  exact .inl (h _ fun a' w' hk=>⟨.inl ⟨by simpa using hl,hk.1⟩,hk.2⟩)

end

section

variable {P : Program} {L : List (Nat × Value)} {m : Mem} {O : List Piece} {a : Act} {n : Nat} {X : List Nat} {w0 w : World} {Q : Exit→Act→World→Prop}

variable {d : Option Tmp} {ty : TypeId} {p : String} {af : Array Edge} {x y : Operand} {ops : Array Oper} {rest : List Oper}

def Jn (N : Act→World→Prop) (Q : Exit→Act→World→Prop) : Exit→Act→World→Prop:=Exit.then N Q

theorem q_join {x : Code} (N : Act→World→Prop) (h : x.wp P (Jn N Q) a w) (k : ∀ a w,N a w→Q .normal a w) : x.wp P Q a w :=
  wp_mono h fun e a w q=>by cases e <;> first | exact k _ _ q | exact q

theorem n_sq {r : Code} (h : r.wp P Q a w) : Sq P r Q .normal a w:=h

theorem n_ib {id : Nat} (h : Q .normal a w) : Ib id Q .normal a w:=h

theorem n_jn {N : Act→World→Prop} (h : N a w) : Jn N Q .normal a w:=h

theorem x_sq {r : Code} {id : Nat} (h : Q (.exit id) a w) : Sq P r Q (.exit id) a w:=h

theorem x_ib {id : Nat} (h : Q .normal a w) : Ib id Q (.exit id) a w:=by simpa [Ib,Exit.inBlock] using h

theorem x_ibn {id id' : Nat} (hne : (id' == id) = false) (h : Q (.exit id') a w) : Ib id Q (.exit id') a w:=by
  have : ¬ id' = id:=by simpa using hne
  simpa [Ib,Exit.inBlock,this] using h

theorem r_sq {r : Code} (h : Q .ret a w) : Sq P r Q .ret a w:=h

theorem r_ib {id : Nat} (h : Q .ret a w) : Ib id Q .ret a w:=h

theorem r_jn {N : Act→World→Prop} (h : Q .ret a w) : Jn N Q .ret a w:=h

theorem q_box {T : TypeId} {v : Value} {cs : List Value} (hF : FrD DS a n L) (hS : St X w0 w m O) (hx : evo L x = some v) (hv : v.cells = cs.toArray) (hd : dok d n = true)
    (k : ∀ a' w' b,FrD DS a' n (putL d (.pointer (some ⟨b,0,none⟩)) L)→St X w0 w' m ([⟨b,cs,T⟩] :: O)→wpList P ops Q rest a' w') : wpList P ops Q (⟨d,.box T x,ty,p,af,none⟩ :: rest) a w :=
  wpList_plain rfl fun _ hK=>wp_box hF hS hx hv hd fun a' w' b h1 h2 _=>hK _ _ (k a' w' b h1 h2)

theorem q_alloc {T : TypeId} {z : Value} {cs : List Value} (hF : FrD DS a n L) (hS : St X w0 w m O) (hz : (P.info? T).bind (·.zero) = some z) (hv : z.cells = cs.toArray) (hd : dok d n = true)
    (k : ∀ a' w' b,FrD DS a' n (putL d (.pointer (some ⟨b,0,none⟩)) L)→St X w0 w' m ([⟨b,cs,T⟩] :: O)→wpList P ops Q rest a' w') : wpList P ops Q (⟨d,.alloc T,ty,p,af,none⟩ :: rest) a w :=
  wpList_plain rfl fun _ hK=>wp_alloc hF hS hz hv hd fun a' w' b h1 h2 _=>hK _ _ (k a' w' b h1 h2)

theorem q_store {t T : TypeId} {b off n' : Nat} {cs cs' vs : List Value} {v : Value} (j k : Nat) (hF : FrD DS a n L) (hS : St X w0 w m O) (hz : szOf P t = some n')
    (hx : evo L x = some (.pointer (some ⟨b,off,none⟩))) (hy : evo L y = some v) (hv : v.cells = vs.toArray) (hn : vs.length = n') (h1 : vs.all (·.oneCell') = true)
    (ho : getO O j k = some ⟨b,cs,T⟩) (hb : Nat.ble (off + vs.length) cs.length = true) (hcs : setCs cs off vs = cs')
    (kk : ∀ a' w',FrD DS a' n L→St X w0 w' m (setO O j k ⟨b,cs',T⟩)→wpList P ops Q rest a' w') : wpList P ops Q (⟨none,.store t x y,ty,p,af,none⟩ :: rest) a w :=
  wpList_plain rfl fun _ hK=>wp_store j k hF hS hz hx hy hv hn h1 ho hb hcs fun w' h2=>hK _ _ (kk a w' hF h2)

theorem q_call {f : FuncId} {fn : Func} {args : List Operand} {ats : Array TypeId} {vs : List Value} {R : Value→World→Prop} (hF : FrD DS a n L) (hS : St X w0 w m O)
    (hf : P.funcs[f]? = some fn) (hname : (fn.name == "runtime.NumGoroutine") = false) (hb : fn.body.isNone = false) (hargs : evs L args = some vs) (hd : dok d n = true)
    (hc : Ret P f vs w R) (k : ∀ a' w' v,R v w'→FrD DS a' n (putL d v L)→St X w0 w' m O→wpList P ops Q rest a' w') :
    wpList P ops Q (⟨d,.call { callee:=.value (.func f),args:=args.toArray,argTypes:=ats },ty,p,af,none⟩ :: rest) a w :=
  wpList_plain rfl fun _ hK=>wp_call hF hS hf hname hb hargs hd hc fun a' w' v h1 h2 h3 _=>hK _ _ (k a' w' v h1 h2 h3)

theorem q_callg {f : FuncId} {fn : Func} {args : List Operand} {ats : Array TypeId} {vs : List Value} {g : Option (Nat × Bool)} {R : Value→World→Prop} (hF : FrD DS a n L) (hS : St X w0 w m O)
    (hw : Region.wanted ⟨d,.call { callee:=.value (.func f),args:=args.toArray,argTypes:=ats },ty,p,af,g⟩ (yielded ops a.tmps) = true)
    (hf : P.funcs[f]? = some fn) (hname : (fn.name == "runtime.NumGoroutine") = false) (hb : fn.body.isNone = false) (hargs : evs L args = some vs) (hd : dok d n = true)
    (hc : Ret P f vs w R) (k : ∀ a' w' v,R v w'→FrD DS a' n (putL d v L)→St X w0 w' m O→wpList P ops Q rest a' w') :
    wpList P ops Q (⟨d,.call { callee:=.value (.func f),args:=args.toArray,argTypes:=ats },ty,p,af,g⟩ :: rest) a w :=
  q_dog hw fun _ hK=>wp_call hF hS hf hname hb hargs hd hc fun a' w' v h1 h2 h3 _=>hK _ _ (k a' w' v h1 h2 h3)

variable {Ld : LdB} {K : Act→World→Prop} {f : Nat} {l : Array Bool}

abbrev EOp (P : Program) (ops : Array Oper) (Ld : LdB) (K : Act→World→Prop) (f : Nat) (l : Array Bool) (i : Nat) (a : Act) (w : World) : Prop :=
  wpOp P ops NP i (fun a' w'=>((i ∈ Ld.ld∧KeepsL Ld w w') ∨ Below w.heap.size w w')∧wpE P ops Ld K f (l.setIfInBounds i true) a' w') a w

theorem e_one (i : Nat) (hr : Region.ready .any ops l = [i]) (h : EOp P ops Ld K f l i a w) : wpE P ops Ld K (f + 1) l a w :=
  e_all [i] hr rfl ⟨h,trivial⟩

theorem e_box {T : TypeId} {v : Value} {cs : List Value} {i : Nat} (hF : FrD DS a n L) (hS : St X w0 w m O) (hi : ops[i]? = some ⟨d,.box T x,ty,p,af,none⟩) (hx : evo L x = some v) (hv : v.cells = cs.toArray) (hd : dok d n = true)
    (k : ∀ a' w' b,FrD DS a' n (putL d (.pointer (some ⟨b,0,none⟩)) L)→St X w0 w' m ([⟨b,cs,T⟩] :: O)→wpE P ops Ld K f (l.setIfInBounds i true) a' w') : EOp P ops Ld K f l i a w :=
  e_op hi rfl fun _ hK=>wp_box hF hS hx hv hd fun a' w' b h1 h2 hb=>hK _ _ hb (k a' w' b h1 h2)

theorem e_alloc {T : TypeId} {z : Value} {cs : List Value} {i : Nat} (hF : FrD DS a n L) (hS : St X w0 w m O) (hi : ops[i]? = some ⟨d,.alloc T,ty,p,af,none⟩) (hz : (P.info? T).bind (·.zero) = some z) (hv : z.cells = cs.toArray) (hd : dok d n = true)
    (k : ∀ a' w' b,FrD DS a' n (putL d (.pointer (some ⟨b,0,none⟩)) L)→St X w0 w' m ([⟨b,cs,T⟩] :: O)→wpE P ops Ld K f (l.setIfInBounds i true) a' w') : EOp P ops Ld K f l i a w :=
  e_op hi rfl fun _ hK=>wp_alloc hF hS hz hv hd fun a' w' b h1 h2 hb=>hK _ _ hb (k a' w' b h1 h2)

theorem e_call {g : FuncId} {fn : Func} {args : List Operand} {ats : Array TypeId} {vs : List Value} {R : Value→World→Prop} {i : Nat} (hF : FrD DS a n L) (hS : St X w0 w m O)
    (hi : ops[i]? = some ⟨d,.call { callee:=.value (.func g),args:=args.toArray,argTypes:=ats },ty,p,af,none⟩)
    (hf : P.funcs[g]? = some fn) (hname : (fn.name == "runtime.NumGoroutine") = false) (hb : fn.body.isNone = false) (hargs : evs L args = some vs) (hd : dok d n = true)
    (hc : Ret P g vs w R) (k : ∀ a' w' v,R v w'→FrD DS a' n (putL d v L)→St X w0 w' m O→wpE P ops Ld K f (l.setIfInBounds i true) a' w') : EOp P ops Ld K f l i a w :=
  e_op hi rfl fun _ hK=>wp_call hF hS hf hname hb hargs hd hc fun a' w' v h1 h2 h3 hbb=>hK _ _ hbb (k a' w' v h1 h2 h3)

theorem e_opg {i : Nat} {o : Oper} (hi : ops[i]? = some o) (hw : Region.wanted o (yielded ops a.tmps) = true)
    (h : ∀ K' : Act→World→Prop,(∀ a' w',Below w.heap.size w w'→wpE P ops Ld K f (l.setIfInBounds i true) a' w'→K' a' w')→o.wp P a w K' NP) : EOp P ops Ld K f l i a w:=by
  unfold EOp wpOp
  simp only [hi]
  rw [if_pos hw]
  exact .inl (h _ fun a' w' hb hk=>⟨.inr hb,hk⟩)

theorem e_callg {g : FuncId} {fn : Func} {args : List Operand} {ats : Array TypeId} {vs : List Value} {gd : Option (Nat × Bool)} {R : Value→World→Prop} {i : Nat} (hF : FrD DS a n L) (hS : St X w0 w m O)
    (hi : ops[i]? = some ⟨d,.call { callee:=.value (.func g),args:=args.toArray,argTypes:=ats },ty,p,af,gd⟩)
    (hw : Region.wanted ⟨d,.call { callee:=.value (.func g),args:=args.toArray,argTypes:=ats },ty,p,af,gd⟩ (yielded ops a.tmps) = true)
    (hf : P.funcs[g]? = some fn) (hname : (fn.name == "runtime.NumGoroutine") = false) (hb : fn.body.isNone = false) (hargs : evs L args = some vs) (hd : dok d n = true)
    (hc : Ret P g vs w R) (k : ∀ a' w' v,R v w'→FrD DS a' n (putL d v L)→St X w0 w' m O→wpE P ops Ld K f (l.setIfInBounds i true) a' w') : EOp P ops Ld K f l i a w :=
  e_opg hi hw fun _ hK=>wp_call hF hS hf hname hb hargs hd hc fun a' w' v h1 h2 h3 hbb=>hK _ _ hbb (k a' w' v h1 h2 h3)

theorem e_store {t T : TypeId} {b off n' : Nat} {cs cs' vs : List Value} {v : Value} {i : Nat} (j k : Nat) (hF : FrD DS a n L) (hS : St X w0 w m O) (hi : ops[i]? = some ⟨none,.store t x y,ty,p,af,none⟩) (hl : Ld.ld.contains i = true) (hz : szOf P t = some n')
    (hx : evo L x = some (.pointer (some ⟨b,off,none⟩))) (hy : evo L y = some v) (hv : v.cells = vs.toArray) (hn : vs.length = n') (h1 : vs.all (·.oneCell') = true)
    (ho : getO O j k = some ⟨b,cs,T⟩) (hb : Nat.ble (off + vs.length) cs.length = true) (hcs : setCs cs off vs = cs')
    (kk : ∀ a' w',FrD DS a' n L→St X w0 w' m (setO O j k ⟨b,cs',T⟩)→KeepsL Ld w w'∧wpE P ops Ld K f (l.setIfInBounds i true) a' w') : EOp P ops Ld K f l i a w :=
  e_opl hi rfl hl fun _ hK=>wp_store j k hF hS hz hx hy hv hn h1 ho hb hcs fun w' h2=>hK _ _ (kk a w' hF h2)

def maskL {α : Type} : List Bool→List α→List α
  | true :: bs,x :: xs=>x :: maskL bs xs
  | false :: bs,_ :: xs=>maskL bs xs
  | _,_=>[]

theorem maskL_sub {α : Type} : ∀ (bs : List Bool) (xs : List α),(maskL bs xs).Sublist xs
  | true :: bs,x :: xs=>(maskL_sub bs xs).cons_cons x
  | false :: bs,x :: xs=>(maskL_sub bs xs).cons x
  | [],xs=>by cases xs <;> exact List.nil_sublist _
  | true :: _,[]=>List.Sublist.refl _
  | false :: _,[]=>List.Sublist.refl _

theorem flatten_sub {α : Type} {xs ys : List (List α)} (h : xs.Sublist ys) : xs.flatten.Sublist ys.flatten:=by
  induction h with
  | slnil=>exact List.Sublist.refl _
  | cons x _ ih=>exact ih.trans (List.sublist_append_right _ _)
  | cons_cons x _ ih=>exact (List.Sublist.refl x).append ih

theorem St.mask (h : St X w0 w m O) (bs : List Bool) : St X w0 w m (maskL bs O):=by
  have hs:=flatten_sub (maskL_sub bs O)
  exact ⟨h.kept,h.vis,fun o ho=>h.own o (hs.subset ho),fun o ho=>h.free o (hs.subset ho),(hs.map _).nodup h.nodup⟩

end

abbrev w64 (n : Int) : Int:=IntKind.i64.wrap n

def goQuo (k : IntKind) (a b : Int) : Option Int:=cond (b == 0) none (some (k.wrap (a.tdiv b)))

def goRem (a b : Int) : Option Int:=cond (b == 0) none (some (a.tmod b))

theorem goQuo_some {k : IntKind} {a b r : Int} (h : goQuo k a b = some r) : b ≠ 0∧k.wrap (a.tdiv b) = r:=by
  unfold goQuo at h
  by_cases hb : b = 0
  · subst hb; simp at h
  · rw [show (b == 0) = false by simpa using hb] at h
    exact ⟨hb,by simpa using h⟩

theorem goRem_some {a b r : Int} (h : goRem a b = some r) : b ≠ 0∧a.tmod b = r:=by
  unfold goRem at h
  by_cases hb : b = 0
  · subst hb; simp at h
  · rw [show (b == 0) = false by simpa using hb] at h
    exact ⟨hb,by simpa using h⟩

theorem cond_t {α : Type} {b : Bool} {x y : Option α} {r : α} (hb : b = true) (h : cond b x y = some r) : x = some r:=by subst hb; exact h

theorem cond_f {α : Type} {b : Bool} {x y : Option α} {r : α} (hb : b = false) (h : cond b x y = some r) : y = some r:=by subst hb; exact h

theorem someI {α : Type} {x y : α} (h : some x = some y) : x = y:=Option.some.inj h

theorem bindS {α β : Type} {x : Option α} {f : α→Option β} {r : β} (h : x.bind f = some r) : ∃ t,x = some t∧f t = some r:=Option.bind_eq_some_iff.1 h

section

variable {P : Program} {L : List (Nat × Value)} {m : Mem} {O : List Piece} {d : Option Tmp} {ty : TypeId} {p : String} {af : Array Edge} {g : Option (Nat × Bool)} {x y : Operand}

theorem ex_quo {xt yt : TypeId} {k : IntKind} {i j t : Int} (hx : evo L x = some (.int k i)) (hy : evo L y = some (.int k j)) (h : goQuo k i j = some t) :
    Ex P ⟨d,.binOp .quo xt x y yt,ty,p,af,g⟩ L m O (.int k t):=by
  obtain ⟨hj,rfl⟩:=goQuo_some h
  exact ex_idiv hx hy hj

theorem ex_rem {xt yt : TypeId} {k : IntKind} {i j t : Int} (hx : evo L x = some (.int k i)) (hy : evo L y = some (.int k j)) (h : goRem i j = some t) :
    Ex P ⟨d,.binOp .rem xt x y yt,ty,p,af,g⟩ L m O (.int k t):=by
  obtain ⟨hj,rfl⟩:=goRem_some h
  exact ex_irem hx hy hj

end

def catC : Code→List Nat→Code
  | c,[]=>c
  | .seq x _,0 :: r=>catC x r
  | .seq _ y,_ :: r=>catC y r
  | .cond _ x _,0 :: r=>catC x r
  | .cond _ _ y,_ :: r=>catC y r
  | .block _ c,_ :: r=>catC c r
  | .loop c,_ :: r=>catC c r
  | c,_=>c

section

variable {P : Program} {L : List (Nat × Value)} {m : Mem} {O : List Piece} {d : Option Tmp} {ty : TypeId} {p : String} {af : Array Edge} {g : Option (Nat × Bool)} {x y : Operand}

theorem ex_max {ats : Array TypeId} {k : IntKind} {i j : Int} (hx : evo L x = some (.int k i)) (hy : evo L y = some (.int k j)) :
    Ex P ⟨d,.call { callee:=.builtin .max,args:=#[x,y],argTypes:=ats },ty,p,af,g⟩ L m O (.int k (max i j)):=fun _ a n X w0 w hF _=>by
  have e : (if j > i then j else i) = max i j:=by split <;> omega
  simp [execOp,resolve,invoke,builtin,Builtin.max_,Builtin.max2,hF.eval hx,hF.eval hy,e]

theorem ex_min {ats : Array TypeId} {k : IntKind} {i j : Int} (hx : evo L x = some (.int k i)) (hy : evo L y = some (.int k j)) :
    Ex P ⟨d,.call { callee:=.builtin .min,args:=#[x,y],argTypes:=ats },ty,p,af,g⟩ L m O (.int k (min i j)):=fun _ a n X w0 w hF _=>by
  have e : (if j < i then j else i) = min i j:=by split <;> omega
  simp [execOp,resolve,invoke,builtin,Builtin.min_,Builtin.min2,hF.eval hx,hF.eval hy,e]

end

def selL (O : List Piece) (is : List Nat) : List Piece:=is.map fun i=>O.getD i []

theorem St.sel {X : List Nat} {w0 w : World} {m : Mem} {O : List Piece} (h : St X w0 w m O) (is : List Nat) (hn : is.Nodup) : St X w0 w m (selL O is):=by
  have hmem : ∀ q ∈ selL O is,q = [] ∨ q ∈ O:=fun q hq=>by
    simp only [selL,List.mem_map] at hq
    obtain ⟨i,_,rfl⟩:=hq
    rcases Nat.lt_or_ge i O.length with hi | hi
    · right; simp [List.getD,hi]
    · left; simp [List.getD,hi]
  have hfl : ∀ o ∈ (selL O is).flatten,o ∈ O.flatten:=fun o ho=>by
    obtain ⟨q,hq,hoq⟩:=List.mem_flatten.1 ho
    rcases hmem q hq with rfl | hq'
    · cases hoq
    · exact List.mem_flatten.2 ⟨q,hq',hoq⟩
  refine ⟨h.kept,h.vis,fun o ho=>h.own o (hfl o ho),fun o ho=>h.free o (hfl o ho),?_⟩
  have hnd:=h.nodup
  rw [List.Nodup,List.pairwise_map,List.pairwise_flatten] at hnd ⊢
  obtain ⟨h1,h2⟩:=hnd
  refine ⟨fun q hq=>?_,?_⟩
  · rcases hmem q hq with rfl | hq'
    · exact List.Pairwise.nil
    · exact h1 q hq'
  · rw [selL,List.pairwise_map]
    refine List.Pairwise.imp ?_ hn
    intro i j hij x hx y hy
    rcases Nat.lt_or_ge i O.length with hi | hi
    · rcases Nat.lt_or_ge j O.length with hj | hj
      · have ei : O.getD i [] = O[i]:=by simp [List.getD,hi]
        have ej : O.getD j [] = O[j]:=by simp [List.getD,hj]
        rw [ei] at hx
        rw [ej] at hy
        rcases Nat.lt_trichotomy i j with hlt | heq | hgt
        · exact (List.pairwise_iff_getElem.1 h2) i j hi hj hlt x hx y hy
        · exact absurd heq hij
        · exact fun e=>(List.pairwise_iff_getElem.1 h2) j i hj hi hgt y hy x hx e.symm
      · simp [List.getD,hj] at hy
    · simp [List.getD,hi] at hx

section

variable {P : Program} {L : List (Nat × Value)} {a : Act} {n : Nat} {w : World} {ops : Array Oper} {Ld : LdB} {K : Act→World→Prop}

theorem e_firstP {i : Nat} {oi : Oper} {v : Value} (hi : ops[i]? = some oi) (hs : Region.noSelect ops = true) :
    ∀ (f : Nat) (l : Array Bool) (a : Act) (w : World),(∀ j oj,ops[j]? = some oj→j ≠ i→l.getD j true = false→(∀ e ∈ oj.after,Region.binds .any e = true→e.on ≠ i)→oi.apart ops oj = true) →
      i ∈ Region.ready .any ops l→YieldsIf P ops (fun _=>True) oi v a→wpE P ops Ld K f (l.setIfInBounds i true) (a.put oi.dst v) w→wpE P ops Ld K (f + 1) l a w:=by
  have hsel:=Region.noSelect_spec hs
  intro f
  induction f with
  | zero =>
    intro l a w _ hr hy H
    refine ⟨fun h=>(by rw [h] at hr; cases hr),fun j hj=>?_⟩
    by_cases hji : j = i
    · subst hji
      exact hy.wpOp hi trivial ⟨.inr (Below.refl _ _),H⟩
    · have:=ready_mono hj hji
      rw [H.1] at this
      cases this
  | succ f ih =>
    intro l a w hfree hr hy H
    refine ⟨fun h=>(by rw [h] at hr; cases hr),fun j hj=>?_⟩
    by_cases hji : j = i
    · subst hji
      exact hy.wpOp hi trivial ⟨.inr (Below.refl _ _),H⟩
    · have h1:=H.2 j (ready_mono hj hji)
      obtain ⟨hjun,oj,hoj,hall⟩:=mem_ready.1 hj
      have hiun:=(mem_ready.1 hr).1
      have hnot : ∀ e ∈ oj.after,Region.binds .any e = true→e.on ≠ i:=fun e he hb heq=>by
        have h1:=hall e he hb
        rw [heq] at h1
        rcases Nat.lt_or_ge i l.size with h' | h'
        · simp [h'] at hiun h1; rw [hiun] at h1; cases h1
        · simp [Array.getElem?_eq_none h'] at h1
      have h2:=wpOp_putIf hoj (hfree j oj hoj hji hjun hnot) (fun cs b=>hsel i oi cs b hi) (fun cs b=>hsel j oj cs b hoj) (fun _ _ _ h=>h) hy h1
      have keep : ∀ k,(l.setIfInBounds j true).getD k true = false→l.getD k true = false:=fun k hk=>by
        by_cases hjk : j = k
        · subst hjk; exact hjun
        · rw [getD_set_ne true hjk] at hk; exact hk
      refine wpOp_mono (fun a' w' h3=>?_) h2
      obtain ⟨hy',hor,H'⟩:=h3
      refine ⟨hor,ih (l.setIfInBounds j true) a' w' (fun k ok hk hki hun hno=>hfree k ok hk hki (keep k hun) hno) (ready_mono hr (Ne.symm hji)) hy' ?_⟩
      rw [Array.setIfInBounds_comm _ _ hji]
      exact H'

theorem vis_none (w : World) : Vis (fun _=>none) w:=fun b cs h=>by cases h

theorem e_p {f : Nat} {l : Array Bool} (i : Nat) {o : Oper} {v : Value} (hF : FrD DS a n L) (hi : ops[i]? = some o) (hx : Ex P o L (fun _=>none) [] v)
    (hg : o.guard = none) (hd : dok o.dst n = true) (hs : Region.noSelect ops = true) (hf : Region.free .any ops l i = true) (hr : (Region.ready .any ops l).contains i = true)
    (k : ∀ a',FrD DS a' n (putL o.dst v L)→wpE P ops Ld K f (l.setIfInBounds i true) a' w) : wpE P ops Ld K (f + 1) l a w :=
  e_firstP hi hs f l a w (Region.free_spec hi hf) (by simpa using hr) (.inl ⟨by simp [Region.wanted,hg],fun w' _=>hx _ a n [] w' w' hF (St.start w' _ (vis_none w'))⟩) (k _ (hF.put v hd))

theorem e_pg {f : Nat} {l : Array Bool} (i : Nat) {o : Oper} {v : Value} (hF : FrD DS a n L) (hi : ops[i]? = some o) (hx : Ex P o L (fun _=>none) [] v)
    (hw : Region.wanted o (yielded ops a.tmps) = true) (hd : dok o.dst n = true) (hs : Region.noSelect ops = true) (hf : Region.free .any ops l i = true) (hr : (Region.ready .any ops l).contains i = true)
    (k : ∀ a',FrD DS a' n (putL o.dst v L)→wpE P ops Ld K f (l.setIfInBounds i true) a' w) : wpE P ops Ld K (f + 1) l a w :=
  e_firstP hi hs f l a w (Region.free_spec hi hf) (by simpa using hr) (.inl ⟨hw,fun w' _=>hx _ a n [] w' w' hF (St.start w' _ (vis_none w'))⟩) (k _ (hF.put v hd))

theorem e_skipP {f : Nat} {l : Array Bool} (i : Nat) {o : Oper} (hF : FrD DS a n L) (hi : ops[i]? = some o)
    (hw : Region.wanted o (yielded ops a.tmps) = false) (hd : dok o.dst n = true) (hs : Region.noSelect ops = true) (hf : Region.free .any ops l i = true) (hr : (Region.ready .any ops l).contains i = true)
    (k : ∀ a',FrD DS a' n (putL o.dst undef L)→wpE P ops Ld K f (l.setIfInBounds i true) a' w) : wpE P ops Ld K (f + 1) l a w :=
  e_firstP hi hs f l a w (Region.free_spec hi hf) (by simpa using hr) (.inr ⟨hw,rfl⟩) (k _ (hF.put undef hd))

theorem e_firstB {i b : Nat} {blk : Obj} {oi : Oper} {v : Value} (hb : b ∈ Ld.b) (hi : ops[i]? = some oi) (hs : Region.noSelect ops = true) :
    ∀ (f : Nat) (l : Array Bool) (a : Act) (w : World),(∀ j oj,ops[j]? = some oj→j ≠ i→l.getD j true = false→(∀ e ∈ oj.after,Region.binds .any e = true→e.on ≠ i)→oi.apart ops oj = true) →
      i ∈ Region.ready .any ops l→w.heap[b]? = some blk→YieldsIf P ops (fun w'=>w'.heap[b]? = some blk) oi v a→wpE P ops Ld K f (l.setIfInBounds i true) (a.put oi.dst v) w→wpE P ops Ld K (f + 1) l a w:=by
  have hsel:=Region.noSelect_spec hs
  intro f
  induction f with
  | zero =>
    intro l a w _ hr hw hy H
    refine ⟨fun h=>(by rw [h] at hr; cases hr),fun j hj=>?_⟩
    by_cases hji : j = i
    · subst hji
      exact hy.wpOp hi hw ⟨.inr (Below.refl _ _),H⟩
    · have:=ready_mono hj hji
      rw [H.1] at this
      cases this
  | succ f ih =>
    intro l a w hfree hr hw hy H
    refine ⟨fun h=>(by rw [h] at hr; cases hr),fun j hj=>?_⟩
    by_cases hji : j = i
    · subst hji
      exact hy.wpOp hi hw ⟨.inr (Below.refl _ _),H⟩
    · have h1:=H.2 j (ready_mono hj hji)
      obtain ⟨hjun,oj,hoj,hall⟩:=mem_ready.1 hj
      have hiun:=(mem_ready.1 hr).1
      have hnot : ∀ e ∈ oj.after,Region.binds .any e = true→e.on ≠ i:=fun e he hb heq=>by
        have h1:=hall e he hb
        rw [heq] at h1
        rcases Nat.lt_or_ge i l.size with h' | h'
        · simp [h'] at hiun h1; rw [hiun] at h1; cases h1
        · simp [Array.getElem?_eq_none h'] at h1
      have h2:=wpOp_putIf hoj (hfree j oj hoj hji hjun hnot) (fun cs b=>hsel i oi cs b hi) (fun cs b=>hsel j oj cs b hoj) (fun _ _ _ h=>h) hy h1
      have keep : ∀ k,(l.setIfInBounds j true).getD k true = false→l.getD k true = false:=fun k hk=>by
        by_cases hjk : j = k
        · subst hjk; exact hjun
        · rw [getD_set_ne true hjk] at hk; exact hk
      refine wpOp_mono (fun a' w' h3=>?_) h2
      obtain ⟨hy',hor,H'⟩:=h3
      have hw' : w'.heap[b]? = some blk:=by
        rcases hor with h | h
        · rw [h.2.1 b hb]; exact hw
        · rw [h.block b (lt_of_heap hw)]; exact hw
      refine ⟨hor,ih (l.setIfInBounds j true) a' w' (fun k ok hk hki hun hno=>hfree k ok hk hki (keep k hun) hno) (ready_mono hr (Ne.symm hji)) hw' hy' ?_⟩
      rw [Array.setIfInBounds_comm _ _ hji]
      exact H'

theorem e_firstM {i : Nat} {oi : Oper} {v : Value} (hi : ops[i]? = some oi) (hs : Region.noSelect ops = true) :
    ∀ (f : Nat) (l : Array Bool) (a : Act) (w : World),(∀ j oj,ops[j]? = some oj→j ≠ i→l.getD j true = false→(∀ e ∈ oj.after,Region.binds .any e = true→e.on ≠ i)→oi.apart ops oj = true) →
      i ∈ Region.ready .any ops l→Vis Ld.m w→YieldsIf P ops (fun w'=>Vis Ld.m w') oi v a→wpE P ops Ld K f (l.setIfInBounds i true) (a.put oi.dst v) w→wpE P ops Ld K (f + 1) l a w:=by
  have hsel:=Region.noSelect_spec hs
  intro f
  induction f with
  | zero =>
    intro l a w _ hr hw hy H
    refine ⟨fun h=>(by rw [h] at hr; cases hr),fun j hj=>?_⟩
    by_cases hji : j = i
    · subst hji
      exact hy.wpOp hi hw ⟨.inr (Below.refl _ _),H⟩
    · have:=ready_mono hj hji
      rw [H.1] at this
      cases this
  | succ f ih =>
    intro l a w hfree hr hw hy H
    refine ⟨fun h=>(by rw [h] at hr; cases hr),fun j hj=>?_⟩
    by_cases hji : j = i
    · subst hji
      exact hy.wpOp hi hw ⟨.inr (Below.refl _ _),H⟩
    · have h1:=H.2 j (ready_mono hj hji)
      obtain ⟨hjun,oj,hoj,hall⟩:=mem_ready.1 hj
      have hiun:=(mem_ready.1 hr).1
      have hnot : ∀ e ∈ oj.after,Region.binds .any e = true→e.on ≠ i:=fun e he hb heq=>by
        have h1:=hall e he hb
        rw [heq] at h1
        rcases Nat.lt_or_ge i l.size with h' | h'
        · simp [h'] at hiun h1; rw [hiun] at h1; cases h1
        · simp [Array.getElem?_eq_none h'] at h1
      have h2:=wpOp_putIf hoj (hfree j oj hoj hji hjun hnot) (fun cs b=>hsel i oi cs b hi) (fun cs b=>hsel j oj cs b hoj) (fun _ _ _ h=>h) hy h1
      have keep : ∀ k,(l.setIfInBounds j true).getD k true = false→l.getD k true = false:=fun k hk=>by
        by_cases hjk : j = k
        · subst hjk; exact hjun
        · rw [getD_set_ne true hjk] at hk; exact hk
      refine wpOp_mono (fun a' w' h3=>?_) h2
      obtain ⟨hy',hor,H'⟩:=h3
      have hw' : Vis Ld.m w':=by
        rcases hor with h | h
        · exact h.2.2 hw
        · exact hw.below h
      refine ⟨hor,ih (l.setIfInBounds j true) a' w' (fun k ok hk hki hun hno=>hfree k ok hk hki (keep k hun) hno) (ready_mono hr (Ne.symm hji)) hw' hy' ?_⟩
      rw [Array.setIfInBounds_comm _ _ hji]
      exact H'

theorem St.lone {w : World} {o : OBlk} (h : w.heap[o.b]? = some (.cells o.cs.toArray o.T (0,0))) : St [o.b] w w (fun _=>none) [[o]]:=by
  refine ⟨Kept.refl _ _,vis_none w,?_,?_,by simp⟩
  · intro q hq; simp at hq; subst hq; exact h
  · intro q hq; simp at hq; subst hq; exact ⟨rfl,.inr (by simp)⟩

theorem e_xb {f : Nat} {l : Array Bool} {m : Mem} {O : List Piece} {X : List Nat} {w0 : World} {b : Nat} {cs : List Value} {T : TypeId} (i j : Nat) {o : Oper} {v : Value} (hF : FrD DS a n L) (hS : St X w0 w m O) (hb : b ∈ Ld.b) (ho : getO O j 0 = some ⟨b,cs,T⟩)
    (hi : ops[i]? = some o) (hx : Ex P o L (fun _=>none) [[⟨b,cs,T⟩]] v)
    (hg : o.guard = none) (hd : dok o.dst n = true) (hs : Region.noSelect ops = true) (hf : Region.free .any ops l i = true) (hr : (Region.ready .any ops l).contains i = true)
    (k : ∀ a',FrD DS a' n (putL o.dst v L)→wpE P ops Ld K f (l.setIfInBounds i true) a' w) : wpE P ops Ld K (f + 1) l a w :=
  e_firstB hb hi hs f l a w (Region.free_spec hi hf) (by simpa using hr) (hS.own _ (getO_mem ho)) (.inl ⟨by simp [Region.wanted,hg],fun w' hw'=>hx _ a n _ w' w' hF (St.lone hw')⟩) (k _ (hF.put v hd))

theorem Vis.of_le {m m' : Mem} {w : World} (h : Vis m' w) (hm : Mem.le m m') : Vis m w:=fun b cs hb=>h b cs (hm b cs hb)

theorem e_xm {f : Nat} {l : Array Bool} {m : Mem} {O : List Piece} {X : List Nat} {w0 : World} (i : Nat) {o : Oper} {v : Value} (hF : FrD DS a n L) (hS : St X w0 w m O) (hle : Mem.le Ld.m m)
    (hi : ops[i]? = some o) (hx : Ex P o L Ld.m [] v)
    (hg : o.guard = none) (hd : dok o.dst n = true) (hs : Region.noSelect ops = true) (hf : Region.free .any ops l i = true) (hr : (Region.ready .any ops l).contains i = true)
    (k : ∀ a',FrD DS a' n (putL o.dst v L)→wpE P ops Ld K f (l.setIfInBounds i true) a' w) : wpE P ops Ld K (f + 1) l a w :=
  e_firstM hi hs f l a w (Region.free_spec hi hf) (by simpa using hr) (hS.vis.of_le hle) (.inl ⟨by simp [Region.wanted,hg],fun w' hw'=>hx _ a n _ w' w' hF (St.start w' _ hw')⟩) (k _ (hF.put v hd))

theorem kpN {w w' : World} : Keeps [] w w':=fun _ h=>by cases h

theorem kpC {m m' : Mem} {O O' : List Piece} {X : List Nat} {w0 : World} {w' : World} {b : Nat} {cs : List Value} {T : TypeId} {B : List Nat} (hS : St X w0 w m O) (hS' : St X w0 w' m' O') (j j' : Nat)
    (ho : getO O j 0 = some ⟨b,cs,T⟩) (ho' : getO O' j' 0 = some ⟨b,cs,T⟩) (hk : Keeps B w w') : Keeps (b :: B) w w':=fun c hc=>by
  rcases List.mem_cons.1 hc with rfl | hc
  · rw [hS.own _ (getO_mem ho),hS'.own _ (getO_mem ho')]
  · exact hk c hc

end

structure Sl where
  p : Option Addr
  len : Nat
  cap : Nat

abbrev Sl.v (s : Sl) : Value:=.slice s.p s.len s.cap

class Rep (α : Type) where
  wd : Nat
  rd : Mem→List Value→α→Prop
  mono : ∀ {m m' : Mem} {cs : List Value} {x : α},Mem.le m m'→rd m cs x→rd m' cs x
  len : ∀ {m : Mem} {cs : List Value} {x : α},rd m cs x→cs.length = wd
  one : ∀ {m : Mem} {cs : List Value} {x : α},rd m cs x→cs.all (·.oneCell') = true

class Flat (α : Type) [Rep α] : Prop where
  any : ∀ {m m' : Mem} {cs : List Value} {x : α},Rep.rd m cs x→Rep.rd m' cs x

def slab (cs : List Value) (o k : Nat) : List Value:=(cs.drop o).take k

structure Rd {α : Type} [Rep α] (m : Mem) (s : Sl) (l : List α) : Prop where
  len : l.length = s.len
  cap : s.len ≤ s.cap
  max : s.cap ≤ maxLen
  nil : s.p = none→s.len = 0∧s.cap = 0
  el : ∀ i (h : i < l.length),∃ b off cs,s.p = some ⟨b,off,none⟩∧m b = some cs∧off + (i + 1) * Rep.wd α ≤ cs.length∧Rep.rd m (slab cs (off + i * Rep.wd α) (Rep.wd α)) l[i]

theorem Rd.mono {α : Type} [Rep α] {m m' : Mem} {s : Sl} {l : List α} (h : Rd m s l) (hm : Mem.le m m') : Rd m' s l :=
  ⟨h.len,h.cap,h.max,h.nil,fun i hi=>by
    obtain ⟨b,off,cs,h1,h2,h3,h4⟩:=h.el i hi
    exact ⟨b,off,cs,h1,hm _ _ h2,h3,Rep.mono hm h4⟩⟩

instance : Rep Int where
  wd:=1
  rd _ cs x:=cs = [.int .i64 x]
  mono _ h:=h
  len h:=by subst h; rfl
  one h:=by subst h; rfl

instance : Flat Int:=⟨fun h=>h⟩

structure K (k : IntKind) where
  v : Int

instance (k : IntKind) : Rep (K k) where
  wd:=1
  rd _ cs x:=cs = [.int k x.v]
  mono _ h:=h
  len h:=by subst h; rfl
  one h:=by subst h; rfl

instance (k : IntKind) : Flat (K k):=⟨fun h=>h⟩

instance : Rep Bool where
  wd:=1
  rd _ cs x:=cs = [.bool x]
  mono _ h:=h
  len h:=by subst h; rfl
  one h:=by subst h; rfl

instance : Flat Bool:=⟨fun h=>h⟩

abbrev strV (l : List UInt8) : Value:=.string ⟨l.toArray⟩

instance instRepList {α : Type} [Rep α] : Rep (List α) where
  wd:=1
  rd m cs l:=∃ s : Sl,cs = [s.v]∧Rd m s l
  mono hm h:=by
    obtain ⟨s,h1,h2⟩:=h
    exact ⟨s,h1,h2.mono hm⟩
  len h:=by obtain ⟨s,rfl,_⟩:=h; rfl
  one h:=by obtain ⟨s,rfl,_⟩:=h; rfl

instance (priority:=high) instRepStr : Rep (List UInt8) where
  wd:=1
  rd _ cs l:=cs = [strV l]
  mono _ h:=h
  len h:=by subst h; rfl
  one h:=by subst h; rfl

instance : @Flat (List UInt8) instRepStr:=@Flat.mk _ instRepStr fun h=>h

def memW (w : World) : Mem:=fun b=>match w.heap[b]? with
  | some (.cells c _ _)=>some c.toList
  | _=>none

theorem Vis.memW (w : World) : Vis (memW w) w:=fun b cs h=>by
  unfold Gx.memW at h
  cases hh : w.heap[b]? with
  | none=>simp [hh] at h
  | some o =>
    cases o <;> simp [hh] at h
    case cells c T fz =>
      subst h
      exact ⟨T,fz,by simp⟩

class Rng (α : Type) where
  ok : α→Prop

instance : Rng Int:=⟨fun n=>-9223372036854775808 ≤ n∧n ≤ 9223372036854775807⟩

instance (k : IntKind) : Rng (K k):=⟨fun x=>(Lit.int k x.v).wf = true⟩

instance : Rng Bool:=⟨fun _=>True⟩

instance (priority:=high) instRngStr : Rng (List UInt8):=⟨fun l=>l.length ≤ maxLen⟩

instance {α : Type} [Rng α] : Rng (List α):=⟨fun l=>l.length ≤ maxLen∧∀ x ∈ l,Rng.ok x⟩

def Opn (P : Program) (T : TypeId) (α : Type) [Rep α] [Rng α] : Prop :=
  ∀ {H : Type} (enc : TypeId × Value→H) (w : World) (n : Nat) (cs : List Value) (x : DataW H × List MemPlace),DataW.trod enc P w 0 (fun _=>true) true n T cs = some x →
    ∃ d : α,Rep.rd (memW w) cs d∧Rng.ok d

section

variable {P : Program} {T : TypeId}

theorem opn_K {k : IntKind} (h : P.underlying T = some (.int k)) : Opn P T (K k):=fun enc w n cs x hx=>by
  obtain ⟨i,rfl,_,hw⟩:=DataW.trod_int h hx
  exact ⟨⟨i⟩,rfl,hw⟩

theorem mem_of_cell {w : World} {b o : Nat} {v : Value} (h : w.cell? ⟨b,o,none⟩ = some v) : ∃ c,memW w b = some c∧c[o]? = some v:=by
  unfold World.cell? at h
  unfold memW
  cases hh : w.heap[b]? with
  | none=>simp [hh] at h
  | some x =>
    cases x <;> simp [hh] at h
    case cells c T fz=>exact ⟨c.toList,rfl,by simpa using h⟩

theorem cells_memW {w : World} {a : Addr} {k : Nat} {cs : List Value} (hk : 0 < k) (h : w.cells? 0 a k = some cs) :
    a.spot = none∧∃ c,memW w a.block = some c∧a.off + k ≤ c.length∧slab c a.off k = cs:=by
  obtain ⟨_,hlen,hall⟩:=World.cells?_some h
  obtain ⟨b,off,sp⟩:=a
  have hs : sp = none:=by
    have h0:=hall 0 (by omega)
    have : cs[0]? = some (cs[0]'(by omega)):=by simp
    rw [this] at h0
    have:=World.cell?_spot h0
    simpa [Addr.add] using this
  subst hs
  refine ⟨rfl,?_⟩
  have hc : ∀ i,i < k→w.cell? ⟨b,off + i,none⟩ = cs[i]?:=fun i hi=>by
    have:=hall i hi
    rwa [addr_add] at this
  have h0:=hc 0 hk
  have e0 : cs[0]? = some (cs[0]'(by omega)):=by simp
  rw [e0] at h0
  obtain ⟨c,hm,_⟩:=mem_of_cell h0
  have hci : ∀ i,i < k→c[off + i]? = cs[i]?:=fun i hi=>by
    have h1:=hc i hi
    have e1 : cs[i]? = some (cs[i]'(by omega)):=by simp
    rw [e1] at h1
    obtain ⟨c',hm',h2⟩:=mem_of_cell h1
    have : memW w b = some c:=hm
    rw [this] at hm'
    simp at hm'
    subst hm'
    rw [h2,e1]
  have hle : off + k ≤ c.length:=by
    have h1:=hci (k - 1) (by omega)
    have e1 : cs[k - 1]? = some (cs[k - 1]'(by omega)):=by simp
    rw [e1] at h1
    have:=(List.getElem?_eq_some_iff.1 h1).1
    omega
  refine ⟨c,hm,hle,?_⟩
  apply List.ext_getElem?
  intro i
  unfold slab
  by_cases hi : i < k
  · rw [List.getElem?_take_of_lt hi,List.getElem?_drop]
    exact hci i hi
  · rw [List.getElem?_eq_none (by simp; omega),List.getElem?_eq_none (by omega)]

theorem opn_slice {α : Type} [Rep α] [Rng α] {E : TypeId} (h : P.underlying T = some (.slice E)) (hE : Opn P E α) (hw : Rep.wd α = P.cellsOf E) (hp : 0 < Rep.wd α) {H : Type} (enc : TypeId × Value→H) (w : World) (n : Nat)
    (cs : List Value) (x : DataW H × List MemPlace) (hx : DataW.trod enc P w 0 (fun _=>true) true n T cs = some x) :
    ∃ (s : Sl) (l : List α),cs = [s.v]∧Rd (memW w) s l∧Rng.ok l:=by
  rcases DataW.trod_slice h hx with ⟨rfl,_⟩ | ⟨a,len,cap,elems,rest,k,_,rfl,_,_,hl,hm,hlen,hel,_,_⟩
  · exact ⟨⟨none,0,0⟩,[],rfl,⟨rfl,Nat.le_refl _,by simp [maxLen],fun _=>⟨rfl,rfl⟩,fun i hi=>by simp at hi⟩,by simp [Rng.ok]⟩
  · have each : ∀ i,i < len→∃ d : α,(∃ c,memW w a.block = some c∧a.spot = none∧a.off + (i + 1) * Rep.wd α ≤ c.length∧Rep.rd (memW w) (slab c (a.off + i * Rep.wd α) (Rep.wd α)) d)∧Rng.ok d:=by
      intro i hi
      have h1:=hel i hi
      rw [show elems[i]? = some (elems[i]'(by omega)) by simp] at h1
      obtain ⟨ds,h2,h3⟩:=Option.bind_eq_some_iff.1 h1
      obtain ⟨d,hd,ho⟩:=hE enc w k ds _ h3
      obtain ⟨hsp,c,hm',hle,hsl⟩:=cells_memW (by omega) h2
      obtain ⟨b,off,sp⟩:=a
      have hsp' : sp = none:=by
        unfold Addr.add at hsp
        by_cases hz : i * P.cellsOf E = 0
        · simpa [hz] using hsp
        · -- the element before it,or the row's own head
          by_cases hi0 : i = 0
          · subst hi0; simp at hz
          · have h1':=hel 0 (by omega)
            rw [show elems[0]? = some (elems[0]'(by omega)) by simp] at h1'
            obtain ⟨ds',h2',_⟩:=Option.bind_eq_some_iff.1 h1'
            obtain ⟨hsp'',_⟩:=cells_memW (by omega) h2'
            simpa [Addr.add] using hsp''
      subst hsp'
      rw [addr_add] at hm' hle hsl
      refine ⟨d,⟨c,hm',rfl,?_,?_⟩,ho⟩
      · rw [hw,Nat.add_mul,Nat.one_mul,← Nat.add_assoc]
        exact hle
      · rw [hw]
        simp only at hsl
        rw [hsl]
        exact hd
    let l : List α:=(List.range len).attach.map fun i=>(each i.1 (List.mem_range.1 i.2)).choose
    have hll : l.length = len:=by simp [l]
    refine ⟨⟨some a,len,cap⟩,l,rfl,⟨by simp [hll],hl,hm,fun h=>(by simp at h),fun i hi=>?_⟩,?_,?_⟩
    · have hi' : i < len:=by rw [hll] at hi; exact hi
      have hsp:=(each i hi').choose_spec.1
      obtain ⟨c,h1,h2,h3,h4⟩:=hsp
      obtain ⟨b,off,sp⟩:=a
      simp at h2
      subst h2
      refine ⟨b,off,c,rfl,h1,h3,?_⟩
      simpa [l] using h4
    · show l.length ≤ maxLen
      omega
    · intro y hy
      simp only [l,List.mem_map,List.mem_attach,true_and] at hy
      obtain ⟨⟨i,hi⟩,rfl⟩:=hy
      exact (each i (List.mem_range.1 hi)).choose_spec.2

theorem opn_list {α : Type} [Rep α] [Rng α] {E : TypeId} (h : P.underlying T = some (.slice E)) (hE : Opn P E α) (hw : Rep.wd α = P.cellsOf E) (hp : 0 < Rep.wd α) : @Opn P T (List α) instRepList _:=fun enc w n cs x hx=>by
  obtain ⟨s,l,h1,h2,h3⟩:=opn_slice h hE hw hp enc w n cs x hx
  exact ⟨l,⟨s,h1,h2⟩,h3⟩

def slabsFrom (cs : List Value) : Nat→List Nat→List Value
  | _,[]=>[]
  | o,k :: ks=>slab cs o k ++ slabsFrom cs (o + k) ks

end

abbrev nilS : Sl:=⟨none,0,0⟩

def elP (s : Sl) (k : Nat) : Value:=.pointer (s.p.map fun a=>⟨a.block,a.off + k,none⟩)

structure MLe (X : List Nat) (n : Nat) (m m' : Mem) : Prop where
  le : Mem.le m m'
  new : ∀ b cs,m' b = some cs→m b = some cs ∨ n ≤ b ∨ b ∈ X

theorem MLe.refl {X : List Nat} (n : Nat) (m : Mem) : MLe X n m m:=⟨Mem.le.refl m,fun _ _ h=>.inl h⟩

theorem MLe.trans {X : List Nat} {n : Nat} {m1 m2 m3 : Mem} (h : MLe X n m1 m2) (k : MLe X n m2 m3) : MLe X n m1 m3 :=
  ⟨h.le.trans k.le,fun b cs hb=>(k.new b cs hb).elim (fun h'=>h.new b cs h') .inr⟩

structure Vw {α : Type} [Rep α] (m : Mem) (w : World) (s : Sl) (l : List α) : Prop where
  len : l.length = s.len
  cap : s.len ≤ s.cap
  max : s.cap ≤ maxLen
  nil : s.p = none→s.len = 0∧s.cap = 0
  el : ∀ i (h : i < l.length),∃ b off cs T fz,s.p = some ⟨b,off,none⟩∧w.heap[b]? = some (.cells cs T fz)∧off + (i + 1) * Rep.wd α ≤ cs.size ∧
    Rep.rd m (slab cs.toList (off + i * Rep.wd α) (Rep.wd α)) l[i]

theorem Rd.vw {α : Type} [Rep α] {m : Mem} {w : World} {s : Sl} {l : List α} (h : Rd m s l) (hv : Vis m w) : Vw m w s l :=
  ⟨h.len,h.cap,h.max,h.nil,fun i hi=>by
    obtain ⟨b,off,cs,h1,h2,h3,h4⟩:=h.el i hi
    obtain ⟨T,fz,hh⟩:=hv b cs h2
    exact ⟨b,off,cs.toArray,T,fz,h1,hh,by simpa using h3,by simpa using h4⟩⟩

structure OwnL {α : Type} [Rep α] (m : Mem) (T : TypeId) (q : Piece) (s : Sl) (l : List α) : Prop where
  len : l.length = s.len
  cap : s.len ≤ s.cap
  max : s.cap ≤ maxLen
  blk : (q = []∧s.p = none∧s.cap = 0) ∨ ∃ b cs,q = [⟨b,cs,T⟩]∧s.p = some ⟨b,0,none⟩∧cs.length = s.cap * Rep.wd α ∧
    ∀ i (h : i < l.length),Rep.rd m (slab cs (i * Rep.wd α) (Rep.wd α)) l[i]

section

variable {α : Type} [Rep α] {m m' : Mem} {T : TypeId} {q : Piece} {s : Sl} {l : List α} {X : List Nat} {w0 w w' : World} {O : List Piece}

theorem OwnL.mono (h : OwnL m T q s l) (hm : Mem.le m m') : OwnL m' T q s l :=
  ⟨h.len,h.cap,h.max,h.blk.imp id fun ⟨b,cs,h1,h2,h3,h4⟩=>⟨b,cs,h1,h2,h3,fun i hi=>Rep.mono hm (h4 i hi)⟩⟩

theorem OwnL.nil (m : Mem) (T : TypeId) : OwnL (α:=α) m T [] nilS [] :=
  ⟨rfl,Nat.le_refl _,Nat.zero_le _,.inl ⟨rfl,rfl,rfl⟩⟩

theorem Rd.nil0 (m : Mem) : Rd (α:=α) m nilS [] :=
  ⟨rfl,Nat.le_refl _,Nat.zero_le _,fun _=>⟨rfl,rfl⟩,fun i hi=>by simp at hi⟩

theorem OwnL.vw' (h : OwnL m T q s l) (hq : ∀ o ∈ q,∃ fz,w.heap[o.b]? = some (.cells o.cs.toArray o.T fz)) : Vw m w s l:=by
  refine ⟨h.len,h.cap,h.max,fun hp=>?_,fun i hi=>?_⟩
  · rcases h.blk with ⟨_,_,h3⟩ | ⟨b,cs,_,h2,_⟩
    · have:=h.cap; omega
    · rw [hp] at h2; cases h2
  · rcases h.blk with ⟨_,_,h3⟩ | ⟨b,cs,h1,h2,h3,h4⟩
    · have h5:=h.cap; have h6:=h.len; omega
    · subst h1
      obtain ⟨fz,hh⟩:=hq _ (List.mem_singleton.2 rfl)
      refine ⟨b,0,cs.toArray,T,fz,h2,hh,?_,by simpa using h4 i hi⟩
      have h5:=h.cap; have h6:=h.len
      simp only [Nat.zero_add,List.size_toArray]
      rw [h3]
      exact Nat.mul_le_mul_right _ (by omega)

theorem OwnL.vw (h : OwnL m T q s l) (hS : St X w0 w m O) {j : Nat} (hj : O[j]? = some q) : Vw m w s l :=
  h.vw' fun o ho=>⟨(0,0),hS.own o (List.mem_flatten.2 ⟨q,List.mem_of_getElem? hj,ho⟩)⟩

theorem OwnL.froz (h : OwnL m T q s l) (hm : Mem.le m m') (hq : ∀ o ∈ q,m' o.b = some o.cs) : Rd m' s l:=by
  refine ⟨h.len,h.cap,h.max,fun hp=>?_,fun i hi=>?_⟩
  · rcases h.blk with ⟨_,_,h3⟩ | ⟨b,cs,_,h2,_⟩
    · have:=h.cap; omega
    · rw [hp] at h2; cases h2
  · rcases h.blk with ⟨_,_,h3⟩ | ⟨b,cs,h1,h2,h3,h4⟩
    · have h5:=h.cap; have h6:=h.len; omega
    · subst h1
      refine ⟨b,0,cs,h2,hq _ (List.mem_singleton.2 rfl),?_,Rep.mono hm (by simpa using h4 i hi)⟩
      have h5:=h.cap; have h6:=h.len
      rw [Nat.zero_add,h3]
      exact Nat.mul_le_mul_right _ (by omega)

def memO (m : Mem) (q : Piece) : Mem:=fun b=>match q.find? (·.b == b) with
  | some o=>some o.cs
  | none=>m b

theorem memO_in {m : Mem} {q : Piece} (hn : (q.map (·.b)).Nodup) {o : OBlk} (ho : o ∈ q) : memO m q o.b = some o.cs:=by
  unfold memO
  cases hf : q.find? (·.b == o.b) with
  | none =>
    have:=List.find?_eq_none.1 hf o ho
    simp at this
  | some p =>
    have hp:=List.mem_of_find?_eq_some hf
    have hb:=List.find?_some hf
    simp only [beq_iff_eq] at hb
    have:=nodup_inj hn hp ho hb
    subst this
    rfl

theorem memO_le {m : Mem} {q : Piece} (hq : ∀ o ∈ q,m o.b = none) : Mem.le m (memO m q):=fun b cs hb=>by
  unfold memO
  cases hf : q.find? (·.b == b) with
  | none=>exact hb
  | some p =>
    have hp:=List.mem_of_find?_eq_some hf
    have hbb:=List.find?_some hf
    simp only [beq_iff_eq] at hbb
    have:=hq p hp
    rw [hbb,hb] at this
    cases this

theorem St.lend (h : St X w0 w m O) : ∃ m',Mem.le m m'∧Vis m' w∧∀ (j : Nat) (q : Piece),O[j]? = some q→∀ o ∈ q,m' o.b = some o.cs:=by
  refine ⟨memO m O.flatten,memO_le fun o ho=>(h.free o ho).1,fun b cs hb=>?_,fun j q hj o ho=>memO_in h.nodup (List.mem_flatten.2 ⟨q,List.mem_of_getElem? hj,ho⟩)⟩
  unfold memO at hb
  cases hf : O.flatten.find? (·.b == b) with
  | none=>rw [hf] at hb; exact h.vis b cs hb
  | some p =>
    rw [hf] at hb
    simp only [Option.some.injEq] at hb
    have hp:=List.mem_of_find?_eq_some hf
    have hbb:=List.find?_some hf
    simp only [beq_iff_eq] at hbb
    subst hb hbb
    exact ⟨p.T,(0,0),h.own p hp⟩

theorem St.freeze {q : Piece} (h : St X w0 w m (q :: O)) : ∃ m',MLe X w0.heap.size m m'∧St X w0 w m' O∧∀ o ∈ q,m' o.b = some o.cs:=by
  have hq : ∀ o ∈ q,o ∈ (q :: O).flatten:=fun o ho=>by simp [ho]
  have hO : ∀ o ∈ O.flatten,o ∈ (q :: O).flatten:=fun o ho=>by simp only [List.flatten_cons,List.mem_append]; exact .inr ho
  have hnd:=h.nodup
  simp only [List.flatten_cons,List.map_append] at hnd
  rw [List.nodup_append] at hnd
  obtain ⟨hnq,hnO,hdis⟩:=hnd
  refine ⟨memO m q,⟨memO_le fun o ho=>(h.free o (hq o ho)).1,fun b cs hb=>?_⟩,⟨h.kept,fun b cs hb=>?_,fun o ho=>h.own o (hO o ho),fun o ho=>?_,hnO⟩,fun o ho=>memO_in hnq ho⟩
  · unfold memO at hb
    cases hf : q.find? (·.b == b) with
    | none=>rw [hf] at hb; exact .inl hb
    | some p =>
      have hp:=List.mem_of_find?_eq_some hf
      have hbb:=List.find?_some hf
      simp only [beq_iff_eq] at hbb
      subst hbb
      exact .inr (h.free p (hq p hp)).2
  · unfold memO at hb
    cases hf : q.find? (·.b == b) with
    | none=>rw [hf] at hb; exact h.vis b cs hb
    | some p =>
      rw [hf] at hb
      simp only [Option.some.injEq] at hb
      have hp:=List.mem_of_find?_eq_some hf
      have hbb:=List.find?_some hf
      simp only [beq_iff_eq] at hbb
      subst hb hbb
      exact ⟨p.T,(0,0),h.own p (hq p hp)⟩
  · obtain ⟨h1,h2⟩:=h.free o (hO o ho)
    refine ⟨?_,h2⟩
    unfold memO
    cases hf : q.find? (·.b == o.b) with
    | none=>exact h1
    | some p =>
      have hp:=List.mem_of_find?_eq_some hf
      have hbb:=List.find?_some hf
      simp only [beq_iff_eq] at hbb
      exact absurd hbb (hdis _ (List.mem_map.2 ⟨p,hp,rfl⟩) _ (List.mem_map.2 ⟨o,ho,rfl⟩))

theorem St.regrow {q q' : Piece} {ob : Option Nat} (h : St X w0 w m (q :: O)) (hg : w.grownBy w' ob) (hob : ∀ k,ob = some k→∃ o ∈ q,o.b = k)
    (hq' : ∀ o ∈ q',w'.heap[o.b]? = some (.cells o.cs.toArray o.T (0,0))∧((∃ p ∈ q,p.b = o.b) ∨ w.heap.size ≤ o.b)) (hn : (q'.map (·.b)).Nodup) : St X w0 w' m (q' :: O):=by
  have hq : ∀ o ∈ q,o ∈ (q :: O).flatten:=fun o ho=>by simp [ho]
  have hO : ∀ o ∈ O.flatten,o ∈ (q :: O).flatten:=fun o ho=>by simp only [List.flatten_cons,List.mem_append]; exact .inr ho
  have hnd:=h.nodup
  simp only [List.flatten_cons,List.map_append] at hnd
  rw [List.nodup_append] at hnd
  obtain ⟨hnq,hnO,hdis⟩:=hnd
  have hlt : ∀ o ∈ (q :: O).flatten,o.b < w.heap.size:=fun o ho=>lt_of_heap (h.own o ho)
  have keep : ∀ k,k < w.heap.size→(∀ o ∈ q,o.b ≠ k)→w'.heap[k]? = w.heap[k]?:=fun k hk hne=>hg.block k hk fun e=>by
    obtain ⟨o,ho,hb⟩:=hob k e.symm
    exact hne o ho hb
  have apart : ∀ o ∈ q',∀ p ∈ O.flatten,o.b ≠ p.b:=fun o ho p hp=>by
    rcases (hq' o ho).2 with ⟨r,hr,hrb⟩ | hge
    · rw [← hrb]
      exact hdis _ (List.mem_map.2 ⟨r,hr,rfl⟩) _ (List.mem_map.2 ⟨p,hp,rfl⟩)
    · have:=hlt p (hO p hp)
      omega
  have notm : ∀ k cs,m k = some cs→k < w.heap.size∧∀ o ∈ q,o.b ≠ k:=fun k cs hk=>by
    obtain ⟨T',fz,hh⟩:=h.vis k cs hk
    refine ⟨lt_of_heap hh,fun o ho e=>?_⟩
    have:=(h.free o (hq o ho)).1
    rw [e,hk] at this
    cases this
  refine ⟨⟨hg.os.trans h.kept.os,hg.tape.trans h.kept.tape,hg.output.trans h.kept.output,Nat.le_trans h.kept.size hg.size,fun k hk hx=>?_⟩,fun b cs hb=>?_,fun o ho=>?_,fun o ho=>?_,?_⟩
  · rw [keep k (Nat.lt_of_lt_of_le hk h.kept.size) fun o ho e=>?_]
    · exact h.kept.block k hk hx
    · rcases (h.free o (hq o ho)).2 with h1 | h1
      · omega
      · rw [e] at h1; exact hx h1
  · obtain ⟨T',fz,hh⟩:=h.vis b cs hb
    obtain ⟨h1,h2⟩:=notm b cs hb
    exact ⟨T',fz,by rw [keep b h1 h2]; exact hh⟩
  · simp only [List.flatten_cons,List.mem_append] at ho
    rcases ho with ho | ho
    · exact (hq' o ho).1
    · rw [keep o.b (hlt o (hO o ho)) fun p hp=>hdis _ (List.mem_map.2 ⟨p,hp,rfl⟩) _ (List.mem_map.2 ⟨o,ho,rfl⟩)]
      exact h.own o (hO o ho)
  · simp only [List.flatten_cons,List.mem_append] at ho
    rcases ho with ho | ho
    · rcases (hq' o ho).2 with ⟨r,hr,hrb⟩ | hge
      · rw [← hrb]; exact h.free r (hq r hr)
      · refine ⟨?_,.inl (Nat.le_trans h.kept.size hge)⟩
        cases hm : m o.b with
        | none=>rfl
        | some c =>
          have:=(notm _ _ hm).1
          omega
    · exact h.free o (hO o ho)
  · simp only [List.flatten_cons,List.map_append]
    rw [List.nodup_append]
    refine ⟨hn,hnO,fun x hx y hy=>?_⟩
    obtain ⟨o,ho,rfl⟩:=List.mem_map.1 hx
    obtain ⟨p,hp,rfl⟩:=List.mem_map.1 hy
    exact apart o ho p hp

end

def goAt {α : Type} (l : List α) (i : Int) : Option α:=cond (decide (0 ≤ i)) l[i.toNat]? none

abbrev goSet {α : Type} (l : List α) (i : Int) (x : α) : List α:=l.set i.toNat x

def goMake {α : Type} (bytes : Nat) (n : Int) (z : α) : Option (List α):=cond (decide (0 ≤ n) && decide ((bytes : Int) * n ≤ 281474976710656) && decide (n ≤ 9223372036854775807)) (some (List.replicate n.toNat z)) none

def goApp {α : Type} (bytes : Nat) (l x : List α) : Option (List α):=cond (decide ((l.length + x.length) * bytes ≤ 140737488355328)) (some (l ++ x)) none

def goSub {α : Type} (l : List α) (i j : Int) : Option (List α):=cond (decide (0 ≤ i) && decide (i ≤ j) && decide (j ≤ (l.length : Int))) (some ((l.drop i.toNat).take (j.toNat - i.toNat))) none

abbrev goLen {α : Type} (l : List α) : Int:=(l.length : Int)

theorem goAt_some {α : Type} {l : List α} {i : Int} {x : α} (h : goAt l i = some x) : 0 ≤ i∧l[i.toNat]? = some x:=by
  unfold goAt at h
  cases hb : decide (0 ≤ i) with
  | false=>rw [hb] at h; cases h
  | true=>rw [hb] at h; exact ⟨by simpa using hb,h⟩

structure Idx (s : Sl) (i : Int) : Prop where
  nn : 0 ≤ i
  lt : i.toNat < s.len
  spot : ∃ b off,s.p = some ⟨b,off,none⟩

section

variable {α : Type} [Rep α] {m m' : Mem} {T : TypeId} {q : Piece} {s : Sl} {l : List α} {X : List Nat} {w0 w w' : World} {O : List Piece} {i : Int} {x : α}

theorem Vw.idx (h : Vw m w s l) (hx : goAt l i = some x) : Idx s i:=by
  obtain ⟨h1,h2⟩:=goAt_some hx
  have hlt:=(List.getElem?_eq_some_iff.1 h2).1
  obtain ⟨b,off,_,_,_,hp,_⟩:=h.el _ hlt
  exact ⟨h1,by rw [← h.len]; exact hlt,b,off,hp⟩

theorem Rd.idx (h : Rd m s l) (hx : goAt l i = some x) : Idx s i:=by
  obtain ⟨h1,h2⟩:=goAt_some hx
  have hlt:=(List.getElem?_eq_some_iff.1 h2).1
  obtain ⟨b,off,_,hp,_⟩:=h.el _ hlt
  exact ⟨h1,by rw [← h.len]; exact hlt,b,off,hp⟩

theorem OwnL.idx (h : OwnL m T q s l) (hx : goAt l i = some x) : Idx s i:=by
  obtain ⟨h1,h2⟩:=goAt_some hx
  have hlt:=(List.getElem?_eq_some_iff.1 h2).1
  refine ⟨h1,by rw [← h.len]; exact hlt,?_⟩
  rcases h.blk with ⟨_,_,h3⟩ | ⟨b,_,_,hp,_⟩
  · have h5:=h.cap; have h6:=h.len; omega
  · exact ⟨b,0,hp⟩

def AtM (m : Mem) (O : List Piece) (s : Sl) (k : Nat) (vs : List Value) : Prop:=∀ (X : List Nat) (w0 w : World),St X w0 w m O →
  ∃ b off cs T fz,s.p = some ⟨b,off,none⟩∧w.heap[b]? = some (.cells cs T fz)∧off + k + vs.length ≤ cs.size∧slab cs.toList (off + k) vs.length = vs

def AtR (m : Mem) (s : Sl) (k : Nat) (vs : List Value) : Prop:=∃ b off cs,s.p = some ⟨b,off,none⟩∧m b = some cs∧off + k + vs.length ≤ cs.length∧slab cs (off + k) vs.length = vs

def AtO (q : Piece) (T : TypeId) (s : Sl) (k : Nat) (vs : List Value) : Prop:=∃ b cs,q = [⟨b,cs,T⟩]∧s.p = some ⟨b,0,none⟩∧k + vs.length ≤ cs.length∧slab cs k vs.length = vs

theorem AtR.mono {k : Nat} {vs : List Value} (h : AtR m s k vs) (hm : Mem.le m m') : AtR m' s k vs:=by
  obtain ⟨b,off,cs,h1,h2,h3,h4⟩:=h
  exact ⟨b,off,cs,h1,hm _ _ h2,h3,h4⟩

theorem AtR.at {k : Nat} {vs : List Value} (h : AtR m s k vs) : AtM m O s k vs:=fun X w0 w hS=>by
  obtain ⟨b,off,cs,h1,h2,h3,h4⟩:=h
  obtain ⟨T,fz,hh⟩:=hS.vis b cs h2
  exact ⟨b,off,cs.toArray,T,fz,h1,hh,by simpa using h3,by simpa using h4⟩

theorem AtO.at {k : Nat} {vs : List Value} (h : AtO q T s k vs) (j : Nat) (hj : O[j]? = some q) : AtM m O s k vs:=fun X w0 w hS=>by
  obtain ⟨b,cs,rfl,h2,h3,h4⟩:=h
  have hh:=hS.own ⟨b,cs,T⟩ (List.mem_flatten.2 ⟨_,List.mem_of_getElem? hj,List.mem_singleton.2 rfl⟩)
  exact ⟨b,0,cs.toArray,T,(0,0),h2,hh,by simpa using h3,by simpa using h4⟩

theorem Rd.at (h : Rd m s l) (hx : goAt l i = some x) (n : Nat) (hn : Rep.wd α = n) : ∃ vs,AtR m s (i.toNat * n) vs∧Rep.rd m vs x:=by
  subst hn
  obtain ⟨h1,h2⟩:=goAt_some hx
  obtain ⟨hlt,he⟩:=List.getElem?_eq_some_iff.1 h2
  obtain ⟨b,off,cs,hp,hm,hle,hrd⟩:=h.el _ hlt
  rw [he] at hrd
  have hl:=Rep.len hrd
  refine ⟨_,⟨b,off,cs,hp,hm,?_,?_⟩,hrd⟩
  · rw [hl,Nat.add_assoc,← Nat.succ_mul]; simpa using hle
  · rw [hl]

theorem OwnL.at (h : OwnL m T q s l) (hx : goAt l i = some x) (n : Nat) (hn : Rep.wd α = n) : ∃ vs,AtO q T s (i.toNat * n) vs∧Rep.rd m vs x:=by
  subst hn
  obtain ⟨h1,h2⟩:=goAt_some hx
  obtain ⟨hlt,he⟩:=List.getElem?_eq_some_iff.1 h2
  rcases h.blk with ⟨_,_,h3⟩ | ⟨b,cs,hq,hp,hc,hall⟩
  · have h5:=h.cap; have h6:=h.len; omega
  · have hrd:=hall _ hlt
    rw [he] at hrd
    have hl:=Rep.len hrd
    refine ⟨_,⟨b,cs,hq,hp,?_,?_⟩,hrd⟩
    · rw [hl,← Nat.succ_mul]
      rw [hc]
      have h5:=h.cap; have h6:=h.len
      exact Nat.mul_le_mul_right _ (by omega)
    · rw [hl]

structure SubOk (s : Sl) (i j : Int) : Prop where
  nn : 0 ≤ i
  ij : i ≤ j
  jl : j ≤ (s.len : Int)
  cap : s.len ≤ s.cap

theorem Rd.jlen (h : Rd m s l) : goLen l = (s.len : Int):=by rw [goLen,h.len]

theorem OwnL.jlen (h : OwnL m T q s l) : goLen l = (s.len : Int):=by rw [goLen,h.len]

theorem OwnL.any [Flat α] (h : OwnL m T q s l) (m' : Mem) : OwnL m' T q s l :=
  ⟨h.len,h.cap,h.max,h.blk.imp id fun ⟨b,cs,h1,h2,h3,h4⟩=>⟨b,cs,h1,h2,h3,fun i hi=>Flat.any (h4 i hi)⟩⟩

theorem OwnL.view (h : OwnL m T q s l) (hS : St X w0 w m O) (j : Nat) (hj : O[j]? = some q) : Rd (memO m q) s l :=
  h.froz (memO_le fun o ho=>(hS.free o (List.mem_flatten.2 ⟨q,List.mem_of_getElem? hj,ho⟩)).1) fun o ho=>by
    have hn:=hS.nodup
    have hsub : q.Sublist O.flatten:=List.sublist_flatten_of_mem (List.mem_of_getElem? hj)
    exact memO_in ((hsub.map _).nodup hn) ho

end

section

variable {P : Program} {L : List (Nat × Value)} {m : Mem} {O : List Piece} {d : Option Tmp} {ty : TypeId} {p : String} {af : Array Edge} {g : Option (Nat × Bool)} {x y : Operand}

theorem ex_len {t E : TypeId} {s : Sl} {α : Type} {l : List α} (hu : P.underlying t = some (.slice E)) (hx : evo L x = some s.v) (hl : l.length = s.len) :
    Ex P ⟨d,.call { callee:=.builtin .len,args:=#[x],argTypes:=#[t] },ty,p,af,g⟩ L m O (.int .i64 (goLen l)):=fun _ a n X w0 w hF _=>by
  simp [execOp,resolve,invoke,builtin,Builtin.len_,hF.eval hx,run_underlying hu,Sl.v,goInt,goLen,hl]

theorem ex_indexAddr {t E : TypeId} {s : Sl} {n : Nat} {k : IntKind} {i : Int} (hu : P.underlying t = some (.slice E)) (hz : szOf P E = some n) (hx : evo L x = some s.v) (hy : evo L y = some (.int k i)) (h : Idx s i) :
    Ex P ⟨d,.indexAddr t x y,ty,p,af,g⟩ L m O (elP s (i.toNat * n)):=fun _ a n' X w0 w hF _=>by
  obtain ⟨h1,h2,b,off,hp⟩:=h
  have h3 : i < (s.len : Int):=by omega
  simp [execOp,Instr.indexAt,hF.eval hx,hF.eval hy,asIntOf,run_underlying hu,Sl.v,hp,h1,h3,run_sizeOf hz,elP,addr_add]

theorem ex_loadE1 {t : TypeId} {td : TypeDesc} {s : Sl} {k k' : Nat} {v : Value} {vs : List Value} (o : Nat) (hu : P.underlying t = some td) (ha : aggD td = false) (hx : evo L x = some (elP s k')) (h : AtM m O s k vs) (hk : k' = k + o) (hv : vs[o]? = some v) :
    Ex P ⟨d,.load t x,ty,p,af,g⟩ L m O v:=fun _ a n X w0 w hF hS=>by
  obtain ⟨b,off,cs,T,fz,hp,hh,hle,hsl⟩:=h X w0 w hS
  have e : elP s k' = .pointer (some ⟨b,off + k',none⟩):=by simp [elP,hp]
  have hlt:=(List.getElem?_eq_some_iff.1 hv).1
  have hc : w.cell? ⟨b,off + k',none⟩ = some v:=by
    simp only [World.cell?,hh]
    rw [← hsl] at hv
    unfold slab at hv
    rw [List.getElem?_take_of_lt (by simpa using hlt),List.getElem?_drop] at hv
    rw [hk,← Nat.add_assoc]
    simpa using hv
  simp [execOp,hF.eval hx,e,Instr.loadAt,Instr.sureAddr,loadVar,run_isAgg hu,ha,hc]

theorem ex_loadEA {t : TypeId} {td : TypeDesc} {s : Sl} {k k' n : Nat} {vs us : List Value} (o : Nat) (hu : P.underlying t = some td) (ha : aggD td = true) (hz : szOf P t = some n) (hx : evo L x = some (elP s k')) (h : AtM m O s k vs) (hk : k' = k + o)
    (hn : Nat.ble (o + n) vs.length = true) (hv : slab vs o n = us) : Ex P ⟨d,.load t x,ty,p,af,g⟩ L m O (.agg us.toArray):=fun _ a n' X w0 w hF hS=>by
  obtain ⟨b,off,cs,T,fz,hp,hh,hle,hsl⟩:=h X w0 w hS
  have e : elP s k' = .pointer (some ⟨b,off + k',none⟩):=by simp [elP,hp]
  have hn':=Nat.le_of_ble_eq_true hn
  have h1 : off + k' + n ≤ cs.toList.length:=by rw [Array.length_toList]; omega
  have h2:=run_load_cells (P:=P) (w:=w) (b:=b) (off:=off + k') (n:=n) (cs:=cs.toList) (T:=T) (fz:=fz) (by simpa using hh) h1
  have h3 : (cs.toList.drop (off + k')).take n = us:=by
    rw [← hv,← hsl]
    unfold slab
    rw [List.drop_take,List.take_take,Nat.min_eq_left (by omega),List.drop_drop,hk,Nat.add_assoc]
  rw [h3] at h2
  simp [execOp,hF.eval hx,e,Instr.loadAt,Instr.sureAddr,loadVar,run_isAgg hu,ha,run_sizeOf hz,h2]

def subS (s : Sl) (n lo hi mx : Nat) : Sl:=⟨if mx = lo then s.p else s.p.map (·.add (lo * n)),hi - lo,mx - lo⟩

theorem goSub_some {α : Type} {l r : List α} {i j : Int} (h : goSub l i j = some r) : 0 ≤ i∧i ≤ j∧j ≤ (l.length : Int)∧r = (l.drop i.toNat).take (j.toNat - i.toNat):=by
  unfold goSub at h
  cases hb : (decide (0 ≤ i) && decide (i ≤ j) && decide (j ≤ (l.length : Int))) with
  | false=>rw [hb] at h; cases h
  | true =>
    rw [hb] at h
    simp only [Bool.and_eq_true,decide_eq_true_eq] at hb
    exact ⟨hb.1.1,hb.1.2,hb.2,(Option.some.inj h).symm⟩

end

section

variable {α : Type} [Rep α] {m : Mem} {T : TypeId} {q : Piece} {s : Sl} {l r : List α} {i j : Int}

theorem Rd.sub (h : Rd m s l) (hr : goSub l i j = some r) {n : Nat} (hn : Rep.wd α = n) {mx : Nat} (h1 : j.toNat ≤ mx) (h2 : mx ≤ s.cap) : Rd m (subS s n i.toNat j.toNat mx) r:=by
  subst hn
  obtain ⟨hi,hij,hj,rfl⟩:=goSub_some hr
  have hl:=h.len
  have hc:=h.cap
  have hx:=h.max
  refine ⟨?_,?_,?_,?_,?_⟩
  · simp [subS]; omega
  · simp only [subS]; omega
  · simp only [subS]; omega
  · intro hp
    have hp' : s.p = none:=by
      simp only [subS] at hp
      split at hp
      · exact hp
      · simpa using hp
    have:=h.nil hp'
    simp only [subS]; omega
  · intro k hk
    simp at hk
    obtain ⟨b,off,cs,e1,e2,e3,e4⟩:=h.el (i.toNat + k) (by omega)
    refine ⟨b,off + i.toNat * Rep.wd α,cs,?_,e2,?_,?_⟩
    · simp only [subS]
      rw [if_neg (by omega),e1]
      simp [addr_add]
    · rw [Nat.add_assoc,← Nat.add_mul]; exact e3
    · rw [Nat.add_assoc,← Nat.add_mul]
      simpa [List.getElem_take,List.getElem_drop] using e4

theorem Rd.subok (h : Rd m s l) (hr : goSub l i j = some r) : SubOk s i j:=by
  obtain ⟨hi,hij,hj,rfl⟩:=goSub_some hr
  exact ⟨hi,hij,by rw [← h.len]; exact hj,h.cap⟩

theorem OwnL.subok (h : OwnL m T q s l) (hr : goSub l i j = some r) : SubOk s i j:=by
  obtain ⟨hi,hij,hj,rfl⟩:=goSub_some hr
  exact ⟨hi,hij,by rw [← h.len]; exact hj,h.cap⟩

theorem Rd.sub' (h : Rd m s l) (hr : goSub l i j = some r) (n : Nat) (hn : Rep.wd α = n) : Rd m (subS s n i.toNat j.toNat s.cap) r:=by
  obtain ⟨hi,hij,hj,e⟩:=goSub_some hr
  have:=h.cap
  have:=h.len
  exact h.sub hr hn (by omega) (Nat.le_refl _)

end

section

variable {P : Program} {L : List (Nat × Value)} {m : Mem} {O : List Piece} {d : Option Tmp} {ty : TypeId} {p : String} {af : Array Edge} {g : Option (Nat × Bool)} {x lo hi mx : Operand}

theorem run_slice_gen {w : World} {t E : TypeId} {s : Sl} {n : Nat} {lo hi mx : Option Value} {a b c : Nat} (hu : P.underlying t = some (.slice E)) (hz : szOf P E = some n)
    (hb : (Instr.sliceBounds true s.len s.cap lo hi mx).run P w = .ok (a,b,c) w) : (Instr.sliceAt t s.v lo hi mx).run P w = .ok (subS s n a b c).v w:=by
  have hE : P.elem t = E:=by simp [Program.elem,hu]
  have hu' : P.underlying t = some (.slice (P.elem t)):=by rw [hE]; exact hu
  rw [run_sliceAt_slice w t _ _ _ _ hu']
  rw [run_slice_any w t s.p s.len s.cap hu',hb]
  simp only [Result.andThen,hE,run_sizeOf hz,sliced,subS,Sl.v]

theorem Rd.spot {α : Type} [Rep α] {s : Sl} {l : List α} (h : Rd m s l) (hne : 0 < l.length) : ∃ b off,s.p = some ⟨b,off,none⟩:=by
  obtain ⟨b,off,_,hp,_⟩:=h.el 0 hne
  exact ⟨b,off,hp⟩

end

def inf (P : Program) (E : TypeId) : Option (Nat × Nat × List Value):=(P.info? E).bind fun i=>i.zero.map fun z=>(i.size,i.bytes,z.cells.toList)

theorem inf_spec {P : Program} {E : TypeId} {n by' : Nat} {zc : List Value} (h : inf P E = some (n,by',zc)) : ∃ i z,P.info? E = some i∧i.size = n∧i.bytes = by'∧i.zero = some z∧z.cells = zc.toArray:=by
  unfold inf at h
  cases hi : P.info? E with
  | none=>simp [hi] at h
  | some i =>
    cases hz : i.zero with
    | none=>simp [hi,hz] at h
    | some z =>
      simp [hi,hz] at h
      obtain ⟨h1,h2,h3⟩:=h
      exact ⟨i,z,rfl,h1,h2,hz,by rw [← h3]⟩

def RdAll {α : Type} [Rep α] (m : Mem) : List Value→List α→Prop
  | cs,[]=>cs = []
  | cs,x :: l=>Rep.rd m (cs.take (Rep.wd α)) x∧RdAll m (cs.drop (Rep.wd α)) l

section

variable {α : Type} [Rep α] {m m' : Mem} {T : TypeId} {q : Piece} {s : Sl} {l r : List α} {X : List Nat} {w0 w w' : World} {O : List Piece} {i : Int} {x : α}

theorem RdAll.len : ∀ {l : List α} {cs : List Value},RdAll m cs l→cs.length = l.length * Rep.wd α
  | [],cs,h=>by simp only [RdAll] at h; simp [h]
  | x :: l,cs,h=>by
    simp only [RdAll] at h
    have h1:=Rep.len h.1
    have h2:=h.2.len
    simp at h1 h2
    simp [Nat.add_mul]
    omega

theorem RdAll.get : ∀ {l : List α} {cs : List Value},RdAll m cs l→∀ k (hk : k < l.length),Rep.rd m (slab cs (k * Rep.wd α) (Rep.wd α)) l[k]
  | [],cs,_,k,hk=>by simp at hk
  | x :: l,cs,h,0,_=>by
    simp only [RdAll] at h
    simpa [slab] using h.1
  | x :: l,cs,h,k + 1,hk=>by
    simp only [RdAll] at h
    have:=h.2.get k (by simpa using hk)
    simp only [slab,List.drop_drop] at this ⊢
    rw [Nat.add_mul,Nat.one_mul,Nat.add_comm (k * Rep.wd α)]
    simpa using this

theorem slab_rep {zc : List Value} {k n : Nat} (hk : k < n) : slab ((madeCells zc.toArray (n * zc.length)).toList) (k * zc.length) zc.length = zc:=by
  have hkn : (k + 1) * zc.length ≤ n * zc.length:=Nat.mul_le_mul_right _ hk
  rw [Nat.add_mul,Nat.one_mul] at hkn
  apply List.ext_getElem?
  intro j
  by_cases hj : j < zc.length
  · unfold slab
    rw [List.getElem?_take_of_lt hj,List.getElem?_drop]
    have h1 : k * zc.length + j < n * zc.length:=by omega
    simp [madeCells,h1]
    rw [Nat.mod_eq_of_lt hj]
    simp [hj]
  · have h2 : (slab ((madeCells zc.toArray (n * zc.length)).toList) (k * zc.length) zc.length).length ≤ j:=by
      unfold slab
      simp only [List.length_take]
      omega
    rw [List.getElem?_eq_none h2,List.getElem?_eq_none (by omega)]

theorem OwnL.fresh {b : Nat} {cs : List Value} {cap : Nat} (hl : l.length ≤ cap) (hm : cap ≤ maxLen) (hc : cs.length = cap * Rep.wd α) (h : ∀ k (hk : k < l.length),Rep.rd m (slab cs (k * Rep.wd α) (Rep.wd α)) l[k]) :
    OwnL m T [⟨b,cs,T⟩] ⟨some ⟨b,0,none⟩,l.length,cap⟩ l :=
  ⟨rfl,hl,hm,.inr ⟨b,cs,rfl,rfl,hc,h⟩⟩

theorem slab_setCs_ne {cs us : List Value} {a n k o : Nat} (h : k * n + o + us.length ≤ cs.length) (hkn : o + us.length ≤ n) (hne : a ≠ k) : slab (setCs cs (k * n + o) us) (a * n) n = slab cs (a * n) n:=by
  apply List.ext_getElem?
  intro j
  unfold slab setCs
  by_cases hj : j < n
  · rw [List.getElem?_take_of_lt hj,List.getElem?_take_of_lt hj,List.getElem?_drop,List.getElem?_drop]
    rcases Nat.lt_or_gt_of_ne hne with hlt | hgt
    · have h1 : (a + 1) * n ≤ k * n:=Nat.mul_le_mul_right _ hlt
      rw [Nat.add_mul,Nat.one_mul] at h1
      rw [List.append_assoc,List.getElem?_append_left (by simp; omega),List.getElem?_take_of_lt (by omega)]
    · have h1 : (k + 1) * n ≤ a * n:=Nat.mul_le_mul_right _ hgt
      rw [Nat.add_mul,Nat.one_mul] at h1
      rw [List.getElem?_append_right (by simp; omega),List.getElem?_drop]
      congr 1
      simp
      omega
  · rw [List.getElem?_eq_none (by simp; omega),List.getElem?_eq_none (by simp; omega)]

theorem slab_setCs_eq {cs us : List Value} {n k o : Nat} (h : (k + 1) * n ≤ cs.length) (hkn : o + us.length ≤ n) : slab (setCs cs (k * n + o) us) (k * n) n = setCs (slab cs (k * n) n) o us:=by
  rw [Nat.add_mul,Nat.one_mul] at h
  apply List.ext_getElem?
  intro j
  unfold slab setCs
  by_cases hj : j < n
  · rw [List.getElem?_take_of_lt hj,List.getElem?_drop]
    by_cases h1 : j < o
    · rw [List.append_assoc,List.getElem?_append_left (by simp; omega),List.getElem?_take_of_lt (by omega),
        List.append_assoc,List.getElem?_append_left (by simp; omega),List.getElem?_take_of_lt h1,List.getElem?_take_of_lt hj,List.getElem?_drop]
    · by_cases h2 : j < o + us.length
      · rw [List.append_assoc,List.getElem?_append_right (by simp; omega),List.getElem?_append_left (by simp; omega),
          List.append_assoc,List.getElem?_append_right (by simp; omega),List.getElem?_append_left (by simp; omega)]
        congr 1
        simp
        omega
      · rw [List.getElem?_append_right (by simp; omega),List.getElem?_drop,List.getElem?_append_right (by simp; omega),List.getElem?_drop,List.getElem?_take_of_lt (by simp; omega),List.getElem?_drop]
        congr 1
        simp
        omega
  · rw [List.getElem?_eq_none (by simp; omega),List.getElem?_eq_none (by simp; omega)]

end

section

variable {P : Program} {L : List (Nat × Value)} {m : Mem} {O : List Piece} {d : Option Tmp} {ty : TypeId} {p : String} {af : Array Edge} {g : Option (Nat × Bool)} {x y : Operand}

variable {a : Act} {n : Nat} {X : List Nat} {w0 w : World} {K : Act→World→Prop} {Q : Exit→Act→World→Prop} {α : Type} [Rep α] {l r : List α}

theorem St.newRow {T : TypeId} {cs : List Value} (hS : St X w0 w m O) : St X w0 (w.alloc (.cells cs.toArray T)) m ([⟨w.heap.size,cs,T⟩] :: O):=hS.alloc cs T

theorem wp_make {t E : TypeId} {kl kc : IntKind} {c : Int} {z : α} {sz by' : Nat} {zc : List Value} (hF : FrD DS a n L) (hS : St X w0 w m O) (hu : P.underlying t = some (.slice E)) (hI : inf P E = some (sz,by',zc)) (hzc : zc.length = sz)
    (hx : evo L x = some (.int kl c)) (hy : evo L y = some (.int kc c)) (hwd : Rep.wd α = sz) (hz : Rep.rd m zc z) (hby : 1 ≤ by') (hr : goMake by' c z = some l) (hd : dok d n = true)
    (k : ∀ a' w' q s,FrD DS a' n (putL d s.v L)→St X w0 w' m (q :: O)→OwnL m E q s l→Below w.heap.size w w'→K a' w') :
    (⟨d,.makeSlice t x y,ty,p,af,g⟩ : Oper).wp P a w K Q:=by
  obtain ⟨i,z',hi,h1,h2,h3,h4⟩:=inf_spec hI
  subst hzc
  unfold goMake at hr
  cases hb : (decide (0 ≤ c) && decide ((by' : Int) * c ≤ 281474976710656) && decide (c ≤ 9223372036854775807)) with
  | false=>rw [hb] at hr; cases hr
  | true =>
    rw [hb] at hr
    simp only [Bool.and_eq_true,decide_eq_true_eq] at hb
    obtain rfl:=(Option.some.inj hr).symm
    have hmx : c.toNat ≤ maxLen:=by
      have : c ≤ (by' : Int) * c:=by
        have : (1 : Int) * c ≤ (by' : Int) * c:=Int.mul_le_mul_of_nonneg_right (by omega) hb.1.1
        omega
      simp only [maxLen]
      omega
    have hrun:=run_make (P:=P) w t E i z' hu hi h3 kl kc c c hb.1.1 (Int.le_refl _) (by rw [h2]; exact hb.1.2) hb.2
    rw [h4,h1] at hrun
    refine wp_of_run (v:=.slice (some ⟨w.heap.size,0,none⟩) c.toNat c.toNat) (w':=w.alloc (.cells (madeCells zc.toArray (c.toNat * zc.length)) E)) ?_ ?_
    · simp [execOp,hF.eval hx,hF.eval hy,hrun]
    · have hnew:=hS.newRow (T:=E) (cs:=(madeCells zc.toArray (c.toNat * zc.length)).toList)
      simp only [Array.toArray_toList] at hnew
      refine k _ _ _ ⟨some ⟨w.heap.size,0,none⟩,c.toNat,c.toNat⟩ (hF.put _ hd) hnew ?_ (below_alloc _ _)
      have:=OwnL.fresh (m:=m) (T:=E) (b:=w.heap.size) (cs:=(madeCells zc.toArray (c.toNat * zc.length)).toList) (cap:=c.toNat) (l:=List.replicate c.toNat z) (by simp) hmx (by simp [size_madeCells,hwd]) (fun k hk=>by
        rw [List.length_replicate] at hk
        rw [hwd,slab_rep hk]
        simpa using hz)
      simpa using this

theorem wp_buildSlice' {t E : TypeId} {len : Nat} {ps : List (Nat × Operand)} {vs : List (Nat × Value)} {cells : List Value} {sz by' : Nat} {zc : List Value} (hF : FrD DS a n L) (hS : St X w0 w m O) (hu : P.underlying t = some (.slice E)) (hI : inf P E = some (sz,by',zc))
    (hp : evps L ps = some vs) (hsm : Nat.blt 16777216 (len * sz) = false) (hf : Instr.fill (fun i=>some (i * sz,sz)) (madeCells zc.toArray (len * sz)) vs = some cells.toArray) (hwd : Rep.wd α = sz) (hl : l.length = len) (hpos : Nat.beq (len * sz) 0 = false)
    (hrd : RdAll m cells l) (hmx : Nat.ble len 16777216 = true) (hd : dok d n = true)
    (k : ∀ a' w' q s,FrD DS a' n (putL d s.v L)→St X w0 w' m (q :: O)→OwnL m E q s l→Below w.heap.size w w'→K a' w') :
    (⟨d,.buildSlice t len ps.toArray,ty,p,af,g⟩ : Oper).wp P a w K Q:=by
  obtain ⟨i,z',hi,h1,h2,h3,h4⟩:=inf_spec hI
  subst h1
  have hsm' : ¬ len * i.size > 2 ^ 24:=by
    intro hc
    have : Nat.blt 16777216 (len * i.size) = true:=by rw [Nat.blt_eq]; omega
    rw [this] at hsm; cases hsm
  have hpos' : ¬ len * i.size = 0:=by
    intro hc
    rw [hc] at hpos; cases hpos
  have he : (ps.toArray.map fun (i,x)=>(i,a.eval x)).toList = vs:=by
    have:=hF.evps hp
    simpa using this
  have hrun:=run_buildSlice (P:=P) w t E len (ps.toArray.map fun (i,x)=>(i,a.eval x)) cells.toArray i z' hu hi h3 hsm' hpos' (by rw [he,h4]; exact hf)
  refine wp_of_run (v:=.slice (some ⟨w.heap.size,0,none⟩) len len) (w':=w.alloc (.cells cells.toArray E)) ?_ ?_
  · simp only [execOp,Sem.run_bind,hrun,Result.andThen_ok,Sem.run_pure]
  · subst hl
    refine k _ _ _ ⟨some ⟨w.heap.size,0,none⟩,l.length,l.length⟩ (hF.put _ hd) hS.newRow ?_ (below_alloc _ _)
    have:=Nat.le_of_ble_eq_true hmx
    exact OwnL.fresh (Nat.le_refl _) (by simp only [maxLen]; omega) hrd.len fun k hk=>hrd.get k hk

theorem goApp_some {by' : Nat} {l x r : List α} (h : goApp by' l x = some r) : (l.length + x.length) * by' ≤ 140737488355328∧r = l ++ x:=by
  unfold goApp at h
  cases hb : decide ((l.length + x.length) * by' ≤ 140737488355328) with
  | false=>rw [hb] at h; cases h
  | true=>rw [hb] at h; exact ⟨by simpa using hb,(Option.some.inj h).symm⟩

theorem OwnL.row {E : TypeId} {q : Piece} {s : Sl} (h : OwnL m E q s l) (hS : St X w0 w m (q :: O)) (hne : q ≠ [] ∨ s.len = 0) :
    w.ownsRow 0 E (Rep.wd α) s.v s.len (match q with | [o]=>o.cs.take (s.len * Rep.wd α) | _=>[]):=by
  rcases h.blk with ⟨h1,h2,h3⟩ | ⟨b,cs,h1,h2,h3,h4⟩
  · have:=h.cap
    have h5 : s.len = 0:=by omega
    subst h1
    refine ⟨by simp [h5],.inl ⟨by simp [Sl.v,h2,h3,h5],h5⟩⟩
  · subst h1
    have hh:=hS.own ⟨b,cs,E⟩ (by simp)
    have hc:=h.cap
    refine ⟨?_,.inr ⟨b,s.cap,cs.toArray,by simp [Sl.v,h2],Nat.zero_le _,hh,h.cap,h.max,by simpa using h3,by simp⟩⟩
    simp only [List.length_take]
    rw [h3]
    exact Nat.min_eq_left (Nat.mul_le_mul_right _ hc)

theorem Vw.cells {s : Sl} (h : Vw m w s l) (hne : 0 < l.length) : ∃ ad news,s.p = some ad∧news.length = s.len * Rep.wd α∧(∀ j u,news[j]? = some u→w.cell? (ad.add j) = some u)∧∀ k (hk : k < l.length),Rep.rd m (slab news (k * Rep.wd α) (Rep.wd α)) l[k]:=by
  obtain ⟨b,off,cs,T,fz,hp,hh,_,_⟩:=h.el 0 hne
  have hall : ∀ k (hk : k < l.length),off + (k + 1) * Rep.wd α ≤ cs.size∧Rep.rd m (slab cs.toList (off + k * Rep.wd α) (Rep.wd α)) l[k]:=fun k hk=>by
    obtain ⟨b',off',cs',T',fz',hp',hh',h1,h2⟩:=h.el k hk
    rw [hp] at hp'
    simp only [Option.some.injEq,Addr.mk.injEq,and_true] at hp'
    obtain ⟨rfl,rfl⟩:=hp'
    rw [hh] at hh'
    simp only [Option.some.injEq,Obj.cells.injEq] at hh'
    obtain ⟨rfl,_,_⟩:=hh'
    exact ⟨h1,h2⟩
  have hlast:=(hall (l.length - 1) (by omega)).1
  have e1 : l.length - 1 + 1 = l.length:=by omega
  rw [e1] at hlast
  have hlen : (slab cs.toList off (l.length * Rep.wd α)).length = l.length * Rep.wd α:=by
    unfold slab
    simp
    omega
  refine ⟨⟨b,off,none⟩,slab cs.toList off (l.length * Rep.wd α),hp,by rw [hlen,h.len],fun j u hj=>?_,fun k hk=>?_⟩
  · have hjl:=(List.getElem?_eq_some_iff.1 hj).1
    rw [hlen] at hjl
    unfold slab at hj
    rw [List.getElem?_take_of_lt hjl,List.getElem?_drop] at hj
    rw [addr_add]
    simp only [World.cell?,hh]
    simpa using hj
  · have h2:=(hall k hk).2
    have : slab (slab cs.toList off (l.length * Rep.wd α)) (k * Rep.wd α) (Rep.wd α) = slab cs.toList (off + k * Rep.wd α) (Rep.wd α):=by
      unfold slab
      have hkk : (k + 1) * Rep.wd α ≤ l.length * Rep.wd α:=Nat.mul_le_mul_right _ hk
      rw [Nat.add_mul,Nat.one_mul] at hkk
      rw [List.drop_take,List.take_take,Nat.min_eq_left (by omega),List.drop_drop]
    rw [this]
    exact h2

end

section

variable {P : Program} {L : List (Nat × Value)} {m : Mem} {O : List Piece} {d : Option Tmp} {ty : TypeId} {p : String} {af : Array Edge} {g : Option (Nat × Bool)} {x y : Operand}

variable {a : Act} {n : Nat} {X : List Nat} {w0 w : World} {K : Act→World→Prop} {Q : Exit→Act→World→Prop} {α : Type} [Rep α] {l r xs : List α}

theorem append_where {t ty e : TypeId} {i : TypeInfo} {z : Value} {size bytes : Nat} (ht : P.underlying t = some (.slice e)) (hi : P.info? e = some i) (hz : i.zero = some z)
    (hsize : i.size = size) (hby : i.bytes = bytes) {v v' : Value} {w' : World} {nn : Nat} {olds : List Value} (hown : w.ownsRow 0 e size v nn olds)
    {ad : Addr} {mm c : Nat} {news : List Value} (hl : news.length = mm * size) (hnews : ∀ j u,news[j]? = some u→w.cell? (ad.add j) = some u) (h1 : ∀ u ∈ news,u.oneCell' = true)
    (h63 : nn + mm ≤ maxLen) (hbytes : (nn + mm) * bytes ≤ 140737488355328) (hm : mm ≠ 0) (hrun : (Builtin.append_ #[t,t] ty #[v,.slice (some ad) mm c]).run P w = .ok v' w') :
    v'.ownBlock = v.ownBlock ∨ v'.ownBlock = some w.heap.size:=by
  subst hsize
  subst hby
  simp only [maxLen] at h63
  rcases hown.2 with ⟨rfl,rfl⟩ | ⟨g,cap,cur,rfl,hbg,hg,hnc,hcm,hcs,htake⟩
  · have hr:=run_append_nil (P:=P) w t ty e i z ht hi hz ad mm c news hl hnews (by omega) (by omega) (by have hb:=hbytes; simp only [Nat.zero_add] at hb; omega)
    rw [hr] at hrun
    simp only [Result.ok.injEq] at hrun
    rw [← hrun.1]
    exact .inr rfl
  · by_cases hroom : nn + mm ≤ cap
    · have hfit : nn * i.size + news.length ≤ cur.size:=by rw [hl,hcs,← Nat.add_mul]; exact Nat.mul_le_mul_right _ hroom
      have hr:=run_append_room (P:=P) w t ty e i ht hi g nn cap cur hg ad mm c news hl hnews h1 hroom hfit
      rw [hr] at hrun
      simp only [Result.ok.injEq] at hrun
      rw [← hrun.1]
      exact .inl rfl
    · have holds : ∀ j u,olds[j]? = some u→w.cell? ((⟨g,0,none⟩ : Addr).add j) = some u:=hown.cells (g:=g) rfl
      have hr:=run_append_grow (P:=P) w t ty e i z ht hi hz ⟨g,0,none⟩ nn cap olds hown.1 holds ad mm c news hl hnews (by omega) (by omega) (growslice_fits (by omega) hbytes)
      rw [hr] at hrun
      simp only [Result.ok.injEq] at hrun
      rw [← hrun.1]
      exact .inr rfl

theorem wp_append {t E : TypeId} {q : Piece} {s s2 : Sl} {sz by' : Nat} {zc : List Value} (hF : FrD DS a n L) (hS : St X w0 w m (q :: O)) (hq : OwnL m E q s l) (hu : P.underlying t = some (.slice E)) (hI : inf P E = some (sz,by',zc)) (hzc : zc.length = sz)
    (hpos : Nat.blt 0 sz = true) (hx : evo L x = some s.v) (hy : evo L y = some s2.v) (hv : Vw m w s2 xs) (hwd : Rep.wd α = sz) (hby : 1 ≤ by') (hr : goApp by' l xs = some r) (hd : dok d n = true)
    (k : ∀ a' w' q' s',FrD DS a' n (putL d s'.v L)→St X w0 w' m (q' :: O)→OwnL m E q' s' r→K a' w') :
    (⟨d,.call { callee:=.builtin .append,args:=#[x,y],argTypes:=#[t,t] },ty,p,af,g⟩ : Oper).wp P a w K Q:=by
  obtain ⟨i,z',hi,h1,h2,h3,h4⟩:=inf_spec hI
  obtain ⟨hb,rfl⟩:=goApp_some hr
  have hpos' : 0 < sz:=by simpa [Nat.blt_eq] using hpos
  have hlen:=hq.len
  have hlen2:=hv.len
  have hmax : l.length + xs.length ≤ maxLen:=by
    have : l.length + xs.length ≤ (l.length + xs.length) * by':=Nat.le_mul_of_pos_right _ (by omega)
    simp only [maxLen]
    omega
  obtain ⟨olds,hrow,hold⟩ : ∃ olds,w.ownsRow 0 E sz s.v s.len olds∧∀ k (hk : k < l.length),Rep.rd m (slab olds (k * sz) sz) l[k]:=by
    rcases hq.blk with ⟨e1,e2,e3⟩ | ⟨b,cs,e1,e2,e3,e4⟩
    · have:=hq.cap
      have h5 : s.len = 0:=by omega
      exact ⟨[],⟨by simp [h5],.inl ⟨by simp [Sl.v,e2,e3,h5],h5⟩⟩,fun k hk=>by omega⟩
    · subst e1
      have hh:=hS.own ⟨b,cs,E⟩ (by simp)
      have hc:=hq.cap
      rw [hwd] at e3
      refine ⟨cs.take (s.len * sz),⟨?_,.inr ⟨b,s.cap,cs.toArray,by simp [Sl.v,e2],Nat.zero_le _,hh,hq.cap,hq.max,by simpa using e3,by simp⟩⟩,fun k hk=>?_⟩
      · simp only [List.length_take]
        rw [e3]
        exact Nat.min_eq_left (Nat.mul_le_mul_right _ hc)
      · have h5:=e4 k hk
        rw [hwd] at h5
        have h6 : (k + 1) * sz ≤ s.len * sz:=Nat.mul_le_mul_right _ (by omega)
        rw [Nat.add_mul,Nat.one_mul] at h6
        have : slab (cs.take (s.len * sz)) (k * sz) sz = slab cs (k * sz) sz:=by
          unfold slab
          rw [List.drop_take,List.take_take,Nat.min_eq_left (by omega)]
        rw [this]
        exact h5
  by_cases hx0 : xs.length = 0
  · -- nothing comes to it
    have hxs : xs = []:=List.eq_nil_of_length_eq_zero hx0
    subst hxs
    have hs2 : s2.len = 0:=by simpa using hlen2.symm
    have hrun : (Builtin.append_ #[t,t] ty #[s.v,s2.v]).run P w = .ok s.v w:=by
      rcases hrow.2 with ⟨e1,e2⟩ | ⟨g',cap,cur,e1,_,_,hnc,_⟩
      · have e1' : s.v = .slice none 0 0:=e1
        rw [e1']
        cases hp2 : s2.p with
        | none=>simp [Builtin.append_,run_underlying hu,sizeOf,typeInfo,hi,Builtin.lenOf,Builtin.firstCells,Sl.v,hp2,hs2]
        | some ad=>simp [Builtin.append_,run_underlying hu,sizeOf,typeInfo,hi,Builtin.lenOf,Builtin.firstCells,Sl.v,hp2,hs2,loadCells,loadCellsFrom]
      · have e1' : s.v = .slice (some ⟨g',0,none⟩) s.len cap:=e1
        rw [e1']
        cases hp2 : s2.p with
        | none=>simp [Builtin.append_,run_underlying hu,sizeOf,typeInfo,hi,Builtin.lenOf,Builtin.firstCells,Sl.v,hp2,hs2,hnc,storeCells]
        | some ad=>simp [Builtin.append_,run_underlying hu,sizeOf,typeInfo,hi,Builtin.lenOf,Builtin.firstCells,Sl.v,hp2,hs2,hnc,storeCells,loadCells,loadCellsFrom]
    refine wp_of_run (v:=s.v) (w':=w) ?_ (k _ _ q s (hF.put _ hd) hS (by simpa using hq))
    simp [execOp,resolve,invoke,builtin,hF.eval hx,hF.eval hy,hrun]
  · obtain ⟨ad,news,hp2,hnl,hnews,hnrd⟩:=hv.cells (by omega)
    rw [hwd] at hnl hnrd
    have h1c : ∀ u ∈ news,u.oneCell' = true:=fun u hu'=>by
      obtain ⟨j,hj,rfl⟩:=List.mem_iff_getElem.1 hu'
      have hk : j / sz < xs.length:=by
        rw [hlen2]
        rw [hnl] at hj
        exact (Nat.div_lt_iff_lt_mul hpos').2 hj
      have h5:=Rep.one (hnrd _ hk)
      rw [List.all_eq_true] at h5
      refine h5 _ ?_
      have hd:=Nat.div_add_mod j sz
      have hm:=Nat.mod_lt j hpos'
      rw [Nat.mul_comm] at hd
      have : (slab news (j / sz * sz) sz)[j % sz]? = some news[j]:=by
        unfold slab
        rw [List.getElem?_take_of_lt hm,List.getElem?_drop,hd]
        simp
      exact List.mem_of_getElem? this
    obtain ⟨v',w',hrun,hown,hgr,_⟩:=run_append_own (P:=P) w 0 t ty E i z' sz by' hu hi h3 h1 h2 (by rw [h4]; simpa using hzc) hpos' s.v s.len olds hrow ad s2.len s2.cap news hnl hnews h1c (by rw [← hlen,← hlen2]; exact hmax)
      (by rw [← hlen,← hlen2]; exact hb) (Nat.zero_le _)
    have hv2 : s2.v = .slice (some ad) s2.len s2.cap:=by simp [Sl.v,hp2]
    rcases hown.2 with ⟨e1,e2⟩ | ⟨g',cap,cur,e1,_,hg',hnc,hcm,hcs,htake⟩
    · omega
    · refine wp_of_run (v:=v') (w':=w') ?_ ?_
      · rw [← hv2] at hrun
        simp [execOp,resolve,invoke,builtin,hF.eval hx,hF.eval hy,hrun]
      · have hS' : St X w0 w' m ([⟨g',cur.toList,E⟩] :: O):=by
          refine hS.regrow hgr ?_ ?_ (by simp)
          · intro k hk
            rcases hq.blk with ⟨c1,c2,c3⟩ | ⟨b,cs,c1,c2,c3,c4⟩
            · simp [Sl.v,c2,Value.ownBlock] at hk
            · simp [Sl.v,c2,Value.ownBlock] at hk
              subst c1
              exact ⟨_,List.mem_singleton.2 rfl,hk⟩
          · intro o ho
            rw [List.mem_singleton] at ho
            subst ho
            refine ⟨by simpa using hg',?_⟩
            rcases Nat.lt_or_ge g' w.heap.size with hlt | hge
            · left
              by_cases hbk : s.v.ownBlock = some g'
              · rcases hq.blk with ⟨c1,c2,c3⟩ | ⟨b,cs,c1,c2,c3,c4⟩
                · simp [Sl.v,c2,Value.ownBlock] at hbk
                · simp [Sl.v,c2,Value.ownBlock] at hbk
                  subst c1
                  exact ⟨_,List.mem_singleton.2 rfl,hbk⟩
              · exfalso
                rcases append_where hu hi h3 h1 h2 hrow hnl hnews h1c (by rw [← hlen,← hlen2]; exact hmax) (by rw [← hlen,← hlen2]; exact hb) (by omega) hrun with hw | hw
                · rw [e1] at hw; exact hbk (by rw [← hw]; rfl)
                · rw [e1] at hw
                  simp [Value.ownBlock] at hw
                  omega
            · exact .inr hge
        refine k _ _ _ ⟨some ⟨g',0,none⟩,s.len + s2.len,cap⟩ ?_ hS' ?_
        · rw [e1]; exact hF.put _ hd
        · refine ⟨by simp; omega,hnc,hcm,.inr ⟨g',cur.toList,rfl,rfl,by rw [hwd]; simpa using hcs,fun k hk=>?_⟩⟩
          have hk' : k < l.length + xs.length:=by simpa using hk
          have h6 : (k + 1) * sz ≤ (s.len + s2.len) * sz:=Nat.mul_le_mul_right _ (by omega)
          rw [Nat.add_mul,Nat.one_mul] at h6
          have hsl : slab cur.toList (k * sz) sz = slab (olds ++ news) (k * sz) sz:=by
            rw [← htake]
            unfold slab
            rw [List.drop_take,List.take_take,Nat.min_eq_left (by omega)]
          rw [hwd,hsl]
          have hol:=hrow.1
          by_cases hkl : k < l.length
          · have : slab (olds ++ news) (k * sz) sz = slab olds (k * sz) sz:=by
              have h7 : (k + 1) * sz ≤ s.len * sz:=Nat.mul_le_mul_right _ (by omega)
              rw [Nat.add_mul,Nat.one_mul] at h7
              unfold slab
              rw [List.drop_append_of_le_length (by omega),List.take_append_of_le_length (by simp; omega)]
            rw [this,List.getElem_append_left hkl]
            exact hold k hkl
          · have : slab (olds ++ news) (k * sz) sz = slab news ((k - l.length) * sz) sz:=by
              unfold slab
              have h8 : k * sz = olds.length + (k - l.length) * sz:=by
                rw [hol,← hlen,← Nat.add_mul]; congr 1; omega
              rw [h8,← List.drop_drop,List.drop_left]
            rw [this,List.getElem_append_right (by omega)]
            exact hnrd _ (by omega)

end

section

variable {P : Program} {L : List (Nat × Value)} {m : Mem} {O : List Piece} {d : Option Tmp} {ty : TypeId} {p : String} {af : Array Edge} {g : Option (Nat × Bool)} {x y : Operand}

variable {a : Act} {n : Nat} {X : List Nat} {w0 w : World} {K : Act→World→Prop} {Q : Exit→Act→World→Prop} {α : Type} [Rep α] {l r xs : List α}

theorem wp_storeE {t E : TypeId} {q : Piece} {s : Sl} {sz nz k' : Nat} {i : Int} {e e' : α} {v : Value} {us vs : List Value} (o : Nat) (hF : FrD DS a n L) (hS : St X w0 w m (q :: O)) (hq : OwnL m E q s l) (hz : szOf P t = some nz)
    (hx : evo L x = some (elP s k')) (hy : evo L y = some v) (hv : v.cells = us.toArray) (hn : us.length = nz) (h1 : us.all (·.oneCell') = true) (hwd : Rep.wd α = sz) (hle : Nat.ble (o + us.length) sz = true) (hi : goAt l i = some e)
    (hat : AtO q E s (i.toNat * sz) vs) (hvl : vs.length = sz) (hk : k' = i.toNat * sz + o) (hrd : Rep.rd m (setCs vs o us) e')
    (kk : ∀ w' q',St X w0 w' m (q' :: O)→OwnL m E q' s (goSet l i e')→K a w') :
    (⟨none,.store t x y,ty,p,af,g⟩ : Oper).wp P a w K Q:=by
  obtain ⟨hi0,hi1⟩:=goAt_some hi
  have hil:=(List.getElem?_eq_some_iff.1 hi1).1
  have hle':=Nat.le_of_ble_eq_true hle
  have hlen:=hq.len
  have hcap:=hq.cap
  rcases hq.blk with ⟨c1,c2,c3⟩ | ⟨b,cs,c1,c2,c3,c4⟩
  · omega
  · subst c1
    rw [hwd] at c3
    have hh:=hS.own ⟨b,cs,E⟩ (by simp)
    have hsz : (i.toNat + 1) * sz ≤ cs.length:=by rw [c3]; exact Nat.mul_le_mul_right _ (by omega)
    have hsz':=hsz
    rw [Nat.add_mul,Nat.one_mul] at hsz'
    have hb : i.toNat * sz + o + us.length ≤ cs.length:=by omega
    have hvs : vs = slab cs (i.toNat * sz) sz:=by
      obtain ⟨b',off',cs',T',fz',hp',hh',h3,h4⟩:=hat.at (m:=m) (O:=[⟨b,cs,E⟩] :: O) 0 rfl X w0 w hS
      rw [c2] at hp'
      simp only [Option.some.injEq,Addr.mk.injEq,and_true] at hp'
      obtain ⟨rfl,rfl⟩:=hp'
      rw [hh] at hh'
      simp only [Option.some.injEq,Obj.cells.injEq] at hh'
      obtain ⟨rfl,_,_⟩:=hh'
      rw [hvl,Nat.zero_add] at h4
      exact h4.symm
    have he : elP s k' = .pointer (some ⟨b,i.toNat * sz + o,none⟩):=by simp [elP,c2,hk]
    have ho : getO ([⟨b,cs,E⟩] :: O) 0 0 = some ⟨b,cs,E⟩:=rfl
    have hx' : evo L x = some (.pointer (some ⟨b,i.toNat * sz + o,none⟩)):=by rw [hx,he]
    refine wp_store (cs':=setCs cs (i.toNat * sz + o) us) 0 0 hF hS hz hx' hy hv hn h1 ho (by rw [Nat.ble_eq]; exact hb) rfl fun w' hS'=>kk w' _ hS' ?_
    have hl2 : (setCs cs (i.toNat * sz + o) us).length = cs.length:=by unfold setCs; simp; omega
    refine ⟨by simpa using hlen,hcap,hq.max,.inr ⟨b,_,rfl,c2,by rw [hl2,hwd]; exact c3,fun k hk'=>?_⟩⟩
    have hkl : k < l.length:=by simpa using hk'
    rw [hwd]
    by_cases hki : k = i.toNat
    · subst hki
      rw [slab_setCs_eq hsz hle',← hvs]
      simpa [goSet] using hrd
    · rw [slab_setCs_ne hb hle' hki]
      have:=c4 k hkl
      rw [hwd] at this
      simpa [goSet,List.getElem_set_ne (Ne.symm hki)] using this

theorem ex_slice {t E : TypeId} {s : Sl} {sz : Nat} {lo hi : Option Operand} {vl vh : Option Value} {i j : Int} (hu : P.underlying t = some (.slice E)) (hz : szOf P E = some sz) (hx : evo L x = some s.v)
    (hlo : (match lo with | some y=>(evo L y).map some | none=>some none) = some vl) (hhi : (match hi with | some y=>(evo L y).map some | none=>some none) = some vh)
    (hb : vl = none∧i = 0 ∨ ∃ k,vl = some (.int k i)) (hh : vh = none∧j = (s.len : Int) ∨ ∃ k,vh = some (.int k j)) (ho : SubOk s i j) :
    Ex P ⟨d,.slice t x lo hi none,ty,p,af,g⟩ L m O (subS s sz i.toNat j.toNat s.cap).v:=fun _ a n X w0 w hF hS=>by
  obtain ⟨h0,h1,h2,hc⟩:=ho
  have ej : (j.toNat : Int) = j:=Int.toNat_of_nonneg (by omega)
  have hbd : (Instr.sliceBounds true s.len s.cap vl vh none).run P w = .ok (i.toNat,j.toNat,s.cap) w:=by
    have hcj : j ≤ (s.cap : Int):=by omega
    have hj0 : 0 ≤ j:=by omega
    rcases hb with ⟨rfl,rfl⟩ | ⟨k1,rfl⟩ <;> rcases hh with ⟨rfl,rfl⟩ | ⟨k2,rfl⟩ <;> simp [Instr.sliceBounds,run_sliceBound, *]
  have e1 : lo.map a.eval = vl:=by
    cases lo with
    | none=>simp at hlo; simp [hlo]
    | some y =>
      cases hy : evo L y with
      | none=>simp [hy] at hlo
      | some u=>simp [hy] at hlo; simp [hF.eval hy,hlo]
  have e2 : hi.map a.eval = vh:=by
    cases hi with
    | none=>simp at hhi; simp [hhi]
    | some y =>
      cases hy : evo L y with
      | none=>simp [hy] at hhi
      | some u=>simp [hy] at hhi; simp [hF.eval hy,hhi]
  simp only [execOp,e1,e2,Option.map_none,hF.eval hx,Sem.run_bind,run_slice_gen hu hz hbd,Result.andThen_ok,Sem.run_pure]

end

section

variable {σ τ ρ ρ' : Type}

theorem loopC_inv {f : σ→Option (Stp σ ρ)} (I : σ→Prop) (μ : σ→Nat) (Q : ρ→Prop)
    (h : ∀ s,I s→(∃ r,f s = some (.done r)∧Q r) ∨ (∃ s',f s = some (.next s')∧I s'∧μ s' < μ s)) : ∀ s,I s→∃ r,loopC f s = some r∧Q r:=by
  have key : ∀ (n : Nat) (s : σ),μ s < n→I s→∃ r,loopC f s = some r∧Q r:=by
    intro n
    induction n with
    | zero=>intro s hn; omega
    | succ n ih =>
      intro s hn hI
      rw [loopC_eq]
      rcases h s hI with ⟨r,hr,hq⟩ | ⟨s',hs,hI',hm⟩
      · rw [hr]; exact ⟨r,rfl,hq⟩
      · rw [hs]; exact ih s' (by omega) hI'
  exact fun s=>key (μ s + 1) s (Nat.lt_succ_self _)

end

theorem ws_last : ∀ (w : List Char),w.all (· != ' ') = true→Go.wordsSigns w = [w]
  | [],_=>rfl
  | c :: w,h=>by
    simp only [List.all_cons,Bool.and_eq_true,bne_iff_ne,ne_eq] at h
    have ih:=ws_last w h.2
    unfold Go.wordsSigns
    split
    · rename_i heq; cases heq
    · rename_i r heq; simp only [List.cons.injEq] at heq; exact absurd heq.1 h.1
    · rename_i c' r _ heq
      simp only [List.cons.injEq] at heq
      obtain ⟨rfl,rfl⟩:=heq
      rw [ih]

theorem ws_word : ∀ (w r : List Char),w.all (· != ' ') = true→Go.wordsSigns (w ++ ' ' :: r) = w :: Go.wordsSigns r
  | [],r,_=>rfl
  | c :: w,r,h=>by
    simp only [List.all_cons,Bool.and_eq_true,bne_iff_ne,ne_eq] at h
    have ih:=ws_word w r h.2
    simp only [List.cons_append]
    rw [Go.wordsSigns.eq_def]
    split
    · rename_i heq; cases heq
    · rename_i r' heq; simp only [List.cons.injEq] at heq; exact absurd heq.1 h.1
    · rename_i c' r' _ heq
      simp only [List.cons.injEq] at heq
      obtain ⟨rfl,rfl⟩:=heq
      rw [ih]

open Go in

theorem make_cut {P : Go.Program} {a b : List Char} {r : List (List Char)} (hw : wordsSigns P.initOrder.toList = a :: b :: "cut".toList :: r) (h : ((a == "harness".toList || a == "ownmain".toList) && isSumSigns b) = true) : P.make = some .cut := by
  unfold Program.make
  rw [hw]
  simp only [behindMainWord]
  rw [if_pos h]
  rfl

open Go in

theorem enter_cut {P : Go.Program} {a b : List Char} {r : List (List Char)} (hw : wordsSigns P.initOrder.toList = a :: b :: "cut".toList :: r) (h : ((a == "harness".toList || a == "ownmain".toList) && isSumSigns b) = true)
    (h1 : P.laysLater = false) (h2 : P.bearsReflect = false) (h3 : P.doorFits [] = true) : P.mayEnter = true:=by
  unfold Program.mayEnter
  rw [hw]
  simp only [behindMainWord]
  rw [if_pos h]
  have e : stripLifts liftWords ("cut".toList :: r) = ([], "cut".toList :: r) := by rfl
  simp only [e,h1,h2,h3]
  rfl

def EqV (P : Program) (d : Nat) (t : TypeId) (x y : Value) (b : Bool) : Prop:=∀ w,(Op.equalIn d t x y).run P w = .ok b w

def EqF (P : Program) (d : Nat) (xs ys : List Value) (fs : List Field) (b : Bool) : Prop:=∀ w,(Op.eqFields d xs.toArray ys.toArray fs).run P w = .ok b w

def PartV (P : Program) (t : TypeId) (xs : List Value) (off : Nat) (v : Value) : Prop:=∀ w,(part t xs.toArray off).run P w = .ok v w

section

variable {P : Program} {d : Nat} {t : TypeId} {xs ys : List Value}

variable {L : List (Nat × Value)} {m : Mem} {O : List Piece} {dd : Option Tmp} {ty yt : TypeId} {p : String} {af : Array Edge} {g : Option (Nat × Bool)} {x y : Operand}

end

abbrev blks (O : List Piece) : List Nat:=O.flatten.map (·.b)

def RetX (P : Program) (f : FuncId) (vs : List Value) (w : World) (R : Value→World→Prop) : Prop :=
  Calls P f vs.toArray w fun e w'=>∃ v,e = .returned v∧R v w'

section

variable {X : List Nat} {w0 w w' : World} {m m' : Mem} {O0 O1 O' : List Piece}

theorem St.enter (h : St X w0 w m (O0 ++ O1)) : St (blks O0) w w m O0:=by
  have hsub : ∀ o ∈ O0.flatten,o ∈ (O0 ++ O1).flatten:=fun o ho=>by simp only [List.flatten_append,List.mem_append]; exact .inl ho
  have hn:=h.nodup
  simp only [List.flatten_append,List.map_append] at hn
  exact ⟨Kept.refl _ _,h.vis,fun o ho=>h.own o (hsub o ho),fun o ho=>⟨(h.free o (hsub o ho)).1,.inr (List.mem_map.2 ⟨o,ho,rfl⟩)⟩,(List.nodup_append.1 hn).1⟩

theorem St.leave (h : St X w0 w m (O0 ++ O1)) (hr : St (blks O0) w w' m' O') (hm : MLe (blks O0) w.heap.size m m') : St X w0 w' m' (O' ++ O1):=by
  have hs0 : ∀ o ∈ O0.flatten,o ∈ (O0 ++ O1).flatten:=fun o ho=>by simp only [List.flatten_append,List.mem_append]; exact .inl ho
  have hs1 : ∀ o ∈ O1.flatten,o ∈ (O0 ++ O1).flatten:=fun o ho=>by simp only [List.flatten_append,List.mem_append]; exact .inr ho
  have hn:=h.nodup
  simp only [List.flatten_append,List.map_append] at hn
  obtain ⟨hn0,hn1,hdis⟩:=List.nodup_append.1 hn
  have hlt : ∀ o ∈ O1.flatten,o.b < w.heap.size:=fun o ho=>lt_of_heap (h.own o (hs1 o ho))
  have keep1 : ∀ o ∈ O1.flatten,w'.heap[o.b]? = w.heap[o.b]?:=fun o ho=>hr.kept.block o.b (hlt o ho) fun hc=>by
    obtain ⟨p,hp,hpb⟩:=List.mem_map.1 hc
    exact hdis _ (List.mem_map.2 ⟨p,hp,rfl⟩) _ (List.mem_map.2 ⟨o,ho,rfl⟩) hpb
  refine ⟨⟨hr.kept.os.trans h.kept.os,hr.kept.tape.trans h.kept.tape,hr.kept.output.trans h.kept.output,Nat.le_trans h.kept.size hr.kept.size,fun k hk hx=>?_⟩,hr.vis,fun o ho=>?_,fun o ho=>?_,?_⟩
  · rw [hr.kept.block k (Nat.lt_of_lt_of_le hk h.kept.size) fun hc=>?_]
    · exact h.kept.block k hk hx
    · obtain ⟨p,hp,hpb⟩:=List.mem_map.1 hc
      rcases (h.free p (hs0 p hp)).2 with h1 | h1
      · omega
      · rw [hpb] at h1; exact hx h1
  · simp only [List.flatten_append,List.mem_append] at ho
    rcases ho with ho | ho
    · exact hr.own o ho
    · rw [keep1 o ho]; exact h.own o (hs1 o ho)
  · simp only [List.flatten_append,List.mem_append] at ho
    rcases ho with ho | ho
    · obtain ⟨h1,h2⟩:=hr.free o ho
      refine ⟨h1,?_⟩
      rcases h2 with h2 | h2
      · exact .inl (Nat.le_trans h.kept.size h2)
      · obtain ⟨p,hp,hpb⟩:=List.mem_map.1 h2
        rw [← hpb]; exact (h.free p (hs0 p hp)).2
    · obtain ⟨h1,h2⟩:=h.free o (hs1 o ho)
      refine ⟨?_,h2⟩
      cases hmm : m' o.b with
      | none=>rfl
      | some c =>
        rcases hm.new _ _ hmm with h3 | h3 | h3
        · rw [h1] at h3; cases h3
        · have:=hlt o ho; omega
        · obtain ⟨p,hp,hpb⟩:=List.mem_map.1 h3
          exact absurd hpb (hdis _ (List.mem_map.2 ⟨p,hp,rfl⟩) _ (List.mem_map.2 ⟨o,ho,rfl⟩))
  · simp only [List.flatten_append,List.map_append]
    refine List.nodup_append.2 ⟨hr.nodup,hn1,fun x hx y hy=>?_⟩
    obtain ⟨o,ho,rfl⟩:=List.mem_map.1 hx
    obtain ⟨p,hp,rfl⟩:=List.mem_map.1 hy
    have:=hlt p hp
    rcases (hr.free o ho).2 with h2 | h2
    · omega
    · obtain ⟨r,hr',hrb⟩:=List.mem_map.1 h2
      exact fun e=>hdis _ (List.mem_map.2 ⟨r,hr',rfl⟩) _ (List.mem_map.2 ⟨p,hp,rfl⟩) (hrb.trans e)

theorem St.leaveF {m1 : Mem} (h : St X w0 w m (O0 ++ O1)) (hr : St (blks O0) w w' m1 O') : St X w0 w' m (O' ++ O1):=by
  have hs0 : ∀ o ∈ O0.flatten,o ∈ (O0 ++ O1).flatten:=fun o ho=>by simp only [List.flatten_append,List.mem_append]; exact .inl ho
  have keep : ∀ b cs,m b = some cs→b < w.heap.size∧b ∉ blks O0:=fun b cs hb=>by
    obtain ⟨T,fz,hh⟩:=h.vis b cs hb
    refine ⟨lt_of_heap hh,fun hc=>?_⟩
    obtain ⟨p,hp,hpb⟩:=List.mem_map.1 hc
    have:=(h.free p (hs0 p hp)).1
    rw [hpb,hb] at this
    cases this
  refine h.leave (m':=m) ⟨hr.kept,fun b cs hb=>?_,hr.own,fun o ho=>⟨?_,(hr.free o ho).2⟩,hr.nodup⟩ (MLe.refl _ _)
  · obtain ⟨T,fz,hh⟩:=h.vis b cs hb
    obtain ⟨h1,h2⟩:=keep b cs hb
    exact ⟨T,fz,by rw [hr.kept.block b h1 h2]; exact hh⟩
  · cases hm : m o.b with
    | none=>rfl
    | some c =>
      obtain ⟨h1,h2⟩:=keep _ _ hm
      rcases (hr.free o ho).2 with h3 | h3
      · omega
      · exact absurd h3 h2

theorem MLe.weakX (h : St X w0 w m (O0 ++ O1)) (hm : MLe (blks O0) w.heap.size m m') : MLe X w0.heap.size m m' :=
  ⟨hm.le,fun b cs hb=>(hm.new b cs hb).imp id fun h1=>h1.elim (fun h2=>.inl (Nat.le_trans h.kept.size h2)) fun h2=>by
    obtain ⟨p,hp,hpb⟩:=List.mem_map.1 h2
    have h3:=(h.free p (by simp only [List.flatten_append,List.mem_append]; exact .inl hp)).2
    rw [hpb] at h3
    exact h3⟩

theorem St.join {O : List Piece} (h : St X w0 w m O) (hr : St [] w w' m' O') (hm : MLe [] w.heap.size m m') : St X w0 w' m' (O' ++ O):=St.leave (O0:=[]) h hr hm

theorem St.joinF {m1 : Mem} {O : List Piece} (h : St X w0 w m O) (hr : St [] w w' m1 O') : St X w0 w' m (O' ++ O):=St.leaveF (O0:=[]) h hr

theorem St.lendX (h : St X w0 w m (O0 ++ O1)) : ∃ m',Mem.le m m'∧St (blks O0) w w m' O0∧∀ (j : Nat) (q : Piece),O1[j]? = some q→∀ o ∈ q,m' o.b = some o.cs:=by
  have hs0 : ∀ o ∈ O0.flatten,o ∈ (O0 ++ O1).flatten:=fun o ho=>by simp only [List.flatten_append,List.mem_append]; exact .inl ho
  have hs1 : ∀ o ∈ O1.flatten,o ∈ (O0 ++ O1).flatten:=fun o ho=>by simp only [List.flatten_append,List.mem_append]; exact .inr ho
  have hn:=h.nodup
  simp only [List.flatten_append,List.map_append] at hn
  obtain ⟨hn0,hn1,hdis⟩:=List.nodup_append.1 hn
  have he:=h.enter
  refine ⟨memO m O1.flatten,memO_le fun o ho=>(h.free o (hs1 o ho)).1,⟨he.kept,fun b cs hb=>?_,he.own,fun o ho=>⟨?_,(he.free o ho).2⟩,he.nodup⟩,fun j q hj o ho=>memO_in hn1 (List.mem_flatten.2 ⟨q,List.mem_of_getElem? hj,ho⟩)⟩
  · unfold memO at hb
    cases hf : O1.flatten.find? (·.b == b) with
    | none=>rw [hf] at hb; exact h.vis b cs hb
    | some p =>
      rw [hf] at hb
      simp only [Option.some.injEq] at hb
      have hp:=List.mem_of_find?_eq_some hf
      have hbb:=List.find?_some hf
      simp only [beq_iff_eq] at hbb
      subst hb hbb
      exact ⟨p.T,(0,0),h.own p (hs1 p hp)⟩
  · unfold memO
    cases hf : O1.flatten.find? (·.b == o.b) with
    | none=>exact (h.free o (hs0 o ho)).1
    | some p =>
      have hp:=List.mem_of_find?_eq_some hf
      have hbb:=List.find?_some hf
      simp only [beq_iff_eq] at hbb
      exact absurd hbb.symm (hdis _ (List.mem_map.2 ⟨o,ho,rfl⟩) _ (List.mem_map.2 ⟨p,hp,rfl⟩))

end

section

variable {P : Program} {L : List (Nat × Value)} {m : Mem} {O O0 O1 : List Piece} {a : Act} {n : Nat} {X : List Nat} {w0 w : World} {Q : Exit→Act→World→Prop} {K : Act→World→Prop}

variable {d : Option Tmp} {ty : TypeId} {p : String} {af : Array Edge} {ops : Array Oper} {rest : List Oper} {g : Option (Nat × Bool)}

theorem wp_callX {f : FuncId} {fn : Func} {args : List Operand} {ats : Array TypeId} {vs : List Value} {R : Value→World→Prop} (hF : FrD DS a n L)
    (hf : P.funcs[f]? = some fn) (hname : (fn.name == "runtime.NumGoroutine") = false) (hb : fn.body.isNone = false) (hargs : evs L args = some vs) (hd : dok d n = true)
    (hc : RetX P f vs w R) (k : ∀ a' w' v,R v w'→FrD DS a' n (putL d v L)→K a' w') :
    (⟨d,.call { callee:=.value (.func f),args:=args.toArray,argTypes:=ats },ty,p,af,g⟩ : Oper).wp P a w K Q:=by
  unfold Oper.wp
  rw [run_call (a:=a) (w:=w) rfl hf hname hb]
  have e : args.toArray.map a.eval = vs.toArray:=by simp [hF.evs hargs]
  rw [e]
  refine Calls.mono hc ?_
  rintro e w' ⟨v,rfl,hR⟩
  exact k _ _ _ hR (hF.put _ hd)

theorem ret_ofX {fn : Func} {R : Value→World→Prop} {rs : List ResultVar} {vs : List Value} (hF : Fr a n L) (hS : St X w0 w m O) (hr : fn.results = rs.toArray) (h : ResL P L O rs vs) (hR : R (tup vs) w) :
    bodyPost P fn (fun e w'=>∃ v,e = .returned v∧R v w') .ret a w :=
  bodyPost_ret (run_results hF hS hr h) hF.defers ⟨_,rfl,hR⟩

theorem ret_startX {f : FuncId} {fn : Func} {c : Code} {vs : List Value} {R : Value→World→Prop} (hf : P.funcs[f]? = some fn) (hb : fn.body = some c) (n : Nat) (hn : fn.ntmps = n) (hl : Nat.ble vs.length n = true)
    (h : ∀ a,Fr a n (argL 0 vs)→c.wp P (bodyPost P fn (fun e w'=>∃ v,e = .returned v∧R v w')) a w) : RetX P f vs w R:=by
  unfold RetX
  refine calls_of_wp hf hb (h _ ?_)
  subst hn
  exact Fr.start vs _ (Nat.le_of_ble_eq_true hl)

end

def goSub3 {α : Type} (l : List α) (i j k : Int) : Option (List α):=cond (decide (0 ≤ i) && decide (i ≤ j) && decide (j ≤ k) && decide (k ≤ (l.length : Int))) (some ((l.drop i.toNat).take (j.toNat - i.toNat))) none

structure Sub3Ok (s : Sl) (i j k : Int) : Prop where
  nn : 0 ≤ i
  ij : i ≤ j
  jk : j ≤ k
  kc : k ≤ (s.cap : Int)

section

variable {α : Type} [Rep α] {m : Mem} {T : TypeId} {q : Piece} {s : Sl} {l r : List α} {i j k : Int} {w : World}

end

section

variable {P : Program} {L : List (Nat × Value)} {m : Mem} {O : List Piece} {d : Option Tmp} {ty : TypeId} {p : String} {af : Array Edge} {g : Option (Nat × Bool)} {x y : Operand}

variable {a : Act} {n : Nat} {X : List Nat} {w0 w : World} {K : Act→World→Prop} {Q : Exit→Act→World→Prop} {α : Type} [Rep α] {l r xs : List α}

theorem wp_build0 {t E : TypeId} {sz by' : Nat} {zc : List Value} (hF : FrD DS a n L) (hS : St X w0 w m O) (hu : P.underlying t = some (.slice E)) (hI : inf P E = some (sz,by',zc)) (hd : dok d n = true)
    (k : ∀ a' w' q s,FrD DS a' n (putL d s.v L)→St X w0 w' m (q :: O)→OwnL (α:=α) m E q s []→Below w.heap.size w w'→K a' w') :
    (⟨d,.buildSlice t 0 #[],ty,p,af,g⟩ : Oper).wp P a w K Q:=by
  obtain ⟨i,z',hi,h1,h2,h3,h4⟩:=inf_spec hI
  have hrun : (Instr.buildSlice t 0 #[]).run P w = .ok (.slice (some ⟨w.heap.size,0,none⟩) 0 0) (w.alloc (.cells #[] E)):=by
    simp [Instr.buildSlice,run_underlying hu,sizeOf,typeInfo,hi,Instr.fill,newRow]
    rw [show Array.range 0 = #[] from Array.ext' (by simp),Array.map_empty]
  refine wp_of_run (v:=.slice (some ⟨w.heap.size,0,none⟩) 0 0) (w':=w.alloc (.cells #[] E)) ?_ ?_
  · simp [execOp,hrun]
  · exact k _ _ _ ⟨some ⟨w.heap.size,0,none⟩,0,0⟩ (hF.put _ hd) (hS.newRow (cs:=[])) ⟨rfl,Nat.le_refl _,Nat.zero_le _,.inr ⟨_,_,rfl,rfl,by simp,fun i hi=>by simp at hi⟩⟩ (below_alloc w _)

end

theorem e_lx {P : Program} {L : List (Nat × Value)} {m : Mem} {O : List Piece} {a : Act} {n : Nat} {X : List Nat} {w0 w : World} {ops : Array Oper} {Ld : LdB} {K : Act→World→Prop} {f : Nat} {l : Array Bool} {i : Nat} {o : Oper} {v : Value}
    (hF : FrD DS a n L) (hS : St X w0 w m O) (hi : ops[i]? = some o) (hx : Ex P o L m O v) (hg : o.guard = none) (hd : dok o.dst n = true) (k : ∀ a',FrD DS a' n (putL o.dst v L)→wpE P ops Ld K f (l.setIfInBounds i true) a' w) : EOp P ops Ld K f l i a w :=
  e_op hi hg fun _ hK=>wp_of_run (hx _ a n X w0 w hF hS) (hK _ _ (Below.refl _ _) (k _ (hF.put v hd)))

def lfold {α σ ρ : Type} (step : Nat→α→σ→Option (σ ⊕ ρ)) (fin : σ→Option ρ) : Nat→List α→σ→Option ρ
  | _,[],s=>fin s
  | k,x :: l,s=>match step k x s with
    | none=>none
    | some (.inl s')=>lfold step fin (k + 1) l s'
    | some (.inr r)=>some r

def nxt {τ σ ρ : Type} (mk : Int→σ→τ) (k : Nat) : Option (σ ⊕ ρ)→Option (Stp τ ρ)
  | none=>none
  | some (.inl s)=>some (.next (mk (k : Int) s))
  | some (.inr r)=>some (.done r)

theorem loop_list {α τ σ ρ : Type} (mk : Int→σ→τ) (l : List α) (body : τ→Option (Stp τ ρ)) (step : Nat→α→σ→Option (σ ⊕ ρ)) (fin : σ→Option ρ) (I : Nat→σ→Prop)
    (h1 : ∀ (k : Nat) (x : α) (s : σ),l[k]? = some x→I k s→body (mk k s) = nxt mk (k + 1) (step k x s)) (h2 : ∀ s,I l.length s→body (mk l.length s) = (fin s).map .done)
    (hI : ∀ (k : Nat) (x : α) (s s' : σ),l[k]? = some x→I k s→step k x s = some (.inl s')→I (k + 1) s') {s : σ} (h0 : I 0 s) : loopC body (mk 0 s) = lfold step fin 0 l s:=by
  suffices h : ∀ (r : List α) (k : Nat) (s : σ),l.drop k = r→k ≤ l.length→I k s→loopC body (mk k s) = lfold step fin k r s by
    have:=h l 0 s rfl (Nat.zero_le _) h0
    simpa using this
  intro r
  induction r with
  | nil =>
    intro k s hd hk hi
    have : k = l.length:=by
      have:=congrArg List.length hd
      simp at this
      omega
    subst this
    rw [loopC_eq,h2 s hi]
    simp only [lfold]
    cases fin s <;> rfl
  | cons x r ih =>
    intro k s hd hk hi
    have hx : l[k]? = some x:=by
      have:=List.getElem?_drop (xs:=l) (i:=k) (j:=0)
      rw [hd] at this
      simpa using this.symm
    have hlt:=(List.getElem?_eq_some_iff.1 hx).1
    have hd' : l.drop (k + 1) = r:=by rw [← List.drop_drop,hd]; rfl
    rw [loopC_eq,h1 k x s hx hi]
    simp only [lfold]
    cases hs : step k x s with
    | none=>rfl
    | some o =>
      cases o with
      | inl s'=>exact ih (k + 1) s' hd' hlt (hI k x s s' hx hi hs)
      | inr o=>rfl

section

variable {α β : Type} {l : List α} {k : Nat} {x : α}

theorem at_ok (h : l[k]? = some x) : goAt l (k : Int) = some x:=by simp [goAt,h]

theorem lt_ok (h : l[k]? = some x) : decide ((k : Int) < goLen l) = true:=by
  have:=(List.getElem?_eq_some_iff.1 h).1
  simp [goLen]; omega

theorem lt_end : decide ((l.length : Int) < goLen l) = false:=by simp [goLen]

theorem nx_ok (h : l[k]? = some x) (hl : l.length ≤ 9223372036854775807) : w64 ((k : Int) + 1) = ((k + 1 : Nat) : Int):=by
  have:=(List.getElem?_eq_some_iff.1 h).1
  rw [show w64 ((k : Int) + 1) = (k : Int) + 1 from Go.IntWalk.i64_in _ ⟨by omega,by omega⟩]
  omega

theorem loop_all (p : α→Bool) (body : Int→Option (Stp Int (Unit ⊕ Bool))) (h1 : ∀ (k : Nat) (x : α),l[k]? = some x→body k = some (if p x then .next ((k + 1 : Nat) : Int) else .done (.inr false)))
    (h2 : ∀ _ : Unit,body l.length = some (.done (.inl ()))) : loopC body 0 = some (if l.all p then .inl () else .inr false):=by
  have h:=loop_list (σ:=Unit) (fun k _=>k) l body (fun _ x _=>some (if p x then .inl () else .inr (.inr false))) (fun _=>some (.inl ())) (fun _ _=>True)
    (fun k x _ hx _=>by rw [h1 k x hx]; by_cases hp : p x = true <;> simp [nxt,hp]) (fun _ _=>by rw [h2 ()]; rfl) (fun _ _ _ _ _ _ _=>trivial) (s:=()) trivial
  rw [h]
  clear h h1 h2
  suffices ∀ k,lfold (ρ:=Unit ⊕ Bool) (fun _ x (_ : Unit)=>some (if p x then .inl () else .inr (.inr false))) (fun _=>some (.inl ())) k l () = some (if l.all p then .inl () else .inr false) from this 0
  induction l with
  | nil=>intro k; rfl
  | cons y l ih =>
    intro k
    simp only [lfold]
    by_cases hp : p y = true
    · simp only [hp,if_true,ih,List.all_cons,Bool.true_and]
    · simp [hp]

theorem loop_map (f : α→β) (z : β) (body : List β × Int→Option (Stp (List β × Int) (List β)))
    (h1 : ∀ (k : Nat) (x : α) (out : List β),l[k]? = some x→out.length = l.length→body (out,k) = some (.next (out.set k (f x),((k + 1 : Nat) : Int)))) (h2 : ∀ out,body (out,l.length) = some (.done out)) :
    loopC body (List.replicate l.length z,0) = some (l.map f):=by
  have h:=loop_list (σ:=List β) (fun k out=>(out,k)) l body (fun k x out=>some (.inl (out.set k (f x)))) (fun out=>some out) (fun k out=>out.length = l.length∧out.take k = (l.take k).map f)
    (fun k x s hx hi=>by rw [h1 k x s hx hi.1]; rfl) (fun s hi=>by rw [h2]; rfl) (fun k x s s' hx hi hs=>by
      obtain ⟨hl,ht⟩:=hi
      simp only [Option.some.injEq,Sum.inl.injEq] at hs
      subst hs
      have hlt:=(List.getElem?_eq_some_iff.1 hx).1
      refine ⟨by simpa using hl,?_⟩
      rw [List.take_add_one,List.take_add_one,List.take_set_of_le (Nat.le_refl _),ht]
      simp [hx,hl,hlt]
      rw [List.take_add_one]
      simp [hx]) (s:=List.replicate l.length z) ⟨by simp,by simp⟩
  rw [h]
  clear h h2
  suffices hh : ∀ (r : List α) (k : Nat) (out : List β),l.drop k = r→out.length = l.length→out.take k = (l.take k).map f→lfold (ρ:=List β) (fun k x out=>some (.inl (out.set k (f x)))) (fun out=>some out) k r out = some (l.map f) from
    hh l 0 _ rfl (by simp) (by simp)
  intro r
  induction r with
  | nil =>
    intro k out hd hl ht
    have hk : l.length ≤ k:=by
      have:=congrArg List.length hd
      simp at this
      omega
    rw [List.take_of_length_le (by omega),List.take_of_length_le hk] at ht
    simp [lfold,ht]
  | cons x r ih =>
    intro k out hd hl ht
    have hx : l[k]? = some x:=by
      have:=List.getElem?_drop (xs:=l) (i:=k) (j:=0)
      rw [hd] at this
      simpa using this.symm
    have hlt:=(List.getElem?_eq_some_iff.1 hx).1
    have hd' : l.drop (k + 1) = r:=by rw [← List.drop_drop,hd]; rfl
    simp only [lfold]
    refine ih (k + 1) _ hd' (by simpa using hl) ?_
    rw [List.take_add_one,List.take_add_one,List.take_set_of_le (Nat.le_refl _),ht]
    simp [hx,hl,hlt]
    rw [List.take_add_one]
    simp [hx]

theorem goMake_ok {bytes n : Nat} {z : α} (h : bytes * n ≤ 281474976710656) (h2 : n ≤ 9223372036854775807) : goMake bytes (n : Int) z = some (List.replicate n z):=by
  unfold goMake
  rw [show (decide (0 ≤ (n : Int)) && decide ((bytes : Int) * n ≤ 281474976710656) && decide ((n : Int) ≤ 9223372036854775807)) = true by simp; omega]
  simp

theorem goApp_ok {bytes : Nat} {l x : List α} (h : (l.length + x.length) * bytes ≤ 140737488355328) : goApp bytes l x = some (l ++ x):=by
  unfold goApp
  rw [show decide ((l.length + x.length) * bytes ≤ 140737488355328) = true by simpa using h]
  rfl

def mapO (f : Nat→α→Option β) : Nat→List α→Option (List β)
  | _,[]=>some []
  | k,x :: l=>match f k x with
    | none=>none
    | some y=>match mapO f (k + 1) l with
      | none=>none
      | some r=>some (y :: r)

end

def goShr (k : IntKind) (x n : Int) : Option Int:=cond (decide (n < 0)) none (some (x.fdiv (2 ^ min n.toNat k.bits)))

def goShl (k : IntKind) (x n : Int) : Option Int:=cond (decide (n < 0)) none (some (k.wrap (x * 2 ^ min n.toNat k.bits)))

def goBits (op : BinOp) (k : IntKind) (x y : Int) : Int:=match op with
  | .and=>k.wrap (BitVec.ofInt k.bits x &&& BitVec.ofInt k.bits y).toNat
  | .or=>k.wrap (BitVec.ofInt k.bits x ||| BitVec.ofInt k.bits y).toNat
  | .xor=>k.wrap (BitVec.ofInt k.bits x ^^^ BitVec.ofInt k.bits y).toNat
  | _=>k.wrap (BitVec.ofInt k.bits x &&& ~~~BitVec.ofInt k.bits y).toNat

def isBits : BinOp→Bool
  | .and | .or | .xor | .andNot=>true
  | _=>false

section

variable {P : Program} {L : List (Nat × Value)} {m : Mem} {O : List Piece} {d : Option Tmp} {ty : TypeId} {p : String} {af : Array Edge} {g : Option (Nat × Bool)} {x y : Operand}

theorem ex_bits {op : BinOp} {xt yt : TypeId} {k : IntKind} {i j : Int} (ho : isBits op = true) (hx : evo L x = some (.int k i)) (hy : evo L y = some (.int k j)) :
    Ex P ⟨d,.binOp op xt x y yt,ty,p,af,g⟩ L m O (.int k (goBits op k i j)):=fun _ a n X w0 w hF _=>by
  have e1:=hF.eval hx
  have e2:=hF.eval hy
  cases op <;> simp [isBits] at ho <;> simp [execOp,e1,e2,eqGuard,binOp,Op.intBits,goBits]

theorem ex_shr {xt yt : TypeId} {k k' : IntKind} {i j t : Int} (hx : evo L x = some (.int k i)) (hy : evo L y = some (.int k' j)) (h : goShr k i j = some t) :
    Ex P ⟨d,.binOp .shr xt x y yt,ty,p,af,g⟩ L m O (.int k t):=fun _ a n X w0 w hF _=>by
  unfold goShr at h
  by_cases hj : j < 0
  · simp [hj] at h
  · simp only [hj,decide_false,cond_false,Option.some.injEq] at h
    subst h
    simp [execOp,hF.eval hx,hF.eval hy,eqGuard,binOp,Op.shift,hj]

theorem ex_shl {xt yt : TypeId} {k k' : IntKind} {i j t : Int} (hx : evo L x = some (.int k i)) (hy : evo L y = some (.int k' j)) (h : goShl k i j = some t) :
    Ex P ⟨d,.binOp .shl xt x y yt,ty,p,af,g⟩ L m O (.int k t):=fun _ a n X w0 w hF _=>by
  unfold goShl at h
  by_cases hj : j < 0
  · simp [hj] at h
  · simp only [hj,decide_false,cond_false,Option.some.injEq] at h
    subst h
    simp [execOp,hF.eval hx,hF.eval hy,eqGuard,binOp,Op.shift,hj]

end

theorem ex_nilCheck {P : Program} {L : List (Nat × Value)} {m : Mem} {O : List Piece} {d : Option Tmp} {ty : TypeId} {p : String} {af : Array Edge} {g : Option (Nat × Bool)} {x : Operand} {a : Addr} (hx : evo L x = some (.pointer (some a))) :
    Ex P ⟨d,.nilCheck x,ty,p,af,g⟩ L m O (.pointer (some a)):=fun _ a n X w0 w hF _=>by simp [execOp,hF.eval hx]

theorem bcase (b : Bool) : b = false ∨ b = true:=by cases b <;> simp

end Go.Gx

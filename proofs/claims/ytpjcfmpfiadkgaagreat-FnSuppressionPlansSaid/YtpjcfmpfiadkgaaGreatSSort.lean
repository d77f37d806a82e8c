import Derived.Test.YtpjcfmpfiadkgaaGreatSDefs
import Derived.Test.YtpjcfmpfiadkgaaGreatRows
import Derived.Test.YtpjcfmpfiadkgaaGreatSPSp3
import Derived.Test.YtpjcfmpfiadkgaaGreatSShelf
namespace Go.Gx.F
open Go.Gx
set_option linter.all false

noncomputable def cmp_isNaN_int (p_x : Int) : Option (Bool) :=
  some (p_x != p_x)

noncomputable def cmp_Compare_int (p_x : Int) (p_y : Int) : Option (Int) :=
  ((cmp_isNaN_int p_x).bind fun t_1=>((cmp_isNaN_int p_y).bind fun t_2=>(cond t_1 (cond t_2 (some 0) (some (-1))) (cond t_2 (some 1) (cond (decide (p_x < p_y)) (some (-1)) (cond (decide (p_y < p_x)) (some 1) (some 0)))))))

noncomputable def slices_Compare_int_int_l1 (p_s1 : List Int) (p_s2 : List Int) (t_3 : Int) : Option (Stp (Int) ((Unit) ⊕ (Int))) :=
  (cond (decide (t_3 < (goLen p_s1))) ((goAt p_s1 t_3).bind fun e_4=>(cond (decide ((goLen p_s2) ≤ t_3)) (some (.done (.inr 1))) ((goAt p_s2 t_3).bind fun e_6=>((cmp_Compare_int e_4 e_6).bind fun t_8=>(cond (t_8 != 0) (some (.done (.inr t_8))) (some (.next (w64 (t_3 + 1))))))))) (some (.done (.inl ()))))

noncomputable def slices_Compare_int_int (p_s1 : List Int) (p_s2 : List Int) : Option (Int) :=
  ((loopC (slices_Compare_int_int_l1 p_s1 p_s2) 0).bind fun | .inl ()=>(cond (decide ((goLen p_s1) < (goLen p_s2))) (some (-1)) (some 0)) | .inr o=>some o)

noncomputable def slices_CompareFunc_int_int_int_int_l1 (p_s1 : List (List Int)) (p_s2 : List (List Int)) (t_3 : Int) : Option (Stp (Int) ((Unit) ⊕ (Int))) :=
  (cond (decide (t_3 < (goLen p_s1))) ((goAt p_s1 t_3).bind fun e_4=>(cond (decide ((goLen p_s2) ≤ t_3)) (some (.done (.inr 1))) ((goAt p_s2 t_3).bind fun e_7=>((slices_Compare_int_int e_4 e_7).bind fun t_10=>(cond (t_10 != 0) (some (.done (.inr t_10))) (some (.next (w64 (t_3 + 1))))))))) (some (.done (.inl ()))))

noncomputable def slices_CompareFunc_int_int_int_int (p_s1 : List (List Int)) (p_s2 : List (List Int)) : Option (Int) :=
  ((loopC (slices_CompareFunc_int_int_int_int_l1 p_s1 p_s2) 0).bind fun | .inl ()=>(cond (decide ((goLen p_s1) < (goLen p_s2))) (some (-1)) (some 0)) | .inr o=>some o)

noncomputable def cmp_Or_int_l1 (p_vals : List Int) (t_2 : Int) : Option (Stp (Int) ((Unit) ⊕ (Int))) :=
  (cond (decide (t_2 < (goLen p_vals))) ((goAt p_vals t_2).bind fun e_3=>(cond (e_3 != 0) (some (.done (.inr e_3))) (some (.next (w64 (t_2 + 1)))))) (some (.done (.inl ()))))

noncomputable def cmp_Or_int (p_vals : List Int) : Option (Int) :=
  ((loopC (cmp_Or_int_l1 p_vals) 0).bind fun | .inl ()=>some 0 | .inr o=>some o)

noncomputable def impl_LeastPlan_1 (p_a : impl_choice) (p_b : impl_choice) : Option (Int) :=
  ((cmp_Compare_int (goLen p_a.cells) (goLen p_b.cells)).bind fun t_13=>((cmp_Compare_int p_a.value p_b.value).bind fun t_14=>((slices_CompareFunc_int_int_int_int p_a.cells p_b.cells).bind fun t_15=>((cmp_Or_int ([t_13,t_14,t_15] : List Int)).bind fun t_17=>some t_17))))

end Go.Gx.F
namespace Go.Proofs.YtpjcfmpfiadkgaaGreat
open Go.Gx Go.Gx.F Go.RowKit
set_option linter.all false
set_option maxRecDepth 10000

def U3 := @Tryz.underlying3
def U4 := @Tryz.underlying4
def U5 := @Tryz.underlying5
def U9 := @Tryz.underlying9
def U22 := @Tryz.underlying22
def U23 := @Tryz.underlying23
def U27 := @Tryz.underlying27
def U39 := @Tryz.underlying39
def U41 := @Tryz.underlying41
def U47 := @Tryz.underlying47
def U48 := @Tryz.underlying48
def U52 := @Tryz.underlying52
def U59 := @Tryz.underlying59
def U76 := @Tryz.underlying76
def U98 := @Tryz.underlying98
def U116 := @Tryz.underlying116
section
variable {DS : List Deferred} {P : Program} {L : List (Nat × Value)} {a : Act} {n : Nat} {w : World} {ops : Array Oper} {Ld : LdB} {K : Act → World → Prop} {f : Nat} {l : Array Bool} {o : Oper}
theorem e_K {j t : Nat} {b c e : Bool} (i : Nat) (hF : FrD DS a n L) (hi : ops[i]? = some o) (hb : b = e)
    (k : ∀ a', FrD DS a' n (putL o.dst undef L) → wpE P ops Ld K f (l.setIfInBounds i true) a' w) (hg : o.guard = some (j, c) := by rfl) (hj : (ops[j]?).bind (·.dst) = some t := by rfl) (hl : lk L t = some (.bool b) := by rfl) (hbc : (e == c) = false := by rfl) (hd : dok o.dst n = true := by rfl) (hs : Region.noSelect ops = true := by kernel_rfl) (hf : Region.free .any ops l i = true := by kernel_rfl) (hr : (Region.ready .any ops l).contains i = true := by kernel_rfl) : wpE P ops Ld K (f + 1) l a w :=
  e_skipP i hF hi (wanted_f hF hg hj hl hb hbc) hd hs hf hr k
theorem e_G {j t : Nat} {b c : Bool} {v : Value} (i : Nat) (hF : FrD DS a n L) (hi : ops[i]? = some o) (hx : Ex P o L (fun _ => none) [] v) (hb : b = c)
    (k : ∀ a', FrD DS a' n (putL o.dst v L) → wpE P ops Ld K f (l.setIfInBounds i true) a' w) (hg : o.guard = some (j, c) := by rfl) (hj : (ops[j]?).bind (·.dst) = some t := by rfl) (hl : lk L t = some (.bool b) := by rfl) (hd : dok o.dst n = true := by rfl) (hs : Region.noSelect ops = true := by kernel_rfl) (hf : Region.free .any ops l i = true := by kernel_rfl) (hr : (Region.ready .any ops l).contains i = true := by kernel_rfl) : wpE P ops Ld K (f + 1) l a w :=
  e_pg i hF hi hx (wanted_t hF hg hj hl hb) hd hs hf hr k
end

theorem mixed : Tryz.prog.follows .mixedOrders = true:=by kernel_rfl
theorem inf3 : inf Tryz.prog 3 = some (1,8,[(.int .i64 0)]):=by kernel_rfl
theorem sz3 : szOf Tryz.prog 3 = some 1:=by kernel_rfl
theorem sz23 : szOf Tryz.prog 23 = some 1:=by kernel_rfl
theorem sz48 : szOf Tryz.prog 48 = some 1:=by kernel_rfl

section
variable {DS : List Deferred} {P : Program} {L : List (Nat × Value)} {m : Mem} {O : List Piece} {a : Act} {n : Nat} {X : List Nat} {w0 w : World} {Q : Exit→Act→World→Prop}

theorem q_boxD {ops : Array Oper} {rest : List Oper} {d : Option Tmp} {ty : TypeId} {p : String} {af : Array Edge} {x : Operand} {T : TypeId} {v : Value} {cs : List Value}
    (hF : FrD DS a n L) (hS : St X w0 w m O) (hx : evo L x = some v) (hv : v.cells = cs.toArray) (hd : dok d n = true)
    (k : ∀ a' w' b,FrD DS a' n (putL d (.pointer (some ⟨b,0,none⟩)) L)→St X w0 w' m ([⟨b,cs,T⟩] :: O)→w'.drawn = w.drawn→wpList P ops Q rest a' w') : wpList P ops Q (⟨d,.box T x,ty,p,af,none⟩ :: rest) a w:=by
  refine wpList_plain rfl fun _ hK=>wp_of_run (v:=.pointer (some ⟨w.heap.size,0,none⟩)) (w':=w.alloc (.cells cs.toArray T)) ?_ (hK _ _ (k _ _ _ (hF.put _ hd) (hS.alloc cs T) rfl))
  simp [execOp,hF.eval hx,Instr.box,newVar,newRow,newObj,hv,Sem.run]

theorem e_regionD {id : Nat} {l : List Oper} (Ld : LdB) (hm : P.follows .mixedOrders = true)
    (h : ∀ w',Below w.heap.size w w'→w'.drawn = w.drawn + 1→wpE P l.toArray Ld (fun a w=>Q .normal a w) l.length (Array.replicate l.length false) a w') : (Code.region id l.toArray true).wp P Q a w:=by
  refine wp_region_any hm ?_
  have:=h { w with drawn:=w.drawn + 1 } ⟨rfl,rfl,rfl,Nat.le_refl _,fun _ _=>rfl⟩ rfl
  have h2:=wpAny_of_E (Q':=Q) (fun _ _ h=>h) _ _ _ _ this
  simpa using h2

theorem wp_buildSliceD {α : Type} [Rep α] {l : List α} {K : Act→World→Prop} {d : Option Tmp} {ty : TypeId} {p : String} {af : Array Edge} {g : Option (Nat × Bool)} {t E : TypeId} {len : Nat} {ps : List (Nat × Operand)} {vs : List (Nat × Value)} {cells : List Value} {sz by' : Nat} {zc : List Value} (hF : FrD DS a n L) (hS : St X w0 w m O) (hu : P.underlying t = some (.slice E)) (hI : inf P E = some (sz,by',zc))
    (hp : evps L ps = some vs) (hsm : Nat.blt 16777216 (len * sz) = false) (hf : Instr.fill (fun i=>some (i * sz,sz)) (madeCells zc.toArray (len * sz)) vs = some cells.toArray) (hwd : Rep.wd α = sz) (hl : l.length = len) (hpos : Nat.beq (len * sz) 0 = false)
    (hrd : RdAll m cells l) (hmx : Nat.ble len 16777216 = true) (hd : dok d n = true)
    (k : ∀ a' w' q s,FrD DS a' n (putL d s.v L)→St X w0 w' m (q :: O)→OwnL m E q s l→w'.drawn = w.drawn→Below w.heap.size w w'→K a' w') :
    (⟨d,.buildSlice t len ps.toArray,ty,p,af,g⟩ : Oper).wp P a w K Q:=by
  obtain ⟨i,z',hi,h1,h2,h3,h4⟩:=inf_spec hI
  subst h1
  have hsm' : ¬ len * i.size > 2 ^ 24:=by
    intro hc
    have : Nat.blt 16777216 (len * i.size) = true:=by rw [Nat.blt_eq]; omega
    rw [this] at hsm; cases hsm
  have hpos' : ¬ len * i.size = 0:=by
    intro hc
    rw [hc] at hpos; cases hpos
  have he : (ps.toArray.map fun (i,x)=>(i,a.eval x)).toList = vs:=by
    have:=hF.evps hp
    simpa using this
  have hrun:=run_buildSlice (P:=P) w t E len (ps.toArray.map fun (i,x)=>(i,a.eval x)) cells.toArray i z' hu hi h3 hsm' hpos' (by rw [he,h4]; exact hf)
  refine wp_of_run (v:=.slice (some ⟨w.heap.size,0,none⟩) len len) (w':=w.alloc (.cells cells.toArray E)) ?_ ?_
  · simp only [execOp,Sem.run_bind,hrun,Result.andThen_ok,Sem.run_pure]
  · subst hl
    refine k _ _ _ ⟨some ⟨w.heap.size,0,none⟩,l.length,l.length⟩ (hF.put _ hd) hS.newRow ?_ rfl (below_alloc _ _)
    have:=Nat.le_of_ble_eq_true hmx
    exact OwnL.fresh (Nat.le_refl _) (by simp only [maxLen]; omega) hrd.len fun k hk=>hrd.get k hk
end

theorem k_cmp_isNaN_int (p_x : Int) (r : Bool) (hr : cmp_isNaN_int p_x = some r) (w0 : World) (m : Mem) (hv : Vis m w0) :
  Ret Tryz.prog 60 [(.int .i64 p_x)] w0 (fun v w=>v = (.bool r)∧w.drawn = w0.drawn):=by
 unfold cmp_isNaN_int at hr
 have hd : w0.drawn = w0.drawn:=rfl
 refine ret_start Tryz.func60 rfl 6 rfl rfl m hv fun a hF hS=>q_sr (q_s hF rfl fun a hF=>q_end (n_sq (q_sr (q_m hF rfl fun a hF=>q_m hF rfl fun a hF=>q_y (v:=(.bool (p_x != p_x))) hF hS (ex_ibin rfl rfl rfl) fun a hF=>q_s hF rfl fun a hF=>q_end (n_sq (q_ret ?_))))))
 obtain rfl:=someI hr
 exact ret_of hF hS rfl (.tmp rfl .nil) ⟨rfl,hd⟩

theorem k_cmp_Compare_int (p_x : Int) (p_y : Int) (r : Int) (hr : cmp_Compare_int p_x p_y = some r) (w0 : World) (m : Mem) (hv : Vis m w0) :
  Ret Tryz.prog 25 [(.int .i64 p_x),(.int .i64 p_y)] w0 (fun v w=>v = (.int .i64 r)∧w.drawn = w0.drawn):=by
 unfold cmp_Compare_int at hr
 have hd : w0.drawn = w0.drawn:=rfl
 refine ret_start Tryz.func25 rfl 20 rfl rfl m hv fun a hF hS=>q_sr (q_s hF rfl fun a hF=>q_end (n_sq (q_sr (q_m hF rfl fun a hF=>?_))))
 obtain ⟨t_1,ht_1,hr⟩:=bindS hr
 refine q_call (vs:=[(.int .i64 p_x)]) hF hS Tryz.func60 (by kernel_rfl) rfl rfl rfl (k_cmp_isNaN_int p_x t_1 ht_1 _ m hS.vis) ?_
 rintro a w _ ⟨rfl,hd'⟩ hF hS
 have hd:=hd'.trans hd
 refine q_s hF rfl fun a hF=>q_end (n_sq (q_sr (q_m hF rfl fun a hF=>?_)))
 obtain ⟨t_2,ht_2,hr⟩:=bindS hr
 refine q_call (vs:=[(.int .i64 p_y)]) hF hS Tryz.func60 (by kernel_rfl) rfl rfl rfl (k_cmp_isNaN_int p_y t_2 ht_2 _ m hS.vis) ?_
 rintro a w _ ⟨rfl,hd'⟩ hF hS
 have hd:=hd'.trans hd
 refine q_s hF rfl fun a hF=>q_end (n_sq (q_seq (q_sr (q_m hF rfl fun a hF=>q_end (n_sq ?_)))))
 rcases bcase (t_1) with hc1 | hc1
 ·have hr:=cond_f hc1 hr
  refine q_cond_f hF rfl hc1 (q_skipc (n_sq (q_seq (q_sr (q_m hF rfl fun a hF=>q_end (n_sq ?_))))))
  rcases bcase (t_2) with hc2 | hc2
  ·have hr:=cond_f hc2 hr
   refine q_cond_f hF rfl hc2 (q_skipc (n_sq (q_seq (q_sr (q_m hF rfl fun a hF=>q_m hF rfl fun a hF=>q_y (v:=(.bool (decide (p_x < p_y)))) hF hS (ex_ibin rfl rfl rfl) fun a hF=>q_end (n_sq ?_))))))
   rcases bcase (decide (p_x < p_y)) with hc3 | hc3
   ·have hr:=cond_f hc3 hr
    refine q_cond_f hF rfl hc3 (q_skipc (n_sq (q_seq (q_sr (q_m hF rfl fun a hF=>q_m hF rfl fun a hF=>q_y (v:=(.bool (decide (p_y < p_x)))) hF hS (ex_ibin rfl rfl rfl) fun a hF=>q_end (n_sq ?_))))))
    rcases bcase (decide (p_y < p_x)) with hc4 | hc4
    ·have hr:=cond_f hc4 hr
     refine q_cond_f hF rfl hc4 (q_skipc (n_sq (q_sr (q_s hF rfl fun a hF=>q_end (n_sq (q_ret ?_))))))
     obtain rfl:=someI hr
     exact ret_of hF hS rfl (.tmp rfl .nil) ⟨rfl,hd⟩
    ·have hr:=cond_t hc4 hr
     refine q_cond_t hF rfl hc4 (q_sr (q_s hF rfl fun a hF=>q_end (n_sq (q_ret (r_sq ?_)))))
     obtain rfl:=someI hr
     exact ret_of hF hS rfl (.tmp rfl .nil) ⟨rfl,hd⟩
   ·have hr:=cond_t hc3 hr
    refine q_cond_t hF rfl hc3 (q_sr (q_s hF rfl fun a hF=>q_end (n_sq (q_ret (r_sq ?_)))))
    obtain rfl:=someI hr
    exact ret_of hF hS rfl (.tmp rfl .nil) ⟨rfl,hd⟩
  ·have hr:=cond_t hc2 hr
   refine q_cond_t hF rfl hc2 (q_sr (q_s hF rfl fun a hF=>q_end (n_sq (q_ret (r_sq ?_)))))
   obtain rfl:=someI hr
   exact ret_of hF hS rfl (.tmp rfl .nil) ⟨rfl,hd⟩
 ·have hr:=cond_t hc1 hr
  refine q_cond_t hF rfl hc1 (q_seq (q_sr (q_m hF rfl fun a hF=>q_end (n_sq ?_))))
  rcases bcase (t_2) with hc5 | hc5
  ·have hr:=cond_f hc5 hr
   refine q_cond_f hF rfl hc5 (q_skipc (n_sq (q_sr (q_s hF rfl fun a hF=>q_end (n_sq (q_ret (r_sq ?_)))))))
   obtain rfl:=someI hr
   exact ret_of hF hS rfl (.tmp rfl .nil) ⟨rfl,hd⟩
  ·have hr:=cond_t hc5 hr
   refine q_cond_t hF rfl hc5 (q_sr (q_s hF rfl fun a hF=>q_end (n_sq (q_ret (r_sq (r_sq ?_))))))
   obtain rfl:=someI hr
   exact ret_of hF hS rfl (.tmp rfl .nil) ⟨rfl,hd⟩

theorem k_slices_Compare_int_int (p_s1 : List Int) (p_s2 : List Int) (r : Int) (hr : slices_Compare_int_int p_s1 p_s2 = some r) (w0 : World) (m : Mem) (hv : Vis m w0) (s1 : Sl) (h1 : Rd m s1 p_s1) (s2 : Sl) (h2 : Rd m s2 p_s2) :
  Ret Tryz.prog 27 [s1.v,s2.v] w0 (fun v w=>v = (.int .i64 r)∧w.drawn = w0.drawn):=by
 unfold slices_Compare_int_int at hr
 have hd : w0.drawn = w0.drawn:=rfl
 refine ret_start Tryz.func27 rfl 36 rfl rfl m hv fun a hF hS=>q_sr (q_s hF rfl fun a hF=>q_end (n_sq (q_seq (q_sr (q_m hF rfl fun a hF=>q_y (v:=(.int .i64 (goLen p_s1))) hF hS (ex_len U48 rfl h1.len) fun a hF=>q_m hF rfl fun a hF=>q_end (n_sq (q_block ?_)))))))
 obtain ⟨o1,hl1,hr⟩:=bindS hr
 refine q_loop (fun (t_3 : Int) a w=>Fr a 36 [(0,s1.v),(1,s2.v),(9,s1.v),(10,(.int .i64 (goLen p_s1))),(11,(.int .i64 t_3))]∧St [] w0 w m []∧w.drawn = w0.drawn) (fun (o : (Unit) ⊕ (Int)) e a w=>o = .inl ()∧e = .exit 0∧Fr a 36 [(0,s1.v),(1,s2.v)]∧St [] w0 w m []∧w.drawn = w0.drawn) hl1 ⟨hF.sub ⟨rfl,rfl,rfl,rfl,rfl,trivial⟩,hS,hd⟩ ?_ ?_
 ·clear hF hS hd
  rintro t_3 a w st ⟨hF,hS,hd⟩ hb1
  unfold slices_Compare_int_int_l1 at hb1
  refine q_sr (q_y (v:=(.bool (decide (t_3 < (goLen p_s1))))) hF hS (ex_ibin rfl rfl rfl) fun a hF=>q_end (n_sq (q_seq ?_)))
  rcases bcase (decide (t_3 < (goLen p_s1))) with hc2 | hc2
  ·have hb1:=cond_f hc2 hb1
   refine q_cond_f hF rfl hc2 (q_exit (x_sq ?_))
   obtain rfl:=someI hb1
   exact ⟨nofun,.inl ⟨rfl,rfl,hF.sub ⟨rfl,rfl,trivial⟩,hS,hd⟩⟩
  ·have hb1:=cond_t hc2 hb1
   refine q_cond_t hF rfl hc2 (q_skipc (n_sq (q_seq (q_block (q_sr (q_m hF rfl fun a hF=>?_))))))
   obtain ⟨e_4,he_4,hb1⟩:=bindS hb1
   obtain ⟨vs5,at5,d5⟩:=h1.at he_4 1 rfl
   obtain rfl : vs5 = [(.int .i64 e_4)]:=d5
   refine q_y (v:=(elP s1 (t_3.toNat * 1))) hF hS (ex_indexAddr U48 sz3 rfl rfl (h1.idx he_4)) fun a hF=>q_y (v:=(.int .i64 e_4)) hF hS (ex_loadE1 0 U3 rfl rfl ((at5).at) rfl rfl) fun a hF=>q_s hF rfl fun a hF=>q_s hF rfl fun a hF=>q_end (n_sq (q_seq (q_sr (q_m hF rfl fun a hF=>q_m hF rfl fun a hF=>q_y (v:=(.int .i64 (goLen p_s2))) hF hS (ex_len U48 rfl h2.len) fun a hF=>q_y (v:=(.bool (decide ((goLen p_s2) ≤ t_3)))) hF hS (ex_ibin rfl rfl rfl) fun a hF=>q_end (n_sq ?_)))))
   rcases bcase (decide ((goLen p_s2) ≤ t_3)) with hc3 | hc3
   ·have hb1:=cond_f hc3 hb1
    refine q_cond_f hF rfl hc3 (q_skipc (n_sq (q_sr (q_m hF rfl fun a hF=>q_m hF rfl fun a hF=>?_))))
    obtain ⟨e_6,he_6,hb1⟩:=bindS hb1
    obtain ⟨vs7,at7,d7⟩:=h2.at he_6 1 rfl
    obtain rfl : vs7 = [(.int .i64 e_6)]:=d7
    refine q_y (v:=(elP s2 (t_3.toNat * 1))) hF hS (ex_indexAddr U48 sz3 rfl rfl (h2.idx he_6)) fun a hF=>q_y (v:=(.int .i64 e_6)) hF hS (ex_loadE1 0 U3 rfl rfl ((at7).at) rfl rfl) fun a hF=>q_s hF rfl fun a hF=>q_end (n_sq (q_sr (q_m hF rfl fun a hF=>q_m hF rfl fun a hF=>?_)))
    obtain ⟨t_8,ht_8,hb1⟩:=bindS hb1
    refine q_call (vs:=[(.int .i64 e_4),(.int .i64 e_6)]) hF hS Tryz.func25 (by kernel_rfl) rfl rfl rfl (k_cmp_Compare_int e_4 e_6 t_8 ht_8 _ m hS.vis) ?_
    rintro a w _ ⟨rfl,hd'⟩ hF hS
    have hd:=hd'.trans hd
    refine q_s hF rfl fun a hF=>q_end (n_sq (q_sr (q_m hF rfl fun a hF=>q_y (v:=(.bool (t_8 != 0))) hF hS (ex_ibin rfl rfl rfl) fun a hF=>q_end (n_sq ?_))))
    rcases bcase (t_8 != 0) with hc4 | hc4
    ·have hb1:=cond_f hc4 hb1
     refine q_cond_f hF rfl hc4 (q_skipc (n_ib (n_sq (q_region (q_y (v:=(.int .i64 (w64 (t_3 + 1)))) hF hS (ex_ibin rfl rfl rfl) fun a hF=>q_m hF rfl fun a hF=>q_end ?_)))))
     obtain rfl:=someI hb1
     exact ⟨rfl,hF.sub ⟨rfl,rfl,rfl,rfl,rfl,trivial⟩,hS,hd⟩
    ·have hb1:=cond_t hc4 hb1
     refine q_cond_t hF rfl hc4 (q_sr (q_m hF rfl fun a hF=>q_s hF rfl fun a hF=>q_end (n_sq (q_ret (r_ib (r_sq ?_))))))
     obtain rfl:=someI hb1
     refine ⟨nofun,.inr fun ho=>?_⟩
     subst ho
     refine r_ib (r_sq ?_)
     obtain rfl:=someI hr
     exact ret_of hF hS rfl (.tmp rfl .nil) ⟨rfl,hd⟩
   ·have hb1:=cond_t hc3 hb1
    refine q_cond_t hF rfl hc3 (q_sr (q_s hF rfl fun a hF=>q_end (n_sq (q_ret (r_sq (r_ib (r_sq ?_)))))))
    obtain rfl:=someI hb1
    refine ⟨nofun,.inr fun ho=>?_⟩
    subst ho
    refine r_ib (r_sq ?_)
    obtain rfl:=someI hr
    exact ret_of hF hS rfl (.tmp rfl .nil) ⟨rfl,hd⟩
 ·rintro e a w ⟨rfl,rfl,hF,hS,hd⟩
  refine x_ib (n_sq ?_)
  refine q_seq (q_sr (q_m hF rfl fun a hF=>q_y (v:=(.int .i64 (goLen p_s1))) hF hS (ex_len U48 rfl h1.len) fun a hF=>q_m hF rfl fun a hF=>q_y (v:=(.int .i64 (goLen p_s2))) hF hS (ex_len U48 rfl h2.len) fun a hF=>q_y (v:=(.bool (decide ((goLen p_s1) < (goLen p_s2))))) hF hS (ex_ibin rfl rfl rfl) fun a hF=>q_end (n_sq ?_)))
  rcases bcase (decide ((goLen p_s1) < (goLen p_s2))) with hc5 | hc5
  ·have hr:=cond_f hc5 hr
   refine q_cond_f hF rfl hc5 (q_skipc (n_sq (q_sr (q_s hF rfl fun a hF=>q_end (n_sq (q_ret ?_))))))
   obtain rfl:=someI hr
   exact ret_of hF hS rfl (.tmp rfl .nil) ⟨rfl,hd⟩
  ·have hr:=cond_t hc5 hr
   refine q_cond_t hF rfl hc5 (q_sr (q_s hF rfl fun a hF=>q_end (n_sq (q_ret (r_sq ?_)))))
   obtain rfl:=someI hr
   exact ret_of hF hS rfl (.tmp rfl .nil) ⟨rfl,hd⟩

theorem k_slices_CompareFunc_int_int_int_int (p_s1 : List (List Int)) (p_s2 : List (List Int)) (r : Int) (hr : slices_CompareFunc_int_int_int_int p_s1 p_s2 = some r) (w0 : World) (m : Mem) (hv : Vis m w0) (s1 : Sl) (h1 : Rd m s1 p_s1) (s2 : Sl) (h2 : Rd m s2 p_s2) :
  Ret Tryz.prog 26 [s1.v,s2.v,.func (.func 27) #[] #[]] w0 (fun v w=>v = (.int .i64 r)∧w.drawn = w0.drawn):=by
 unfold slices_CompareFunc_int_int_int_int at hr
 have hd : w0.drawn = w0.drawn:=rfl
 refine ret_start Tryz.func26 rfl 39 rfl rfl m hv fun a hF hS=>q_sr (q_s hF rfl fun a hF=>q_end (n_sq (q_seq (q_sr (q_m hF rfl fun a hF=>q_y (v:=(.int .i64 (goLen p_s1))) hF hS (ex_len U23 rfl h1.len) fun a hF=>q_m hF rfl fun a hF=>q_end (n_sq (q_block ?_)))))))
 obtain ⟨o1,hl1,hr⟩:=bindS hr
 refine q_loop (fun (t_3 : Int) a w=>Fr a 39 [(0,s1.v),(1,s2.v),(2,.func (.func 27) #[] #[]),(11,s1.v),(12,(.int .i64 (goLen p_s1))),(13,(.int .i64 t_3))]∧St [] w0 w m []∧w.drawn = w0.drawn) (fun (o : (Unit) ⊕ (Int)) e a w=>o = .inl ()∧e = .exit 0∧Fr a 39 [(0,s1.v),(1,s2.v),(2,.func (.func 27) #[] #[])]∧St [] w0 w m []∧w.drawn = w0.drawn) hl1 ⟨hF.sub ⟨rfl,rfl,rfl,rfl,rfl,rfl,trivial⟩,hS,hd⟩ ?_ ?_
 ·clear hF hS hd
  rintro t_3 a w st ⟨hF,hS,hd⟩ hb1
  unfold slices_CompareFunc_int_int_int_int_l1 at hb1
  refine q_sr (q_y (v:=(.bool (decide (t_3 < (goLen p_s1))))) hF hS (ex_ibin rfl rfl rfl) fun a hF=>q_end (n_sq (q_seq ?_)))
  rcases bcase (decide (t_3 < (goLen p_s1))) with hc2 | hc2
  ·have hb1:=cond_f hc2 hb1
   refine q_cond_f hF rfl hc2 (q_exit (x_sq ?_))
   obtain rfl:=someI hb1
   exact ⟨nofun,.inl ⟨rfl,rfl,hF.sub ⟨rfl,rfl,rfl,trivial⟩,hS,hd⟩⟩
  ·have hb1:=cond_t hc2 hb1
   refine q_cond_t hF rfl hc2 (q_skipc (n_sq (q_seq (q_block (q_sr (q_m hF rfl fun a hF=>?_))))))
   obtain ⟨e_4,he_4,hb1⟩:=bindS hb1
   obtain ⟨vs5,at5,d5⟩:=h1.at he_4 1 rfl
   obtain ⟨s6,rfl,h6⟩ : ∃ s6 : Sl,vs5 = [s6.v]∧Rd m s6 e_4:=d5
   refine q_y (v:=(elP s1 (t_3.toNat * 1))) hF hS (ex_indexAddr U23 sz48 rfl rfl (h1.idx he_4)) fun a hF=>q_y (v:=s6.v) hF hS (ex_loadE1 0 U48 rfl rfl ((at5).at) rfl rfl) fun a hF=>q_s hF rfl fun a hF=>q_s hF rfl fun a hF=>q_end (n_sq (q_seq (q_sr (q_m hF rfl fun a hF=>q_m hF rfl fun a hF=>q_y (v:=(.int .i64 (goLen p_s2))) hF hS (ex_len U23 rfl h2.len) fun a hF=>q_y (v:=(.bool (decide ((goLen p_s2) ≤ t_3)))) hF hS (ex_ibin rfl rfl rfl) fun a hF=>q_end (n_sq ?_)))))
   rcases bcase (decide ((goLen p_s2) ≤ t_3)) with hc3 | hc3
   ·have hb1:=cond_f hc3 hb1
    refine q_cond_f hF rfl hc3 (q_skipc (n_sq (q_sr (q_m hF rfl fun a hF=>q_m hF rfl fun a hF=>?_))))
    obtain ⟨e_7,he_7,hb1⟩:=bindS hb1
    obtain ⟨vs8,at8,d8⟩:=h2.at he_7 1 rfl
    obtain ⟨s9,rfl,h9⟩ : ∃ s9 : Sl,vs8 = [s9.v]∧Rd m s9 e_7:=d8
    refine q_y (v:=(elP s2 (t_3.toNat * 1))) hF hS (ex_indexAddr U23 sz48 rfl rfl (h2.idx he_7)) fun a hF=>q_y (v:=s9.v) hF hS (ex_loadE1 0 U48 rfl rfl ((at8).at) rfl rfl) fun a hF=>q_s hF rfl fun a hF=>q_end (n_sq (q_sr (q_m hF rfl fun a hF=>q_m hF rfl fun a hF=>q_m hF rfl fun a hF=>?_)))
    obtain ⟨t_10,ht_10,hb1⟩:=bindS hb1
    refine q_callv (cap:=[]) (vs:=[s6.v,s9.v]) hF hS rfl Tryz.func27 (by kernel_rfl) rfl rfl rfl (k_slices_Compare_int_int e_4 e_7 t_10 ht_10 _ m hS.vis s6 h6 s9 h9) ?_
    rintro a w _ ⟨rfl,hd'⟩ hF hS
    have hd:=hd'.trans hd
    refine q_s hF rfl fun a hF=>q_end (n_sq (q_sr (q_m hF rfl fun a hF=>q_y (v:=(.bool (t_10 != 0))) hF hS (ex_ibin rfl rfl rfl) fun a hF=>q_end (n_sq ?_))))
    rcases bcase (t_10 != 0) with hc4 | hc4
    ·have hb1:=cond_f hc4 hb1
     refine q_cond_f hF rfl hc4 (q_skipc (n_ib (n_sq (q_region (q_y (v:=(.int .i64 (w64 (t_3 + 1)))) hF hS (ex_ibin rfl rfl rfl) fun a hF=>q_m hF rfl fun a hF=>q_end ?_)))))
     obtain rfl:=someI hb1
     exact ⟨rfl,hF.sub ⟨rfl,rfl,rfl,rfl,rfl,rfl,trivial⟩,hS,hd⟩
    ·have hb1:=cond_t hc4 hb1
     refine q_cond_t hF rfl hc4 (q_sr (q_m hF rfl fun a hF=>q_s hF rfl fun a hF=>q_end (n_sq (q_ret (r_ib (r_sq ?_))))))
     obtain rfl:=someI hb1
     refine ⟨nofun,.inr fun ho=>?_⟩
     subst ho
     refine r_ib (r_sq ?_)
     obtain rfl:=someI hr
     exact ret_of hF hS rfl (.tmp rfl .nil) ⟨rfl,hd⟩
   ·have hb1:=cond_t hc3 hb1
    refine q_cond_t hF rfl hc3 (q_sr (q_s hF rfl fun a hF=>q_end (n_sq (q_ret (r_sq (r_ib (r_sq ?_)))))))
    obtain rfl:=someI hb1
    refine ⟨nofun,.inr fun ho=>?_⟩
    subst ho
    refine r_ib (r_sq ?_)
    obtain rfl:=someI hr
    exact ret_of hF hS rfl (.tmp rfl .nil) ⟨rfl,hd⟩
 ·rintro e a w ⟨rfl,rfl,hF,hS,hd⟩
  refine x_ib (n_sq ?_)
  refine q_seq (q_sr (q_m hF rfl fun a hF=>q_y (v:=(.int .i64 (goLen p_s1))) hF hS (ex_len U23 rfl h1.len) fun a hF=>q_m hF rfl fun a hF=>q_y (v:=(.int .i64 (goLen p_s2))) hF hS (ex_len U23 rfl h2.len) fun a hF=>q_y (v:=(.bool (decide ((goLen p_s1) < (goLen p_s2))))) hF hS (ex_ibin rfl rfl rfl) fun a hF=>q_end (n_sq ?_)))
  rcases bcase (decide ((goLen p_s1) < (goLen p_s2))) with hc5 | hc5
  ·have hr:=cond_f hc5 hr
   refine q_cond_f hF rfl hc5 (q_skipc (n_sq (q_sr (q_s hF rfl fun a hF=>q_end (n_sq (q_ret ?_))))))
   obtain rfl:=someI hr
   exact ret_of hF hS rfl (.tmp rfl .nil) ⟨rfl,hd⟩
  ·have hr:=cond_t hc5 hr
   refine q_cond_t hF rfl hc5 (q_sr (q_s hF rfl fun a hF=>q_end (n_sq (q_ret (r_sq ?_)))))
   obtain rfl:=someI hr
   exact ret_of hF hS rfl (.tmp rfl .nil) ⟨rfl,hd⟩

theorem k_cmp_Or_int (p_vals : List Int) (r : Int) (hr : cmp_Or_int p_vals = some r) (w0 : World) (m : Mem) (hv : Vis m w0) (s1 : Sl) (h1 : Rd m s1 p_vals) :
  Ret Tryz.prog 24 [s1.v] w0 (fun v w=>v = (.int .i64 r)∧w.drawn = w0.drawn):=by
 unfold cmp_Or_int at hr
 have hd : w0.drawn = w0.drawn:=rfl
 refine ret_start Tryz.func24 rfl 18 rfl rfl m hv fun a hF hS=>q_sr (q_s hF rfl fun a hF=>q_end (n_sq (q_sr (q_s hF rfl fun a hF=>q_end (n_sq (q_seq (q_sr (q_m hF rfl fun a hF=>q_y (v:=(.int .i64 (goLen p_vals))) hF hS (ex_len U48 rfl h1.len) fun a hF=>q_m hF rfl fun a hF=>q_end (n_sq (q_block ?_))))))))))
 obtain ⟨o1,hl1,hr⟩:=bindS hr
 refine q_loop (fun (t_2 : Int) a w=>Fr a 18 [(3,(.int .i64 0)),(6,s1.v),(7,(.int .i64 (goLen p_vals))),(8,(.int .i64 t_2))]∧St [] w0 w m []∧w.drawn = w0.drawn) (fun (o : (Unit) ⊕ (Int)) e a w=>o = .inl ()∧e = .exit 0∧Fr a 18 [(3,(.int .i64 0))]∧St [] w0 w m []∧w.drawn = w0.drawn) hl1 ⟨hF.sub ⟨rfl,rfl,rfl,rfl,trivial⟩,hS,hd⟩ ?_ ?_
 ·clear hF hS hd
  rintro t_2 a w st ⟨hF,hS,hd⟩ hb1
  unfold cmp_Or_int_l1 at hb1
  refine q_sr (q_y (v:=(.bool (decide (t_2 < (goLen p_vals))))) hF hS (ex_ibin rfl rfl rfl) fun a hF=>q_end (n_sq (q_seq ?_)))
  rcases bcase (decide (t_2 < (goLen p_vals))) with hc2 | hc2
  ·have hb1:=cond_f hc2 hb1
   refine q_cond_f hF rfl hc2 (q_exit (x_sq ?_))
   obtain rfl:=someI hb1
   exact ⟨nofun,.inl ⟨rfl,rfl,hF.sub ⟨rfl,trivial⟩,hS,hd⟩⟩
  ·have hb1:=cond_t hc2 hb1
   refine q_cond_t hF rfl hc2 (q_skipc (n_sq (q_seq (q_block (q_seq (q_region ?_))))))
   obtain ⟨e_3,he_3,hb1⟩:=bindS hb1
   obtain ⟨vs4,at4,d4⟩:=h1.at he_3 1 rfl
   obtain rfl : vs4 = [(.int .i64 e_3)]:=d4
   refine q_y (v:=(elP s1 (t_2.toNat * 1))) hF hS (ex_indexAddr U48 sz3 rfl rfl (h1.idx he_3)) fun a hF=>q_y (v:=(.int .i64 e_3)) hF hS (ex_loadE1 0 U3 rfl rfl ((at4).at) rfl rfl) fun a hF=>q_s hF rfl fun a hF=>q_end (n_sq (q_sr (q_m hF rfl fun a hF=>q_m hF rfl fun a hF=>q_y (v:=(.bool (e_3 != 0))) hF hS (ex_ibin rfl rfl rfl) fun a hF=>q_end (n_sq ?_))))
   rcases bcase (e_3 != 0) with hc3 | hc3
   ·have hb1:=cond_f hc3 hb1
    refine q_cond_f hF rfl hc3 (q_skipc (n_ib (n_sq (q_region (q_y (v:=(.int .i64 (w64 (t_2 + 1)))) hF hS (ex_ibin rfl rfl rfl) fun a hF=>q_m hF rfl fun a hF=>q_end ?_)))))
    obtain rfl:=someI hb1
    exact ⟨rfl,hF.sub ⟨rfl,rfl,rfl,rfl,trivial⟩,hS,hd⟩
   ·have hb1:=cond_t hc3 hb1
    refine q_cond_t hF rfl hc3 (q_sr (q_m hF rfl fun a hF=>q_s hF rfl fun a hF=>q_end (n_sq (q_ret (r_ib (r_sq ?_))))))
    obtain rfl:=someI hb1
    refine ⟨nofun,.inr fun ho=>?_⟩
    subst ho
    refine r_ib (r_sq ?_)
    obtain rfl:=someI hr
    exact ret_of hF hS rfl (.tmp rfl .nil) ⟨rfl,hd⟩
 ·rintro e a w ⟨rfl,rfl,hF,hS,hd⟩
  refine x_ib (n_sq ?_)
  refine q_sr (q_m hF rfl fun a hF=>q_s hF rfl fun a hF=>q_end (n_sq (q_ret ?_)))
  obtain rfl:=someI hr
  exact ret_of hF hS rfl (.tmp rfl .nil) ⟨rfl,hd⟩

theorem k_impl_LeastPlan_1 (p_a : impl_choice) (p_b : impl_choice) (r : Int) (hr : impl_LeastPlan_1 p_a p_b = some r) (w0 : World) (m : Mem) (hv : Vis m w0) (s1 : Sl) (h1 : Rd m s1 p_a.cells) (s2 : Sl) (h2 : Rd m s2 p_b.cells) :
  Ret Tryz.prog 23 [(.agg #[s1.v,(.int .i64 p_a.value)]),(.agg #[s2.v,(.int .i64 p_b.value)])] w0 (fun v w=>v = (.int .i64 r)∧w0.drawn ≤ w.drawn):=by
 unfold impl_LeastPlan_1 at hr
 refine ret_start Tryz.func23 rfl 24 rfl rfl m hv fun a hF hS=>q_sr (q_boxD (cs:=[s1.v,(.int .i64 p_a.value)]) hF hS rfl rfl rfl fun a w b3 hF hS hd3=>q_boxD (cs:=[s2.v,(.int .i64 p_b.value)]) hF hS rfl rfl rfl fun a w b4 hF hS hd4=>q_s hF rfl fun a hF=>q_end (n_sq (q_seq (e_regionD ⟨[],[],m⟩ mixed fun w' hw' hd=>?_))))
 have hS:=hS.below hw'
 refine e_P (v:=(pP b3 0)) 0 hF rfl (ex_fieldAddr U52 rfl sz23 rfl rfl) fun a hF=>e_X (v:=s1.v) 1 hF hS rfl (ex_load1 1 0 U23 rfl rfl rfl rfl) fun a hF=>e_P (v:=(.int .i64 (goLen p_a.cells))) 2 hF rfl (ex_len U23 rfl h1.len) fun a hF=>e_P (v:=(pP b4 0)) 3 hF rfl (ex_fieldAddr U52 rfl sz23 rfl rfl) fun a hF=>e_X (v:=s2.v) 4 hF hS rfl (ex_load1 0 0 U23 rfl rfl rfl rfl) fun a hF=>e_P (v:=(.int .i64 (goLen p_b.cells))) 5 hF rfl (ex_len U23 rfl h2.len) fun a hF=>e_P (v:=(pP b3 1)) 7 hF rfl (ex_fieldAddr U52 rfl sz3 rfl rfl) fun a hF=>e_X (v:=(.int .i64 p_a.value)) 8 hF hS rfl (ex_load1 1 0 U3 rfl rfl rfl rfl) fun a hF=>e_P (v:=(pP b4 1)) 9 hF rfl (ex_fieldAddr U52 rfl sz3 rfl rfl) fun a hF=>e_X (v:=(.int .i64 p_b.value)) 10 hF hS rfl (ex_load1 0 0 U3 rfl rfl rfl rfl) fun a hF=>e_P (v:=(pP b3 0)) 12 hF rfl (ex_fieldAddr U52 rfl sz23 rfl rfl) fun a hF=>e_X (v:=s1.v) 13 hF hS rfl (ex_load1 1 0 U23 rfl rfl rfl rfl) fun a hF=>e_P (v:=(pP b4 0)) 14 hF rfl (ex_fieldAddr U52 rfl sz23 rfl rfl) fun a hF=>e_X (v:=s2.v) 15 hF hS rfl (ex_load1 0 0 U23 rfl rfl rfl rfl) fun a hF=>e_one 6 (by kernel_rfl) ?_
 obtain ⟨t_13,ht_13,hr⟩:=bindS hr
 refine e_call (vs:=[(.int .i64 (goLen p_a.cells)),(.int .i64 (goLen p_b.cells))]) hF hS rfl Tryz.func25 (by kernel_rfl) rfl rfl rfl (k_cmp_Compare_int (goLen p_a.cells) (goLen p_b.cells) t_13 ht_13 _ m hS.vis) ?_
 rintro a w _ ⟨rfl,hd'⟩ hF hS
 refine e_one 11 (by kernel_rfl) ?_
 obtain ⟨t_14,ht_14,hr⟩:=bindS hr
 refine e_call (vs:=[(.int .i64 p_a.value),(.int .i64 p_b.value)]) hF hS rfl Tryz.func25 (by kernel_rfl) rfl rfl rfl (k_cmp_Compare_int p_a.value p_b.value t_14 ht_14 _ m hS.vis) ?_
 rintro a w _ ⟨rfl,hd'⟩ hF hS
 refine e_one 16 (by kernel_rfl) ?_
 obtain ⟨t_15,ht_15,hr⟩:=bindS hr
 refine e_call (vs:=[s1.v,s2.v,.func (.func 27) #[] #[]]) hF hS rfl Tryz.func26 (by kernel_rfl) rfl rfl rfl (k_slices_CompareFunc_int_int_int_int p_a.cells p_b.cells t_15 ht_15 _ m hS.vis s1 h1 s2 h2) ?_
 rintro a w _ ⟨rfl,hd'⟩ hF hS
 refine e_one 17 (by kernel_rfl) (e_op rfl rfl fun _ hK=>wp_buildSliceD (l:=([t_13,t_14,t_15] : List Int)) (cells:=[(.int .i64 t_13),(.int .i64 t_14),(.int .i64 t_15)]) hF hS U48 inf3 rfl rfl (by kernel_rfl) rfl rfl rfl ⟨rfl,rfl,rfl,rfl⟩ rfl rfl fun a w q16 s16 hF hS h16 hd5 hb=>hK _ _ hb (e_one 18 (by kernel_rfl) ?_))
 obtain ⟨m18,hl18,hv18,hz18⟩:=hS.lend
 obtain ⟨t_17,ht_17,hr⟩:=bindS hr
 refine e_call (vs:=[s16.v]) hF hS rfl Tryz.func24 (by kernel_rfl) rfl rfl rfl (k_cmp_Or_int ([t_13,t_14,t_15] : List Int) t_17 ht_17 _ m18 hv18 s16 (h16.froz hl18 (hz18 0 _ rfl))) ?_
 rintro a w _ ⟨rfl,hd'⟩ hF hS
 refine e_P (v:=(.int .i64 t_17)) 19 hF rfl (ex_assign rfl) fun a hF=>e_end (by kernel_rfl) (n_sq (q_ret ?_)) _
 obtain rfl:=someI hr
 exact ret_of hF hS rfl (.tmp rfl .nil) ⟨rfl,by omega⟩
theorem so_cmp (x y : Int) : cmp_Compare_int x y = some (cmpI x y):=by
  unfold cmp_Compare_int cmp_isNaN_int cmpI
  simp only [bne_self_eq_false,Option.bind_some,cond_false]
  by_cases h1 : x < y
  · simp [h1]
  · by_cases h2 : y < x <;> simp [h1,h2]

theorem so_at {α : Type} {a : List α} {j : Nat} (hj : j < a.length) : goAt a (j : Int) = some a[j]:=by unfold goAt; rw [decide_eq_true (by omega)]; simp [hj]

theorem so_w {j : Nat} (h : j < 9223372036854775807) : w64 ((j : Int) + 1) = ((j + 1 : Nat) : Int):=by
  have h:=Go.IntWalk.i64_in ((j : Int) + 1) ⟨by omega,by omega⟩
  exact h.trans (by omega)

theorem so_comp_at (a b : List Int) (ha : a.length ≤ 9223372036854775807) : ∀ (n j : Nat),a.length - j = n→j ≤ a.length →
    ((loopC (slices_Compare_int_int_l1 a b) (j : Int)).bind fun | .inl ()=>(cond (decide ((goLen a) < (goLen b))) (some (-1)) (some 0)) | .inr o=>some o) = some (cmpL (a.drop j) (b.drop j)):=by
  intro n
  induction n with
  | zero =>
    intro j h1 h2
    have hj : j = a.length:=by omega
    have hb : slices_Compare_int_int_l1 a b (j : Int) = some (.done (.inl ())):=by
      unfold slices_Compare_int_int_l1
      rw [show decide ((j : Int) < goLen a) = false from decide_eq_false (by unfold goLen; omega)]
      rfl
    rw [loopC_eq,hb]
    have ea : a.drop j = []:=by rw [List.drop_eq_nil_iff]; omega
    rw [ea]
    cases hb : b.drop j with
    | nil =>
      have : b.length ≤ j:=by rw [← List.drop_eq_nil_iff]; exact hb
      have e2 : decide (goLen a < goLen b) = false:=decide_eq_false (by unfold goLen; omega)
      rw [e2]; rfl
    | cons y r =>
      have : ¬ b.length ≤ j:=by rw [← List.drop_eq_nil_iff,hb]; simp
      have e2 : decide (goLen a < goLen b) = true:=decide_eq_true (by unfold goLen; omega)
      rw [e2]; rfl
  | succ n ih =>
    intro j h1 h2
    have hj : j < a.length:=by omega
    rw [List.drop_eq_getElem_cons hj]
    have e1 : decide ((j : Int) < goLen a) = true:=decide_eq_true (by unfold goLen; omega)
    by_cases hb : j < b.length
    · rw [List.drop_eq_getElem_cons hb]
      have e2 : decide (goLen b ≤ (j : Int)) = false:=decide_eq_false (by unfold goLen; omega)
      have hs : slices_Compare_int_int_l1 a b (j : Int) = cond (cmpI a[j] b[j] != 0) (some (.done (.inr (cmpI a[j] b[j])))) (some (.next ((j + 1 : Nat) : Int))):=by
        unfold slices_Compare_int_int_l1
        rw [e1,so_at hj,so_at hb,e2,so_w (by omega)]
        simp only [cond_true,cond_false,Option.bind_some,so_cmp]
      rw [loopC_eq,hs]
      by_cases hz : cmpI a[j] b[j] = 0
      · rw [show (cmpI a[j] b[j] != 0) = false by simp [hz]]
        simp only [cond_false,cmpL,cmpOr,if_pos hz]
        exact ih (j + 1) (by omega) (by omega)
      · rw [show (cmpI a[j] b[j] != 0) = true by simp [hz]]
        simp [cmpL,cmpOr,if_neg hz]
    · have e2 : decide (goLen b ≤ (j : Int)) = true:=decide_eq_true (by unfold goLen; omega)
      have eb : b.drop j = []:=by rw [List.drop_eq_nil_iff]; omega
      have hs : slices_Compare_int_int_l1 a b (j : Int) = some (.done (.inr 1)):=by
        unfold slices_Compare_int_int_l1
        rw [e1,so_at hj,e2]
        rfl
      rw [loopC_eq,hs,eb]
      simp [cmpL]

theorem so_comp (a b : List Int) (ha : a.length ≤ 9223372036854775807) : slices_Compare_int_int a b = some (cmpL a b):=by
  unfold slices_Compare_int_int
  exact so_comp_at a b ha _ 0 rfl (Nat.zero_le _)

theorem so_compF_at (a b : List (List Int)) (ha : a.length ≤ 9223372036854775807) (he : ∀ x ∈ a,x.length ≤ 9223372036854775807) : ∀ (n j : Nat),a.length - j = n→j ≤ a.length →
    ((loopC (slices_CompareFunc_int_int_int_int_l1 a b) (j : Int)).bind fun | .inl ()=>(cond (decide ((goLen a) < (goLen b))) (some (-1)) (some 0)) | .inr o=>some o) = some (cmpLL (a.drop j) (b.drop j)):=by
  intro n
  induction n with
  | zero =>
    intro j h1 h2
    have hj : j = a.length:=by omega
    have hb : slices_CompareFunc_int_int_int_int_l1 a b (j : Int) = some (.done (.inl ())):=by
      unfold slices_CompareFunc_int_int_int_int_l1
      rw [show decide ((j : Int) < goLen a) = false from decide_eq_false (by unfold goLen; omega)]
      rfl
    rw [loopC_eq,hb]
    have ea : a.drop j = []:=by rw [List.drop_eq_nil_iff]; omega
    rw [ea]
    cases hb : b.drop j with
    | nil =>
      have : b.length ≤ j:=by rw [← List.drop_eq_nil_iff]; exact hb
      have e2 : decide (goLen a < goLen b) = false:=decide_eq_false (by unfold goLen; omega)
      rw [e2]; rfl
    | cons y r =>
      have : ¬ b.length ≤ j:=by rw [← List.drop_eq_nil_iff,hb]; simp
      have e2 : decide (goLen a < goLen b) = true:=decide_eq_true (by unfold goLen; omega)
      rw [e2]; rfl
  | succ n ih =>
    intro j h1 h2
    have hj : j < a.length:=by omega
    rw [List.drop_eq_getElem_cons hj]
    have e1 : decide ((j : Int) < goLen a) = true:=decide_eq_true (by unfold goLen; omega)
    by_cases hb : j < b.length
    · rw [List.drop_eq_getElem_cons hb]
      have e2 : decide (goLen b ≤ (j : Int)) = false:=decide_eq_false (by unfold goLen; omega)
      have hs : slices_CompareFunc_int_int_int_int_l1 a b (j : Int) = cond (cmpL a[j] b[j] != 0) (some (.done (.inr (cmpL a[j] b[j])))) (some (.next ((j + 1 : Nat) : Int))):=by
        unfold slices_CompareFunc_int_int_int_int_l1
        rw [e1,so_at hj,so_at hb,e2,so_w (by omega)]
        simp only [cond_true,cond_false,Option.bind_some,so_comp _ _ (he _ (List.getElem_mem hj))]
      rw [loopC_eq,hs]
      by_cases hz : cmpL a[j] b[j] = 0
      · rw [show (cmpL a[j] b[j] != 0) = false by simp [hz]]
        simp only [cond_false,cmpLL,cmpOr,if_pos hz]
        exact ih (j + 1) (by omega) (by omega)
      · rw [show (cmpL a[j] b[j] != 0) = true by simp [hz]]
        simp [cmpLL,cmpOr,if_neg hz]
    · have e2 : decide (goLen b ≤ (j : Int)) = true:=decide_eq_true (by unfold goLen; omega)
      have eb : b.drop j = []:=by rw [List.drop_eq_nil_iff]; omega
      have hs : slices_CompareFunc_int_int_int_int_l1 a b (j : Int) = some (.done (.inr 1)):=by
        unfold slices_CompareFunc_int_int_int_int_l1
        rw [e1,so_at hj,e2]
        rfl
      rw [loopC_eq,hs,eb]
      simp [cmpLL]

theorem so_compF (a b : List (List Int)) (ha : a.length ≤ 9223372036854775807) (he : ∀ x ∈ a,x.length ≤ 9223372036854775807) : slices_CompareFunc_int_int_int_int a b = some (cmpLL a b):=by
  unfold slices_CompareFunc_int_int_int_int
  exact so_compF_at a b ha he _ 0 rfl (Nat.zero_le _)

theorem so_or (a b c : Int) : cmp_Or_int [a,b,c] = some (cmpOr a (cmpOr b c)):=by
  have g (j : Nat) (x : Int) (h : [a,b,c][j]? = some x) : cmp_Or_int_l1 [a,b,c] (j : Int) = cond (x != 0) (some (.done (.inr x))) (some (.next ((j + 1 : Nat) : Int))):=by
    obtain ⟨hj,h⟩:=List.getElem?_eq_some_iff.1 h
    have hj' : j < 3:=hj
    unfold cmp_Or_int_l1
    rw [show decide ((j : Int) < goLen [a,b,c]) = true from decide_eq_true (by unfold goLen; simp only [List.length_cons,List.length_nil]; omega),so_at hj,h,so_w (by omega)]
    rfl
  have s0:=g 0 a rfl
  have s1:=g 1 b rfl
  have s2:=g 2 c rfl
  have s3 : cmp_Or_int_l1 [a,b,c] ((3 : Nat) : Int) = some (.done (.inl ())):=rfl
  have l3 : loopC (cmp_Or_int_l1 [a,b,c]) ((3 : Nat) : Int) = some (.inl ()):=by rw [loopC_eq,s3]
  unfold cmp_Or_int cmpOr
  show (loopC (cmp_Or_int_l1 [a,b,c]) ((0 : Nat) : Int)).bind _ = _
  rw [loopC_eq,s0]
  by_cases h0 : a = 0
  · subst h0
    simp only [bne_self_eq_false,cond_false,if_true]
    rw [loopC_eq,s1]
    by_cases h1 : b = 0
    · subst h1
      simp only [bne_self_eq_false,cond_false,if_true]
      rw [loopC_eq,s2]
      by_cases h2 : c = 0
      · subst h2
        simp only [bne_self_eq_false,cond_false]
        rw [l3]
        rfl
      · rw [show (c != 0) = true by simp [h2]]
        rfl
    · rw [show (b != 0) = true by simp [h1],if_neg h1]
      rfl
  · rw [show (a != 0) = true by simp [h0],if_neg h0]
    rfl

theorem so_least (x y : impl_choice) (ha : x.cells.length ≤ 9223372036854775807) (he : ∀ c ∈ x.cells,c.length ≤ 9223372036854775807) : impl_LeastPlan_1 x y = some (cmpC x y):=by
  unfold impl_LeastPlan_1 cmpC
  rw [so_cmp,so_cmp,so_compF _ _ ha he]
  simp only [Option.bind_some,so_or]

theorem so_ng {c d e f : Int} (h1 : c = -d) (h2 : e = -f) : cmpOr c e = -cmpOr d f:=by
  unfold cmpOr
  by_cases h : d = 0
  · rw [if_pos (by omega),if_pos h]; exact h2
  · rw [if_neg (by omega),if_neg h]; exact h1
theorem so_zr {c e : Int} (h : cmpOr c e = 0) : c = 0∧e = 0:=by
  unfold cmpOr at h
  by_cases h1 : c = 0
  · rw [if_pos h1] at h; exact ⟨h1,h⟩
  · rw [if_neg h1] at h; exact absurd h h1
theorem so_tr {α : Type} {c : α→α→Int} (cn : ∀ a b,c a b = -c b a) (cz : ∀ {a b},c a b = 0→a = b) (ct : ∀ {a b e},c a b ≤ 0→c b e ≤ 0→c a e ≤ 0) {a b e : α} {p q r : Int} (hd : p ≤ 0→q ≤ 0→r ≤ 0)
    (h1 : cmpOr (c a b) p ≤ 0) (h2 : cmpOr (c b e) q ≤ 0) : cmpOr (c a e) r ≤ 0:=by
  have g1 : c a b ≤ 0:=by unfold cmpOr at h1; split at h1 <;> omega
  have g2 : c b e ≤ 0:=by unfold cmpOr at h2; split at h2 <;> omega
  have g3:=ct g1 g2
  by_cases hz : c a e = 0
  · have e1:=cz hz
    subst e1
    have e2:=cn a b
    have e3 : c a b = 0:=by omega
    have e4 : c b a = 0:=by omega
    unfold cmpOr at h1 h2 ⊢
    rw [if_pos e3] at h1
    rw [if_pos e4] at h2
    rw [if_pos hz]
    exact hd h1 h2
  · unfold cmpOr
    rw [if_neg hz]
    exact g3

theorem so_In (x y : Int) : cmpI x y = -cmpI y x:=by unfold cmpI; split <;> split <;> (try split) <;> omega
theorem so_Ile {a b : Int} : cmpI a b ≤ 0 ↔ a ≤ b:=by unfold cmpI; split <;> (try split) <;> omega
theorem so_It {a b e : Int} (h1 : cmpI a b ≤ 0) (h2 : cmpI b e ≤ 0) : cmpI a e ≤ 0:=by
  rw [so_Ile] at *
  omega

theorem so_LLn : ∀ a b : List (List Int),cmpLL a b = -cmpLL b a
  | [],[]=>rfl
  | [],_ :: _=>rfl
  | _ :: _,[]=>rfl
  | x :: a,y :: b=>by simp only [cmpLL]; exact so_ng (cmpL_neg _ _) (so_LLn a b)
theorem so_LLz : ∀ {a b : List (List Int)},cmpLL a b = 0→a = b
  | [],[],_=>rfl
  | [],_ :: _,h=>by simp [cmpLL] at h
  | _ :: _,[],h=>by simp [cmpLL] at h
  | x :: a,y :: b,h=>by
    simp only [cmpLL] at h
    obtain ⟨h1,h2⟩:=so_zr h
    rw [cmpL_zero h1,so_LLz h2]
theorem so_LLt : ∀ {a b c : List (List Int)},cmpLL a b ≤ 0→cmpLL b c ≤ 0→cmpLL a c ≤ 0
  | [],_,[],_,_=>by simp [cmpLL]
  | [],_,_ :: _,_,_=>by simp [cmpLL]
  | _ :: _,[],_,h,_=>by simp [cmpLL] at h
  | _ :: _,_ :: _,[],_,h=>by simp [cmpLL] at h
  | x :: a,y :: b,z :: c,h1,h2=>by
    simp only [cmpLL] at h1 h2 ⊢
    exact so_tr cmpL_neg cmpL_zero cmpL_trans so_LLt h1 h2

theorem so_Cn (x y : impl_choice) : cmpC y x = -cmpC x y:=so_ng (so_In _ _) (so_ng (so_In _ _) (so_LLn _ _))
theorem so_Cz {x y : impl_choice} (h : cmpC x y = 0) : x = y:=by
  obtain ⟨_,h2⟩:=so_zr h
  obtain ⟨h3,h4⟩:=so_zr h2
  have e1:=cmpI_zero.1 h3
  have e2:=so_LLz h4
  cases x; cases y
  simp only at e1 e2
  rw [e1,e2]
theorem so_Ct {x y z : impl_choice} (h1 : cmpC x y ≤ 0) (h2 : cmpC y z ≤ 0) : cmpC x z ≤ 0 :=
  so_tr so_In cmpI_zero.1 so_It (so_tr so_In cmpI_zero.1 so_It so_LLt) h1 h2

theorem _root_.Go.Gx.Rd.le_max {α : Type} [Rep α] {m : Mem} {s : Sl} {l : List α} (h : Rd m s l) : l.length ≤ 9223372036854775807:=by
  have h1:=h.len
  have h2:=h.cap
  have h3:=h.max
  have : maxLen = 9223372036854775807:=by decide
  omega

theorem grow_of {w w' : World} (h : Below w.heap.size w w') (hd : w.drawn ≤ w'.drawn) : ∃ q os',w' = Go.Sort.grow (w.drewN q) os':=by
  refine ⟨w'.drawn - w.drawn,w'.heap.extract w.heap.size w'.heap.size,?_⟩
  have e : w'.heap = w.heap ++ w'.heap.extract w.heap.size w'.heap.size:=by
    apply Array.ext_getElem?
    intro k
    by_cases hk : k < w.heap.size
    · rw [Array.getElem?_append_left hk,h.block k hk]
    · rw [Array.getElem?_append_right (by omega),Array.getElem?_extract]
      split
      · congr 1
        omega
      · rw [Array.getElem?_eq_none (by omega)]
  have e2 : w'.drawn = w.drawn + (w'.drawn - w.drawn):=by omega
  unfold Go.Sort.grow World.drewN
  obtain ⟨h1,h2,h3,_,_⟩:=h
  cases w
  cases w'
  simp only at *
  subst h1 h2 h3
  rw [← e,← e2]

abbrev RH (m : Mem) : Type:={ p : Sl × impl_choice // Rd m p.1 p.2.cells }
instance (m : Mem) : Inhabited (RH m):=⟨⟨(nilS,⟨[],0⟩),Rd.nil0 (α:=List Int) m⟩⟩
def RH.e {m : Mem} (x : RH m) : List Value:=[x.1.1.v,(.int .i64 x.1.2.value)]
def rcmp {m : Mem} (x y : RH m) : Int:=cmpC x.1.2 y.1.2

theorem lt_iff {m : Mem} (x y : RH m) : Go.Proofs.ltOf rcmp x y = decide (cmpC x.1.2 y.1.2 < 0):=rfl

theorem rswo (m : Mem) : Go.Sort.SWO (Go.Proofs.ltOf (rcmp (m:=m))) where
  irrefl x:=by rw [lt_iff,decide_eq_false_iff_not]; have:=so_Cn x.1.2 x.1.2; omega
  trans x y z h1 h2:=by
    rw [lt_iff,decide_eq_true_eq] at *
    have h3:=so_Ct (Int.le_of_lt h1) (Int.le_of_lt h2)
    rcases Int.lt_or_eq_of_le h3 with h | h
    · exact h
    · have e2 : x.1.2 = z.1.2:=so_Cz h
      rw [e2,so_Cn] at h1
      omega
  ntrans x y z h1 h2:=by
    rw [lt_iff,decide_eq_false_iff_not] at *
    have h3:=so_Ct (x:=z.1.2) (y:=y.1.2) (z:=x.1.2) (by rw [so_Cn]; omega) (by rw [so_Cn]; omega)
    rw [so_Cn] at h3
    omega

theorem rh_list {m : Mem} : ∀ (l : List impl_choice) (cs : List Value),(∀ i (h : i < l.length),∃ V : Sl,slab cs (i * 2) 2 = [V.v,(.int .i64 l[i].value)]∧Rd m V l[i].cells) →
    ∃ zs : List (RH m),zs.map (fun p=>p.1.2) = l∧∀ i (h : i < zs.length),slab cs (i * 2) 2 = zs[i].e
  | [],cs,_=>⟨[],rfl,fun i h=>by simp at h⟩
  | x :: l,cs,h=>by
    obtain ⟨V,h1,h2⟩:=h 0 (Nat.succ_pos _)
    obtain ⟨zs,h3,h4⟩:=rh_list l (cs.drop 2) fun i hi=>by
      obtain ⟨V,h5,h6⟩:=h (i + 1) (by simpa using hi)
      refine ⟨V,?_,h6⟩
      rw [← List.getElem_cons_succ x l i (by simpa using hi),← h5]
      unfold slab
      rw [List.drop_drop,show 2 + i * 2 = (i + 1) * 2 by omega]
    refine ⟨⟨(V,x),h2⟩ :: zs,by simp [h3],fun i hi=>?_⟩
    cases i with
    | zero=>exact h1
    | succ i =>
      have:=h4 i (by simpa using hi)
      unfold slab at this ⊢
      rw [List.drop_drop,show 2 + i * 2 = (i + 1) * 2 by omega] at this
      simpa using this

theorem hold_of {m : Mem} {w : World} {b : Nat} {cs : List Value} {T : TypeId} {zs : List (RH m)} (hh : w.heap[b]? = some (.cells cs.toArray T (0,0))) (hc : ∀ i (h : i < zs.length),slab cs (i * 2) 2 = zs[i].e) : Go.Sort.HoldsK (RH.e (m:=m)) 2 w b 0 zs.toArray:=by
  intro j hj
  rw [Go.Sort.size_flatK] at hj
  have hj' : j < zs.length * 2:=by simpa using hj
  have hi : j / 2 < zs.length:=(Nat.div_lt_iff_lt_mul (by decide)).2 hj'
  rw [Go.Sort.get_flatK _ _ _ _ (by simpa using hj'),getElem!_pos zs.toArray (j / 2) (by simpa using hi)]
  have h2:=hc (j / 2) hi
  have hm:=Nat.mod_lt j (show 0 < 2 by decide)
  have hd:=Nat.div_add_mod j 2
  rw [Nat.mul_comm] at hd
  have h3 : cs[j]? = (zs[j / 2].e)[j % 2]?:=by
    rw [← h2]
    unfold slab
    rw [List.getElem?_take_of_lt hm,List.getElem?_drop,hd]
  have hl : j % 2 < (zs[j / 2].e).length:=hm
  refine ⟨?_,?_⟩
  · unfold World.cell?
    simp only [hh,Nat.zero_add]
    show cs.toArray[j]? = some ((zs[j / 2].e)[j % 2]!)
    rw [List.getElem?_toArray,h3,List.getElem?_eq_getElem hl,getElem!_pos (zs[j / 2].e) (j % 2) hl]
  · unfold World.frozen?
    simp [hh]

theorem put_heap {m : Mem} {w : World} {b n : Nat} {cs : List Value} {T : TypeId} {zs : List (RH m)} (hh : w.heap[b]? = some (.cells cs.toArray T (0,0))) (hlen : zs.length * 2 ≤ cs.length) :
    (Go.Sort.putRowK (RH.e (m:=m)) 2 (Go.Sort.ahead w n) b 0 zs.toArray).heap = (w.setRow b (zs.flatMap RH.e ++ cs.drop (zs.length * 2)).toArray).heap:=by
  have hfl : ∀ (zs : List (RH m)),(zs.flatMap RH.e).length = zs.length * 2:=fun zs=>by
    induction zs with
    | nil=>rfl
    | cons x zs ih=>rw [List.flatMap_cons,List.length_append,ih,List.length_cons]; show 2 + _ = _; omega
  have hfa : ∀ (zs : List (RH m)) (j : Nat) (h : j / 2 < zs.length),(zs.flatMap RH.e)[j]? = (zs[j / 2].e)[j % 2]?:=fun zs=>by
    induction zs with
    | nil=>intro j h; simp at h
    | cons x zs ih =>
      intro j h
      rw [List.flatMap_cons]
      by_cases hj : j < 2
      · have e1 : j / 2 = 0:=by omega
        have e2 : j % 2 = j:=by omega
        rw [List.getElem?_append_left (by show j < 2; exact hj),e2]
        simp [e1]
      · have e1 : j / 2 = (j - 2) / 2 + 1:=by omega
        have e2 : j % 2 = (j - 2) % 2:=by omega
        have e3 : (x.e).length = 2:=rfl
        rw [List.getElem?_append_right (by omega),e3,ih (j - 2) (by simp at h; omega),e2]
        simp [e1]
  unfold Go.Sort.putRowK Go.Sort.putRow Go.Sort.mapBlock World.setRow Go.Sort.ahead
  simp only
  apply Array.ext_getElem?
  intro k
  simp only [Array.getElem?_modify]
  by_cases hk : b = k
  · subst hk
    simp only [if_true,hh,Option.map_some,Go.Sort.onCells]
    congr 2
    apply Array.ext_getElem?
    intro j
    simp only [Go.Sort.putCells,Array.getElem?_mapIdx,List.getElem?_toArray,Nat.zero_le,true_and,Nat.zero_add,Go.Sort.size_flatK,List.size_toArray,Nat.sub_zero]
    by_cases hj : j < zs.length * 2
    · have hi : j / 2 < zs.length:=(Nat.div_lt_iff_lt_mul (by decide)).2 hj
      have hl : j % 2 < (zs[j / 2].e).length:=Nat.mod_lt j (show 0 < 2 by decide)
      rw [List.getElem?_append_left (by rw [hfl]; exact hj),hfa zs j hi,List.getElem?_eq_getElem hl,List.getElem?_eq_getElem (by omega)]
      simp only [Option.map_some,if_pos hj]
      rw [Go.Sort.get_flatK _ _ _ _ (by simpa using hj),getElem!_pos zs.toArray (j / 2) (by simpa using hi)]
      show some (id ((zs[j / 2].e)[j % 2]!)) = _
      rw [getElem!_pos (zs[j / 2].e) (j % 2) hl]
      rfl
    · rw [List.getElem?_append_right (by rw [hfl]; omega),hfl,List.getElem?_drop,show zs.length * 2 + (j - zs.length * 2) = j by omega]
      cases cs[j]? with
      | none=>rfl
      | some z=>simp [hj]
  · simp [hk]

theorem slab_flat {α : Type} (f : α→List Value) (hf : ∀ x,(f x).length = 2) : ∀ (l : List α) (r : List Value) (i : Nat) (h : i < l.length),slab (l.flatMap f ++ r) (i * 2) 2 = f l[i]
  | [],_,_,h=>by simp at h
  | x :: l,r,0,_=>by
    unfold slab
    rw [List.flatMap_cons,List.append_assoc,Nat.zero_mul,List.drop_zero,← hf x,List.take_left]
    rfl
  | x :: l,r,i + 1,h=>by
    have e : slab ((x :: l).flatMap f ++ r) ((i + 1) * 2) 2 = slab (l.flatMap f ++ r) (i * 2) 2:=by
      unfold slab
      rw [List.flatMap_cons,List.append_assoc,show (i + 1) * 2 = (f x).length + i * 2 by rw [hf]; omega,← List.drop_drop,List.drop_left]
    rw [e,slab_flat f hf l r i (by simpa using h)]
    simp

theorem sort_own {m : Mem} {q : Piece} {s : Sl} {l : List impl_choice} {w0 : World} {X : List Nat} (hz : l.length < 4611686018427387904) (h1 : OwnL m 52 q s l) (hS : St X w0 w0 m [q]) :
    RetX Tryz.prog 22 [s.v,.func (.func 23) #[] #[]] w0 (fun v w=>∃ qp0 : Piece,v = (.tuple #[])∧St X w0 w m [qp0]∧OwnL m 52 qp0 s (l.mergeSort fun x y=>decide (cmpC x y ≤ 0))):=by
  have hlen:=h1.len
  have hcap:=h1.cap
  have hmax:=h1.max
  rcases h1.blk with ⟨rfl,c2,c3⟩ | ⟨b,cs,rfl,c2,c3,c4⟩
  · have h0 : s.len = 0:=by omega
    have hl : l = []:=List.eq_nil_of_length_eq_zero (by omega)
    subst hl
    have hc:=Go.Proofs.AnyF.slices_SortFunc_none Tryz.sortR s.p s.cap (.func (.func 23) #[] #[]) w0
    rw [← h0] at hc
    unfold RetX
    refine Calls.mono hc ?_
    rintro e w' ⟨rfl,rfl⟩
    exact ⟨_,rfl,[],rfl,hS,by simpa using h1⟩
  · have hh:=hS.own ⟨b,cs,52⟩ (by simp)
    simp only at hh
    have c3' : cs.length = s.cap * 2:=c3
    obtain ⟨zs,hzl,hzc⟩:=rh_list l cs c4
    have hzn : zs.length = l.length:=by rw [← hzl,List.length_map]
    have hb : b < w0.heap.size:=lt_of_heap hh
    have hbel : ∀ (dl : List (RH m)) (n : Nat) (os : Array Obj),dl.length = l.length→Below (w0.setRow b (dl.flatMap RH.e ++ cs.drop (dl.length * 2)).toArray).heap.size (w0.setRow b (dl.flatMap RH.e ++ cs.drop (dl.length * 2)).toArray) (Go.Proofs.sortWorldK (RH.e (m:=m)) 2 w0 b 0 n dl.toArray os):=fun dl n os hdl=>by
      have hp:=put_heap (n:=n) (zs:=dl) hh (by omega)
      unfold Go.Proofs.sortWorldK
      refine ⟨rfl,rfl,rfl,?_,fun k hk=>?_⟩
      · unfold Go.Sort.grow; simp only [Array.size_append,hp]; omega
      · unfold Go.Sort.grow; simp only [hp]; rw [Array.getElem?_append_left hk]
    have hst : ∀ (dl : List (RH m)) (n : Nat) (os : Array Obj),dl.length = l.length→St X w0 (Go.Proofs.sortWorldK (RH.e (m:=m)) 2 w0 b 0 n dl.toArray os) m [[⟨b,dl.flatMap RH.e ++ cs.drop (dl.length * 2),52⟩]]:=fun dl n os hdl=>by
      have hS' : St X w0 (w0.setRow b (dl.flatMap RH.e ++ cs.drop (dl.length * 2)).toArray) m [[⟨b,dl.flatMap RH.e ++ cs.drop (dl.length * 2),52⟩]]:=hS.setRow (j:=0) (k:=0) rfl _
      exact hS'.below (hbel dl n os hdl)
    have hcmp : Go.Proofs.CmpLays Tryz.prog 23 #[] (RH.e (m:=m)) 2 rcmp b 0 zs.toArray.size w0:=fun n os dk hs x y=>by
      have hdk : dk.toList.length = l.length:=by simpa [hzn] using hs
      have hW:=hst dk.toList n os hdk
      rw [Array.toArray_toList] at hW
      have hr:=so_least x.1.2 y.1.2 (x.2.le_max) fun c hc=>by
        obtain ⟨i,hi,rfl⟩:=List.getElem_of_mem hc
        obtain ⟨vs,at_,d⟩:=x.2.at (so_at hi) 1 rfl
        obtain ⟨s6,rfl,h6⟩ : ∃ s6 : Sl,vs = [s6.v]∧Rd m s6 x.1.2.cells[i]:=d
        exact h6.le_max
      have h:=k_impl_LeastPlan_1 x.1.2 y.1.2 _ hr _ m hW.vis x.1.1 x.2 y.1.1 y.2
      refine Calls.mono h ?_
      rintro e w' ⟨v,rfl,hb,rfl,hd⟩
      exact ⟨rfl,grow_of hb hd⟩
    have hc:=Go.Proofs.AnyQ.slices_SortFunc Tryz.sortR 2 Tryz.isAgg52 Tryz.sizeOf52 (RH.e (m:=m)) (fun _=>rfl) (fun x v hv=>by simp [RH.e] at hv; rcases hv with rfl | rfl <;> rfl) rcmp (rswo m) 23 #[] b 0 s.cap zs.toArray w0
      (enters_of Tryz.func23 (by kernel_rfl) rfl) hcmp (hold_of hh hzc) hb (by simpa [hzn] using hz)
    unfold RetX
    have ea : [s.v,Value.func (.func 23) #[] #[]].toArray = #[.slice (some ⟨b,0,none⟩) zs.toArray.size s.cap,.func (.func 23) #[] #[]]:=by
      simp [Sl.v,c2,hzn,hlen]
    rw [ea]
    refine Calls.mono hc ?_
    rintro e w' ⟨rfl,d',n,os,hp,hs,rfl⟩
    obtain ⟨hsz,_,hperm⟩:=hp
    have e1 : d'.extract 0 zs.toArray.size = d':=by rw [← hsz]; exact Array.extract_size
    rw [e1,Array.extract_size] at hperm
    have hperm : d'.toList.Perm zs:=by simpa using hperm
    have hdl : d'.toList.length = l.length:=by rw [hperm.length_eq,hzn]
    have hW:=hst d'.toList n os hdl
    rw [Array.toArray_toList] at hW
    have hrl : (d'.toList.map fun p=>p.1.2) = l.mergeSort fun x y=>decide (cmpC x y ≤ 0):=by
      refine List.Perm.eq_of_pairwise (le:=fun x y=>decide (cmpC x y ≤ 0) = true) ?_ ?_ ?_ (((hperm.map _).trans (by rw [hzl])).trans (List.mergeSort_perm _ _).symm)
      · intro a b _ _ h1 h2
        simp only [decide_eq_true_eq] at h1 h2
        have : cmpC a b = 0:=by rw [so_Cn] at h2; omega
        exact so_Cz this
      · rw [List.pairwise_iff_getElem]
        intro i j hi hj hij
        have hi' : i < d'.size:=by simpa using hi
        have hj' : j < d'.size:=by simpa using hj
        have:=hs i j (Nat.zero_le _) hij (by rw [← hsz]; exact hj')
        rw [getElem!_pos d' j hj',getElem!_pos d' i hi',lt_iff,decide_eq_false_iff_not] at this
        simp only [List.getElem_map,Array.getElem_toList,decide_eq_true_eq]
        rw [so_Cn]
        omega
      · refine List.pairwise_mergeSort ?_ ?_ _
        · intro a b c h1 h2
          simp only [decide_eq_true_eq] at h1 h2 ⊢
          exact so_Ct h1 h2
        · intro a b
          simp only [Bool.or_eq_true,decide_eq_true_eq]
          rw [so_Cn a b]
          omega
    refine ⟨_,rfl,[⟨b,d'.toList.flatMap RH.e ++ cs.drop (d'.toList.length * 2),52⟩],rfl,hW,by rw [List.length_mergeSort]; exact hlen,hcap,hmax,.inr ⟨b,_,rfl,c2,?_,fun i hi=>?_⟩⟩
    · have hfl : ∀ (zs : List (RH m)),(zs.flatMap RH.e).length = zs.length * 2:=fun zs=>by
        induction zs with
        | nil=>rfl
        | cons x zs ih=>rw [List.flatMap_cons,List.length_append,ih,List.length_cons]; show 2 + _ = _; omega
      show _ = s.cap * 2
      rw [List.length_append,hfl,List.length_drop,hdl,c3']
      omega
    · have hi' : i < d'.toList.length:=by rw [hdl]; rw [List.length_mergeSort] at hi; exact hi
      have hsl:=slab_flat (RH.e (m:=m)) (fun _=>rfl) d'.toList (cs.drop (d'.toList.length * 2)) i hi'
      refine ⟨d'.toList[i].1.1,?_,?_⟩
      · show slab _ (i * 2) 2 = _
        rw [hsl]
        simp only [← hrl,List.getElem_map]
        rfl
      · simp only [← hrl,List.getElem_map]
        exact d'.toList[i].2

theorem c_slices_SortFunc_C (p_s : List impl_choice) (r : List impl_choice) (hr : slices_SortFunc_C p_s = some r) (w0 : World) (m : Mem) (s1 : Sl) (q1 : Piece) (h1 : OwnL m 52 q1 s1 p_s) (X : List Nat) (hS : St X w0 w0 m [q1]) :
    RetX Tryz.prog 22 [s1.v,.func (.func 23) #[] #[]] w0 (fun v w=>∃ (qp0 : Piece),v = (.tuple #[])∧St X w0 w m [qp0]∧OwnL m 52 qp0 s1 r):=by
  unfold slices_SortFunc_C at hr
  rcases bcase (decide (p_s.length < 4611686018427387904)) with hb | hb
  · rw [hb] at hr; cases hr
  · rw [hb] at hr
    obtain rfl:=Option.some.inj hr
    exact sort_own (by simpa using hb) h1 hS
end Go.Proofs.YtpjcfmpfiadkgaaGreat

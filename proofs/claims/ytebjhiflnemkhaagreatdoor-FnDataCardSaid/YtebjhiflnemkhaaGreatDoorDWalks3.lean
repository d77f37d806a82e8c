/- The walks of the functions: each returns what its plain function says. -/
import Derived.Test.YtebjhiflnemkhaaGreatDoorDWalks2
namespace Go.Proofs.YtebjhiflnemkhaaGreatDoor
open Go.Gx Go.Gx.F Go.RowKit
set_option linter.all false
set_option maxRecDepth 10000


/-raw-/
/-- a household whose members stand elsewhere: its head -/
structure HH where
  Area : Int
  House : Int
  V : Sl

def HH.e (x : HH) : List Value := [(.int .i64 x.Area), (.int .i64 x.House), x.V.v]

instance : Rep HH where
  wd := 3
  rd _ cs x := cs = x.e
  mono _ h := h
  len h := by subst h; rfl
  one h := by subst h; rfl

instance : Flat HH := ⟨fun h => h⟩

instance : Rep HKey where
  wd := 3
  rd _ cs x := ∃ V : Sl, cs = [(.int .i64 x.Area), (.int .i64 x.House), V.v]
  mono _ h := h
  len h := by obtain ⟨V, rfl⟩ := h; rfl
  one h := by obtain ⟨V, rfl⟩ := h; rfl

def fl (l : List HH) : List Value := l.flatMap HH.e

theorem fl_len : ∀ l, (fl l).length = l.length * 3
  | [] => rfl
  | x :: l => by
    show (x.e ++ fl l).length = _
    rw [List.length_append, fl_len l, List.length_cons]
    show 3 + l.length * 3 = _
    omega

theorem fl_app (a b : List HH) : fl (a ++ b) = fl a ++ fl b := by simp [fl]
theorem fl_one (x : HH) : fl [x] = x.e := by simp [fl]

theorem fl_of : ∀ (l : List HH) (cs : List Value), (∀ i (h : i < l.length), slab cs (i * 3) 3 = l[i].e) → cs = fl l ++ cs.drop (l.length * 3)
  | [], cs, _ => by simp [fl]
  | x :: l, cs, h => by
    have h0 : cs.take 3 = x.e := h 0 (Nat.succ_pos _)
    have ih := fl_of l (cs.drop 3) fun i hi => by
      have := h (i + 1) (by simpa using hi)
      unfold slab at this ⊢
      rw [List.drop_drop, show 3 + i * 3 = (i + 1) * 3 by omega]
      simpa using this
    rw [List.drop_drop, show 3 + l.length * 3 = (x :: l).length * 3 by rw [List.length_cons]; omega] at ih
    show cs = (x.e ++ fl l) ++ _
    rw [List.append_assoc, ← ih, ← h0, List.take_append_drop]

theorem fl_at : ∀ (l : List HH) (r : List Value) (i : Nat) (h : i < l.length), slab (fl l ++ r) (i * 3) 3 = l[i].e
  | [], _, _, h => by simp at h
  | x :: l, r, 0, _ => rfl
  | x :: l, r, i + 1, h => by
    have e : slab (fl (x :: l) ++ r) ((i + 1) * 3) 3 = slab (fl l ++ r) (i * 3) 3 := by
      show List.take 3 (List.drop ((i + 1) * 3) ((x.e ++ fl l) ++ r)) = _
      unfold slab
      rw [List.append_assoc, show (i + 1) * 3 = x.e.length + i * 3 by show _ = 3 + i * 3; omega, ← List.drop_drop, List.drop_left]
    rw [e, fl_at l r i (by simpa using h)]
    simp

theorem fl_one' {x : HH} : ∀ v ∈ x.e, v.oneCell' = true := by
  intro v hv
  simp [HH.e] at hv
  rcases hv with rfl | rfl | rfl <;> rfl

theorem fl_ones (l : List HH) : ∀ v ∈ fl l, v.oneCell' = true := by
  intro v hv
  obtain ⟨x, _, h⟩ := List.mem_flatMap.1 hv
  exact fl_one' v h

theorem own_fl {m : Mem} {T : TypeId} {q : Piece} {s : Sl} {l : List HH} (h : OwnL m T q s l) : (q = [] ∧ s.p = none ∧ s.cap = 0 ∧ l = []) ∨ ∃ b r, q = [⟨b, fl l ++ r, T⟩] ∧ s = ⟨some ⟨b, 0, none⟩, l.length, s.cap⟩ ∧ r.length = (s.cap - l.length) * 3 ∧ l.length ≤ s.cap := by
  have h1 := h.len
  have h2 := h.cap
  rcases h.blk with ⟨e1, e2, e3⟩ | ⟨b, cs, e1, e2, e3, e4⟩
  · exact .inl ⟨e1, e2, e3, List.eq_nil_of_length_eq_zero (by omega)⟩
  · have hc := fl_of l cs e4
    have e5 : cs.length = s.cap * 3 := e3
    refine .inr ⟨b, cs.drop (l.length * 3), by rw [← hc]; exact e1, ?_, ?_, by omega⟩
    · obtain ⟨p, n, c⟩ := s
      simp only at e2 h1
      subst e2
      subst h1
      rfl
    · rw [List.length_drop, e5]
      omega

theorem own_of {m : Mem} {T : TypeId} {b c : Nat} {l : List HH} {r : List Value} (hr : r.length = (c - l.length) * 3) (hc : l.length ≤ c) (hm : c ≤ maxLen) : OwnL m T [⟨b, fl l ++ r, T⟩] ⟨some ⟨b, 0, none⟩, l.length, c⟩ l :=
  ⟨rfl, hc, hm, .inr ⟨b, _, rfl, rfl, by rw [List.length_append, fl_len, hr]; show _ = c * 3; omega, fun i hi => fl_at l r i hi⟩⟩

theorem own_key {m : Mem} {T : TypeId} {q : Piece} {s : Sl} {l : List HH} (h : OwnL m T q s l) : OwnL m T q s (l.map fun x => (⟨x.Area, x.House⟩ : HKey)) := by
  refine ⟨by simpa using h.len, h.cap, h.max, h.blk.imp id fun ⟨b, cs, h1, h2, h3, h4⟩ => ⟨b, cs, h1, h2, h3, fun i hi => ?_⟩⟩
  have hi' : i < l.length := by simpa using hi
  refine ⟨l[i].V, ?_⟩
  have := h4 i hi'
  simp only [List.getElem_map]
  exact this

theorem cellO {X : List Nat} {w0 w : World} {m : Mem} {O : List Piece} {b off : Nat} {cs vs : List Value} {T : TypeId} {j k : Nat} (hS : St X w0 w m O) (ho : getO O j k = some ⟨b, cs, T⟩) (hv : ∀ i v, vs[i]? = some v → cs[off + i]? = some v) :
    ∀ i v, vs[i]? = some v → w.cell? ((⟨b, off, none⟩ : Addr).add i) = some v := by
  intro i v h
  have e : (⟨b, off, none⟩ : Addr).add i = ⟨b, off + i, none⟩ := by unfold Addr.add; split <;> simp_all
  have hh := hS.own _ (getO_mem ho)
  rw [e]
  unfold World.cell?
  simp only [hh]
  simpa using hv i v h

theorem ex_capS {P : Program} {L : List (Nat × Value)} {m : Mem} {O : List Piece} {d : Option Tmp} {ty : TypeId} {p : String} {af : Array Edge} {g : Option (Nat × Bool)} {x : Operand} {t E : TypeId} {s : Sl} (hu : P.underlying t = some (.slice E)) (hx : evo L x = some s.v) :
    Ex P ⟨d, .call { callee := .builtin .cap, args := #[x], argTypes := #[t] }, ty, p, af, g⟩ L m O (.int .i64 (s.cap : Int)) := fun _ a n X w0 w hF _ => by
  simp [execOp, resolve, invoke, builtin, Builtin.cap_, hF.eval hx, run_underlying hu, Sl.v, goInt]

theorem subS_at {b n c lo hi : Nat} (h : c ≠ lo) : subS ⟨some ⟨b, 0, none⟩, n, c⟩ 3 lo hi c = ⟨some ⟨b, lo * 3, none⟩, hi - lo, c - lo⟩ := by
  unfold subS
  rw [if_neg h]
  have e : (⟨b, 0, none⟩ : Addr).add (lo * 3) = ⟨b, lo * 3, none⟩ := by unfold Addr.add; split <;> simp_all
  simp [e]

set_option maxHeartbeats 1000000 in
theorem q_over {DS : List Deferred} {L : List (Nat × Value)} {m : Mem} {O : List Piece} {a : Act} {n : Nat} {X : List Nat} {w0 w : World} {Q : Exit → Act → World → Prop} {ops : Array Oper} {rest : List Oper} {d : Option Tmp} {ty : TypeId} {p : String} {af : Array Edge} {x y : Operand} {ats : Array TypeId}
    {b2 o2 b o la ca lb cb : Nat} {cs2 cs : List Value} {T2 T : TypeId} (j k j' k' : Nat) (hF : FrD DS a n L) (hS : St X w0 w m O) (ho : getO O j k = some ⟨b2, cs2, T2⟩) (ho' : getO O j' k' = some ⟨b, cs, T⟩) (hne : b2 ≠ b) (hcs : cs ≠ [])
    (hx : evo L x = some (.slice (some ⟨b2, o2, none⟩) la ca)) (hy : evo L y = some (.slice (some ⟨b, o, none⟩) lb cb)) (hd : dok d n = true) (kk : ∀ a', FrD DS a' n (putL d (.bool false) L) → wpList Tryz.prog ops Q rest a' w) :
    wpList Tryz.prog ops Q (⟨d, .call { callee := .value (.func 84), args := #[x, y], argTypes := ats }, ty, p, af, none⟩ :: rest) a w := by
  have h1 := hS.own _ (getO_mem ho)
  have h2 := hS.own _ (getO_mem ho')
  have hov : (callFunc 84 #[.slice (some ⟨b2, o2, none⟩) la ca, .slice (some ⟨b, o, none⟩) lb cb]).run Tryz.prog w = .ok (.value (.bool false)) w := by
    rw [run_callFunc_extern Tryz.func84 (by kernel_rfl) (by kernel_rfl) (by kernel_rfl) (e := Extern.SlicesOverlaps.overlaps #[37, 37] #[4]) (by kernel_rfl),
      Lib.run_overlaps_apart w 37 4 42 Tryz.underlying37 3 (fun w => Go.Gx.run_sizeOf sz42 w) ⟨b2, o2, none⟩ ⟨b, o, none⟩ la ca lb cb hne T2 T cs2.length cs.length (by simp [World.shape?, h1]) (by simp [World.shape?, h2]) (by simpa using hcs) (by simp [World.frozen?, h1]) (by simp [World.frozen?, h1])]
    rfl
  refine wpList_plain rfl fun _ hK => wp_of_run (v := .bool false) (w' := w) ?_ (hK _ _ (kk _ (hF.put _ hd)))
  have e84 : a.eval (.func 84) = .func (.func 84) #[] #[] := rfl
  simp [execOp, resolve, Deferred.ofValue, invoke, e84, hF.eval hx, hF.eval hy, hov]

theorem c_insertH (l : List HH) (i : Nat) (x : HH) (hi : i ≤ l.length) (hbig : (l.length + 1) * 40 ≤ 140737488355328) (w0 : World) (m : Mem) (s1 : Sl) (q1 : Piece) (h1 : OwnL m 42 q1 s1 l) (s2 : Sl) (q2 : Piece) (h2 : OwnL m 42 q2 s2 [x]) (X : List Nat) (hS : St X w0 w0 m [q1, q2]) :
    RetX Tryz.prog 66 [s1.v, iV i, s2.v] w0 (fun v w => ∃ (q : Piece) (s : Sl), v = s.v ∧ St X w0 w m [q] ∧ OwnL m 42 q s (l.take i ++ [x] ++ l.drop i)) := by
  have hl1 := h1.len
  have hc1 := h1.cap
  have hm1 := h1.max
  have hml : maxLen = 9223372036854775807 := by decide
  have hso : SubOk s1 i s1.len := ⟨by omega, by omega, by omega, h1.cap⟩
  have hw1 : w64 ((l.length : Int) + 1) = (l.length + 1 : Nat) := by
    exact (Go.IntWalk.i64_in _ ⟨by omega, by omega⟩).trans (by omega)
  refine ret_startX Tryz.func66 rfl 95 rfl rfl fun a hF => ?_
  refine q_seq (q_region (q_x (v := nilS.v) hF hS (ex_assign rfl) rfl rfl fun a hF => q_end (n_sq ?_)))
  refine q_seq (q_region (q_x (v := s1.v) hF hS (ex_move rfl) rfl rfl fun a hF => q_x (v := iV i) hF hS (ex_move rfl) rfl rfl fun a hF => q_x (v := (subS s1 3 i s1.len s1.cap).v) hF hS (ex_slice (s := s1) (i := i) (j := s1.len) (vl := some (iV i)) (vh := none) Tryz.underlying37 sz42 rfl rfl rfl (.inr ⟨_, rfl⟩) (.inl ⟨rfl, rfl⟩) hso) rfl rfl fun a hF => q_end (n_sq ?_)))
  refine q_seq (q_region (q_x (v := s2.v) hF hS (ex_move rfl) rfl rfl fun a hF => q_x (v := iV 1) hF hS (ex_len (l := [x]) Tryz.underlying37 rfl h2.len) rfl rfl fun a hF => q_x (v := iV 1) hF hS (ex_assign rfl) rfl rfl fun a hF => q_end (n_sq ?_)))
  refine q_seq (q_seq (q_region (q_x (v := iV 1) hF hS (ex_move rfl) rfl rfl fun a hF => q_x (v := .bool false) hF hS (ex_ibin rfl rfl rfl) rfl rfl fun a hF => q_end (n_sq ?_))))
  refine q_cond_f hF rfl rfl (q_skipc (n_sq ?_))
  refine q_seq (q_region (q_x (v := s1.v) hF hS (ex_move rfl) rfl rfl fun a hF => q_x (v := iV l.length) hF hS (ex_len (l := l) Tryz.underlying37 rfl h1.len) rfl rfl fun a hF => q_x (v := iV l.length) hF hS (ex_assign rfl) rfl rfl fun a hF => q_end (n_sq ?_)))
  refine q_seq (q_seq (q_region (q_x (v := iV i) hF hS (ex_move rfl) rfl rfl fun a hF => q_x (v := iV l.length) hF hS (ex_move rfl) rfl rfl fun a hF => q_x (v := .bool ((i : Int) == l.length)) hF hS (ex_ibin rfl rfl rfl) rfl rfl fun a hF => q_end (n_sq ?_))))
  rcases bcase ((i : Int) == l.length) with hc | hc
  rotate_left
  · -- at the end
    have hil : i = l.length := by have := eq_of_beq hc; omega
    subst hil
    have hr : goApp 40 l [x] = some (l ++ [x]) := by
      unfold goApp
      rw [decide_eq_true (by simpa using hbig)]
      rfl
    refine q_cond_t hF rfl hc (q_seq (q_region (q_x (v := s1.v) hF hS (ex_move rfl) rfl rfl fun a hF => q_x (v := s2.v) hF hS (ex_move rfl) rfl rfl fun a hF => ?_)))
    refine q_do rfl fun _ hK => wp_append hF hS h1 Tryz.underlying37 inf42 rfl rfl rfl rfl (h2.vw hS (j := 1) rfl) rfl (by decide) hr rfl fun a w q s hF hS hq => hK _ _ ?_
    refine q_x (v := s.v) hF hS (ex_assign rfl) rfl rfl fun a hF => q_end (n_sq (q_ret (r_sq ?_)))
    exact ret_ofX hF hS rfl (.tmp rfl .nil) ⟨q, s, rfl, hS.mask [true, false], by rw [List.take_length, List.drop_length, List.append_nil]; exact hq⟩
  have hil : i < l.length := by
    have : ¬ (i : Int) = l.length := fun e => by rw [e] at hc; simp at hc
    omega
  refine q_cond_f hF rfl hc (q_skipc (n_sq ?_))
  rcases own_fl h1 with ⟨_, _, _, rfl⟩ | ⟨b, rr, rfl, hs1, hrr, hlc⟩
  · simp at hil
  rcases own_fl h2 with ⟨_, _, _, he⟩ | ⟨b2, rr2, rfl, hs2, hrr2, hlc2⟩
  · cases he
  generalize s1.cap = c1 at hs1 hrr hlc hc1 hm1 hso
  generalize s2.cap = c2 at hs2 hrr2 hlc2
  subst hs1
  subst hs2
  simp only at hso hc1 hl1
  have hb0 : (3 : Nat) = [(.int .i64 0 : Value), (.int .i64 0), nilS.v].length := rfl
  have hne : b2 ≠ b := by
    have := hS.nodup
    simp at this
    exact fun e => this e.symm
  refine q_seq (q_seq (q_region (q_x (v := iV l.length) hF hS (ex_move rfl) rfl rfl fun a hF => q_x (v := iV 1) hF hS (ex_move rfl) rfl rfl fun a hF => q_x (v := iV (w64 ((l.length : Int) + 1))) hF hS (ex_ibin rfl rfl rfl) rfl rfl fun a hF => ?_)))
  rw [hw1] at hF
  refine q_x (v := Sl.v ⟨some ⟨b, 0, none⟩, l.length, c1⟩) hF hS (ex_move rfl) rfl rfl fun a hF => q_x (v := iV c1) hF hS (ex_capS (s := ⟨some ⟨b, 0, none⟩, l.length, c1⟩) Tryz.underlying37 rfl) rfl rfl fun a hF => q_x (v := .bool (decide ((c1 : Int) < (l.length + 1 : Nat)))) hF hS (ex_ibin rfl rfl rfl) rfl rfl fun a hF => q_end (n_sq ?_)
  rcases bcase (decide ((c1 : Int) < (l.length + 1 : Nat))) with hc2 | hc2
  rotate_left
  · -- no room
    have hlt : (c1 : Int) < (l.length + 1 : Nat) := of_decide_eq_true hc2
    have hs0 : SubOk ⟨some ⟨b, 0, none⟩, l.length, c1⟩ 0 i := ⟨by omega, by omega, by simp <;> omega, by simp <;> omega⟩
    have hw2 : w64 (((l.length + 1 : Nat) : Int) - i) = (l.length + 1 - i : Nat) := (Go.IntWalk.i64_in _ ⟨by omega, by omega⟩).trans (by omega)
    refine q_cond_t hF rfl hc2 (q_seq (q_region (q_x (v := Sl.v ⟨some ⟨b, 0, none⟩, l.length, c1⟩) hF hS (ex_move rfl) rfl rfl fun a hF => q_x (v := iV i) hF hS (ex_move rfl) rfl rfl fun a hF => q_x (v := (subS ⟨some ⟨b, 0, none⟩, l.length, c1⟩ 3 0 i c1).v) hF hS (ex_slice (s := ⟨some ⟨b, 0, none⟩, l.length, c1⟩) (i := 0) (j := i) (vl := none) (vh := some (iV i)) Tryz.underlying37 sz42 rfl rfl rfl (.inl ⟨rfl, rfl⟩) (.inr ⟨_, rfl⟩) hs0) rfl rfl fun a hF => ?_)))
    rw [show subS ⟨some ⟨b, 0, none⟩, l.length, c1⟩ 3 0 i c1 = ⟨some ⟨b, 0, none⟩, i, c1⟩ from (subS_at (by omega)).trans (by simp)] at hF
    refine q_x (v := iV l.length) hF hS (ex_move rfl) rfl rfl fun a hF => q_x (v := iV 1) hF hS (ex_move rfl) rfl rfl fun a hF => q_x (v := iV (w64 ((l.length : Int) + 1))) hF hS (ex_ibin rfl rfl rfl) rfl rfl fun a hF => ?_
    rw [hw1] at hF
    refine q_x (v := iV i) hF hS (ex_move rfl) rfl rfl fun a hF => q_x (v := iV (w64 (((l.length + 1 : Nat) : Int) - i))) hF hS (ex_ibin rfl rfl rfl) rfl rfl fun a hF => ?_
    rw [hw2] at hF
    refine q_do rfl fun _ hK => wp_appendZN (b := b) (i := i) (cap := c1) (cs := fl l ++ rr) (N := l.length + 1 - i) 0 0 hF hS Tryz.underlying37 Tryz.underlying3 inf42 hb0 (by decide) rfl rfl rfl (by rw [List.length_append, fl_len]; omega) (by omega) (by omega) (by decide) (by omega) rfl fun a w b' c rs hF hle hcm hrs hS => hK _ _ ?_
    have hni : i + (l.length + 1 - i) = l.length + 1 := by omega
    rw [hni] at hF hle
    have hlen3 : (fl (l.take i)).length = i * 3 := by rw [fl_len, List.length_take, Nat.min_eq_left hi]
    have hsp : fl l = fl (l.take i) ++ fl (l.drop i) := by rw [← fl_app, List.take_append_drop]
    have hdl : (fl (l.drop i)).length = (l.length - i) * 3 := by rw [fl_len, List.length_drop]
    have htk : (fl l ++ rr).take (i * 3) = fl (l.take i) := by rw [hsp, List.append_assoc, ← hlen3, List.take_left]
    rw [htk] at hS
    have hs1 : SubOk ⟨some ⟨b', 0, none⟩, l.length + 1, c⟩ i (l.length + 1) := ⟨by omega, by omega, by simp <;> omega, by simp <;> omega⟩
    refine q_x (v := Sl.v ⟨some ⟨b', 0, none⟩, l.length + 1, c⟩) hF hS (ex_assign rfl) rfl rfl fun a hF => q_end (n_sq (q_seq (q_region ?_)))
    refine q_x (v := Sl.v ⟨some ⟨b', 0, none⟩, l.length + 1, c⟩) hF hS (ex_move rfl) rfl rfl fun a hF => q_x (v := iV i) hF hS (ex_move rfl) rfl rfl fun a hF => q_x (v := (subS ⟨some ⟨b', 0, none⟩, l.length + 1, c⟩ 3 i (l.length + 1) c).v) hF hS (ex_slice (s := ⟨some ⟨b', 0, none⟩, l.length + 1, c⟩) (i := i) (j := (l.length + 1 : Nat)) (vl := some (iV i)) (vh := none) Tryz.underlying37 sz42 rfl rfl rfl (.inr ⟨_, rfl⟩) (.inl ⟨rfl, rfl⟩) hs1) rfl rfl fun a hF => ?_
    rw [show subS ⟨some ⟨b', 0, none⟩, l.length + 1, c⟩ 3 i (l.length + 1) c = ⟨some ⟨b', i * 3, none⟩, l.length + 1 - i, c - i⟩ from subS_at (by omega)] at hF
    refine q_x (v := Sl.v ⟨some ⟨b2, 0, none⟩, 1, c2⟩) hF hS (ex_move rfl) rfl rfl fun a hF => ?_
    have hx3 : x.e.length = 3 := rfl
    refine q_do rfl fun _ hK => wp_copyO (vs := x.e) 0 0 hF hS Tryz.underlying37 sz42 rfl rfl rfl ?_ (cellO (j := 2) (k := 0) hS rfl fun i v hv => ?_) ?_ fl_one' rfl fun a w hF hS => hK _ _ (q_end (n_sq (q_seq ?_)))
    · rw [hx3]
      have : Nat.min 1 (l.length + 1 - i) = 1 := Nat.min_eq_left (by omega)
      rw [this]
    · rw [fl_one]
      rw [List.getElem?_append_left (by have := (List.getElem?_eq_some_iff.1 hv).1; omega), Nat.zero_add]
      exact hv
    · rw [List.length_append, hlen3, hrs, hx3]
      omega
    have hw3 : w64 ((i : Int) + 1) = (i + 1 : Nat) := (Go.IntWalk.i64_in _ ⟨by omega, by omega⟩).trans (by omega)
    have e1 : (fl (l.take i) ++ rs).take (i * 3) ++ x.e ++ (fl (l.take i) ++ rs).drop (i * 3 + x.e.length) = fl (l.take i ++ [x]) ++ rs.drop 3 := by
      rw [← hlen3, List.take_left, ← List.drop_drop, List.drop_left, fl_app, fl_one]
      rfl
    have hS : St X w0 w m [[⟨b', fl (l.take i ++ [x]) ++ rs.drop 3, 42⟩], [⟨b, fl l ++ rr, 42⟩], [⟨b2, fl [x] ++ rr2, 42⟩]] := by rw [← e1]; exact hS
    have hs2 : SubOk ⟨some ⟨b', 0, none⟩, l.length + 1, c⟩ (i + 1 : Nat) (l.length + 1 : Nat) := ⟨by omega, by omega, by simp <;> omega, by simp <;> omega⟩
    have hlen4 : (fl (l.take i ++ [x])).length = (i + 1) * 3 := by rw [fl_len, List.length_append, List.length_take, Nat.min_eq_left hi]; rfl
    refine e_region ⟨[8], []⟩ mixed fun w' hw' => ?_
    have hS := hS.below hw'
    refine e_p (v := Sl.v ⟨some ⟨b', 0, none⟩, l.length + 1, c⟩) 0 hF rfl (ex_move rfl) rfl rfl (by kernel_rfl) (by kernel_rfl) (by kernel_rfl) fun a hF => e_p (v := iV i) 1 hF rfl (ex_move rfl) rfl rfl (by kernel_rfl) (by kernel_rfl) (by kernel_rfl) fun a hF => e_p (v := iV 1) 2 hF rfl (ex_move rfl) rfl rfl (by kernel_rfl) (by kernel_rfl) (by kernel_rfl) fun a hF => e_p (v := iV (w64 ((i : Int) + 1))) 3 hF rfl (ex_ibin rfl rfl rfl) rfl rfl (by kernel_rfl) (by kernel_rfl) (by kernel_rfl) fun a hF => ?_
    rw [hw3] at hF
    refine e_p (v := (subS ⟨some ⟨b', 0, none⟩, l.length + 1, c⟩ 3 (i + 1) (l.length + 1) c).v) 4 hF rfl (ex_slice (s := ⟨some ⟨b', 0, none⟩, l.length + 1, c⟩) (i := (i + 1 : Nat)) (j := (l.length + 1 : Nat)) (vl := some (iV (i + 1 : Nat))) (vh := none) Tryz.underlying37 sz42 rfl rfl rfl (.inr ⟨_, rfl⟩) (.inl ⟨rfl, rfl⟩) hs2) rfl rfl (by kernel_rfl) (by kernel_rfl) (by kernel_rfl) fun a hF => ?_
    rw [show subS ⟨some ⟨b', 0, none⟩, l.length + 1, c⟩ 3 (i + 1) (l.length + 1) c = ⟨some ⟨b', (i + 1) * 3, none⟩, l.length + 1 - (i + 1), c - (i + 1)⟩ from subS_at (by omega)] at hF
    refine e_p (v := Sl.v ⟨some ⟨b, 0, none⟩, l.length, c1⟩) 5 hF rfl (ex_move rfl) rfl rfl (by kernel_rfl) (by kernel_rfl) (by kernel_rfl) fun a hF => e_p (v := iV i) 6 hF rfl (ex_move rfl) rfl rfl (by kernel_rfl) (by kernel_rfl) (by kernel_rfl) fun a hF => e_p (v := (subS ⟨some ⟨b, 0, none⟩, l.length, c1⟩ 3 i l.length c1).v) 7 hF rfl (ex_slice (s := ⟨some ⟨b, 0, none⟩, l.length, c1⟩) (i := i) (j := l.length) (vl := some (iV i)) (vh := none) Tryz.underlying37 sz42 rfl rfl rfl (.inr ⟨_, rfl⟩) (.inl ⟨rfl, rfl⟩) hso) rfl rfl (by kernel_rfl) (by kernel_rfl) (by kernel_rfl) fun a hF => ?_
    rw [show subS ⟨some ⟨b, 0, none⟩, l.length, c1⟩ 3 i l.length c1 = ⟨some ⟨b, i * 3, none⟩, l.length - i, c1 - i⟩ from subS_at (by omega)] at hF
    have hmin : Nat.min (l.length - i) (l.length + 1 - (i + 1)) = l.length - i := Nat.min_eq_left (by omega)
    refine e_one 8 (by kernel_rfl) (e_opl rfl rfl rfl fun _ hK => wp_copyO (vs := fl (l.drop i)) 0 0 hF hS Tryz.underlying37 sz42 rfl rfl rfl (by rw [hmin]; exact hdl) (cellO (j := 1) (k := 0) hS rfl fun k v hv => ?_) ?_ (fl_ones _) rfl fun a w hF hS => hK _ _ ⟨kpN, ?_⟩)
    · have hk := (List.getElem?_eq_some_iff.1 hv).1
      rw [hsp, List.append_assoc, List.getElem?_append_right (by omega), hlen3, Nat.add_sub_cancel_left, List.getElem?_append_left hk]
      exact hv
    · rw [List.length_append, hlen4, hdl, List.length_drop, hrs]
      omega
    refine e_end (by kernel_rfl) (n_sq (q_seq (q_region (q_x (v := Sl.v ⟨some ⟨b', 0, none⟩, l.length + 1, c⟩) hF hS (ex_move rfl) rfl rfl fun a hF => q_x (v := Sl.v ⟨some ⟨b', 0, none⟩, l.length + 1, c⟩) hF hS (ex_assign rfl) rfl rfl fun a hF => q_end (n_sq (q_ret (r_sq ?_))))))) _
    have e2 : (fl (l.take i ++ [x]) ++ rs.drop 3).take ((i + 1) * 3) ++ fl (l.drop i) ++ (fl (l.take i ++ [x]) ++ rs.drop 3).drop ((i + 1) * 3 + (fl (l.drop i)).length) = fl (l.take i ++ [x] ++ l.drop i) ++ rs.drop (3 + (l.length - i) * 3) := by
      rw [← hlen4, List.take_left, ← List.drop_drop, List.drop_left, fl_app (l.take i ++ [x]), List.drop_drop, hdl]
    have hS : St X w0 w m [[⟨b', fl (l.take i ++ [x] ++ l.drop i) ++ rs.drop (3 + (l.length - i) * 3), 42⟩], [⟨b, fl l ++ rr, 42⟩], [⟨b2, fl [x] ++ rr2, 42⟩]] := by rw [← e2]; exact hS
    have hll : (l.take i ++ [x] ++ l.drop i).length = l.length + 1 := by simp; omega
    have hO : OwnL m 42 [⟨b', fl (l.take i ++ [x] ++ l.drop i) ++ rs.drop (3 + (l.length - i) * 3), 42⟩] ⟨some ⟨b', 0, none⟩, l.length + 1, c⟩ (l.take i ++ [x] ++ l.drop i) := by
      rw [← hll]
      exact own_of (by rw [List.length_drop, hrs, hll]; omega) (by omega) hcm
    exact ret_ofX hF hS rfl (.tmp rfl .nil) ⟨_, _, rfl, hS.mask [true, false, false], hO⟩
  -- room
  have hge : (l.length + 1 : Nat) ≤ c1 := by
    have : ¬ ((c1 : Int) < (l.length + 1 : Nat)) := of_decide_eq_false hc2
    omega
  have hw3 : w64 ((i : Int) + 1) = (i + 1 : Nat) := by
    have h := Go.IntWalk.i64_in ((i : Int) + 1) ⟨by omega, by omega⟩
    exact h.trans (by omega)
  have hlen3 : (fl (l.take i)).length = i * 3 := by rw [fl_len, List.length_take, Nat.min_eq_left hi]
  have hsp : fl l = fl (l.take i) ++ fl (l.drop i) := by rw [← fl_app, List.take_append_drop]
  have hdl : (fl (l.drop i)).length = (l.length - i) * 3 := by rw [fl_len, List.length_drop]
  have htk : (fl l ++ rr).take (i * 3) = fl (l.take i) := by rw [hsp, List.append_assoc, ← hlen3, List.take_left]
  have hcl : (fl l ++ rr).length = c1 * 3 := by rw [List.length_append, fl_len, hrr]; omega
  have hx3 : x.e.length = 3 := rfl
  have hs1 : SubOk ⟨some ⟨b, 0, none⟩, l.length + 1, c1⟩ (i + 1 : Nat) (l.length + 1 : Nat) := ⟨by omega, by omega, by simp <;> omega, by simp <;> omega⟩
  have hs2 : SubOk ⟨some ⟨b, 0, none⟩, l.length + 1, c1⟩ i (l.length + 1 : Nat) := ⟨by omega, by omega, by simp <;> omega, by simp <;> omega⟩
  have es1 : subS ⟨some ⟨b, 0, none⟩, l.length + 1, c1⟩ 3 (i + 1) (l.length + 1) c1 = ⟨some ⟨b, (i + 1) * 3, none⟩, l.length + 1 - (i + 1), c1 - (i + 1)⟩ := subS_at (by omega)
  have es2 : subS ⟨some ⟨b, 0, none⟩, l.length + 1, c1⟩ 3 i (l.length + 1) c1 = ⟨some ⟨b, i * 3, none⟩, l.length + 1 - i, c1 - i⟩ := subS_at (by omega)
  refine q_cond_f hF rfl hc2 (q_skipc (n_sq ?_))
  refine q_seq (q_region (q_x (v := Sl.v ⟨some ⟨b, 0, none⟩, l.length, c1⟩) hF hS (ex_move rfl) rfl rfl fun a hF => q_x (v := iV l.length) hF hS (ex_move rfl) rfl rfl fun a hF => q_x (v := iV 1) hF hS (ex_move rfl) rfl rfl fun a hF => q_x (v := iV (w64 ((l.length : Int) + 1))) hF hS (ex_ibin rfl rfl rfl) rfl rfl fun a hF => ?_))
  rw [hw1] at hF
  refine q_x (v := (subS ⟨some ⟨b, 0, none⟩, l.length, c1⟩ 3 0 (l.length + 1) c1).v) hF hS (ex_sliceC (s := ⟨some ⟨b, 0, none⟩, l.length, c1⟩) (i := 0) (j := (l.length + 1 : Nat)) (vl := none) (vh := some (iV (l.length + 1 : Nat))) Tryz.underlying37 sz42 rfl rfl rfl (.inl ⟨rfl, rfl⟩) (by omega) (by omega) (by show ((l.length + 1 : Nat) : Int) ≤ (c1 : Int); omega) ⟨_, rfl⟩) rfl rfl fun a hF => ?_
  rw [show subS ⟨some ⟨b, 0, none⟩, l.length, c1⟩ 3 0 (l.length + 1) c1 = ⟨some ⟨b, 0, none⟩, l.length + 1, c1⟩ from (subS_at (by omega)).trans (by simp)] at hF
  refine q_x (v := Sl.v ⟨some ⟨b, 0, none⟩, l.length + 1, c1⟩) hF hS (ex_assign rfl) rfl rfl fun a hF => q_end (n_sq (q_seq (q_seq (q_region ?_))))
  refine q_x (v := Sl.v ⟨some ⟨b2, 0, none⟩, 1, c2⟩) hF hS (ex_move rfl) rfl rfl fun a hF => q_x (v := Sl.v ⟨some ⟨b, 0, none⟩, l.length + 1, c1⟩) hF hS (ex_move rfl) rfl rfl fun a hF => q_x (v := iV i) hF hS (ex_move rfl) rfl rfl fun a hF => q_x (v := iV 1) hF hS (ex_move rfl) rfl rfl fun a hF => q_x (v := iV (w64 ((i : Int) + 1))) hF hS (ex_ibin rfl rfl rfl) rfl rfl fun a hF => ?_
  rw [hw3] at hF
  refine q_x (v := (subS ⟨some ⟨b, 0, none⟩, l.length + 1, c1⟩ 3 (i + 1) (l.length + 1) c1).v) hF hS (ex_slice (s := ⟨some ⟨b, 0, none⟩, l.length + 1, c1⟩) (i := (i + 1 : Nat)) (j := (l.length + 1 : Nat)) (vl := some (iV (i + 1 : Nat))) (vh := none) Tryz.underlying37 sz42 rfl rfl rfl (.inr ⟨_, rfl⟩) (.inl ⟨rfl, rfl⟩) hs1) rfl rfl fun a hF => ?_
  rw [es1] at hF
  refine q_over 1 0 0 0 hF hS rfl rfl hne (fun e => by rw [e] at hcl; simp at hcl; omega) rfl rfl rfl fun a hF => ?_
  refine q_x (v := .bool (!false)) hF hS (ex_not rfl) rfl rfl fun a hF => q_end (n_sq (q_cond_t hF rfl rfl (q_seq ?_)))
  refine e_region ⟨[8], []⟩ mixed fun w' hw' => ?_
  have hS := hS.below hw'
  refine e_p (v := Sl.v ⟨some ⟨b, 0, none⟩, l.length + 1, c1⟩) 0 hF rfl (ex_move rfl) rfl rfl (by kernel_rfl) (by kernel_rfl) (by kernel_rfl) fun a hF => e_p (v := iV i) 1 hF rfl (ex_move rfl) rfl rfl (by kernel_rfl) (by kernel_rfl) (by kernel_rfl) fun a hF => e_p (v := iV 1) 2 hF rfl (ex_move rfl) rfl rfl (by kernel_rfl) (by kernel_rfl) (by kernel_rfl) fun a hF => e_p (v := iV (w64 ((i : Int) + 1))) 3 hF rfl (ex_ibin rfl rfl rfl) rfl rfl (by kernel_rfl) (by kernel_rfl) (by kernel_rfl) fun a hF => ?_
  rw [hw3] at hF
  refine e_p (v := (subS ⟨some ⟨b, 0, none⟩, l.length + 1, c1⟩ 3 (i + 1) (l.length + 1) c1).v) 4 hF rfl (ex_slice (s := ⟨some ⟨b, 0, none⟩, l.length + 1, c1⟩) (i := (i + 1 : Nat)) (j := (l.length + 1 : Nat)) (vl := some (iV (i + 1 : Nat))) (vh := none) Tryz.underlying37 sz42 rfl rfl rfl (.inr ⟨_, rfl⟩) (.inl ⟨rfl, rfl⟩) hs1) rfl rfl (by kernel_rfl) (by kernel_rfl) (by kernel_rfl) fun a hF => ?_
  rw [es1] at hF
  refine e_p (v := Sl.v ⟨some ⟨b, 0, none⟩, l.length + 1, c1⟩) 5 hF rfl (ex_move rfl) rfl rfl (by kernel_rfl) (by kernel_rfl) (by kernel_rfl) fun a hF => e_p (v := iV i) 6 hF rfl (ex_move rfl) rfl rfl (by kernel_rfl) (by kernel_rfl) (by kernel_rfl) fun a hF => e_p (v := (subS ⟨some ⟨b, 0, none⟩, l.length + 1, c1⟩ 3 i (l.length + 1) c1).v) 7 hF rfl (ex_slice (s := ⟨some ⟨b, 0, none⟩, l.length + 1, c1⟩) (i := i) (j := (l.length + 1 : Nat)) (vl := some (iV i)) (vh := none) Tryz.underlying37 sz42 rfl rfl rfl (.inr ⟨_, rfl⟩) (.inl ⟨rfl, rfl⟩) hs2) rfl rfl (by kernel_rfl) (by kernel_rfl) (by kernel_rfl) fun a hF => ?_
  rw [es2] at hF
  have hmin : Nat.min (l.length + 1 - i) (l.length + 1 - (i + 1)) = l.length - i := by
    have : l.length + 1 - (i + 1) = l.length - i := by omega
    rw [this]
    exact Nat.min_eq_right (by omega)
  refine e_one 8 (by kernel_rfl) (e_opl rfl rfl rfl fun _ hK => wp_copyO (vs := fl (l.drop i)) 0 0 hF hS Tryz.underlying37 sz42 rfl rfl rfl (by rw [hmin]; exact hdl) (cellO (j := 0) (k := 0) hS rfl fun k v hv => ?_) ?_ (fl_ones _) rfl fun a w hF hS => hK _ _ ⟨kpN, ?_⟩)
  · have hk := (List.getElem?_eq_some_iff.1 hv).1
    rw [hsp, List.append_assoc, List.getElem?_append_right (by omega), hlen3, Nat.add_sub_cancel_left, List.getElem?_append_left hk]
    exact hv
  · rw [hcl, hdl]
    omega
  refine e_end (by kernel_rfl) (n_sq (q_seq (q_region ?_))) _
  have hul : ((fl l ++ rr).take ((i + 1) * 3)).length = (i + 1) * 3 := by rw [List.length_take, hcl]; omega
  have hut : ((fl l ++ rr).take ((i + 1) * 3)).take (i * 3) = fl (l.take i) := by rw [List.take_take, Nat.min_eq_left (by omega), htk]
  have hDl : ((fl l ++ rr).drop ((i + 1) * 3 + (fl (l.drop i)).length)).length = (c1 - (l.length + 1)) * 3 := by rw [List.length_drop, hcl, hdl]; omega
  generalize (fl l ++ rr).take ((i + 1) * 3) = u at hS hul hut
  generalize (fl l ++ rr).drop ((i + 1) * 3 + (fl (l.drop i)).length) = D at hS hDl
  refine q_x (v := Sl.v ⟨some ⟨b, 0, none⟩, l.length + 1, c1⟩) hF hS (ex_move rfl) rfl rfl fun a hF => q_x (v := iV i) hF hS (ex_move rfl) rfl rfl fun a hF => q_x (v := (subS ⟨some ⟨b, 0, none⟩, l.length + 1, c1⟩ 3 i (l.length + 1) c1).v) hF hS (ex_slice (s := ⟨some ⟨b, 0, none⟩, l.length + 1, c1⟩) (i := i) (j := (l.length + 1 : Nat)) (vl := some (iV i)) (vh := none) Tryz.underlying37 sz42 rfl rfl rfl (.inr ⟨_, rfl⟩) (.inl ⟨rfl, rfl⟩) hs2) rfl rfl fun a hF => ?_
  rw [es2] at hF
  refine q_x (v := Sl.v ⟨some ⟨b2, 0, none⟩, 1, c2⟩) hF hS (ex_move rfl) rfl rfl fun a hF => ?_
  refine q_do rfl fun _ hK => wp_copyO (vs := x.e) 0 0 hF hS Tryz.underlying37 sz42 rfl rfl rfl ?_ (cellO (j := 1) (k := 0) hS rfl fun i v hv => ?_) ?_ fl_one' rfl fun a w hF hS => hK _ _ (q_end (n_sq (q_seq ?_)))
  · rw [hx3]
    have : Nat.min 1 (l.length + 1 - i) = 1 := Nat.min_eq_left (by omega)
    rw [this]
  · rw [fl_one]
    rw [List.getElem?_append_left (by have := (List.getElem?_eq_some_iff.1 hv).1; omega), Nat.zero_add]
    exact hv
  · rw [List.length_append, List.length_append, hul, hdl, hDl, hx3]
    omega
  refine q_region (q_x (v := Sl.v ⟨some ⟨b, 0, none⟩, l.length + 1, c1⟩) hF hS (ex_move rfl) rfl rfl fun a hF => q_x (v := Sl.v ⟨some ⟨b, 0, none⟩, l.length + 1, c1⟩) hF hS (ex_assign rfl) rfl rfl fun a hF => q_end (n_sq (q_ret (r_sq ?_))))
  have e2 : (u ++ fl (l.drop i) ++ D).take (i * 3) ++ x.e ++ (u ++ fl (l.drop i) ++ D).drop (i * 3 + x.e.length) = fl (l.take i ++ [x] ++ l.drop i) ++ D := by
    have e5 : i * 3 + x.e.length = u.length := by rw [hul, hx3]; omega
    rw [e5, List.append_assoc u, List.take_append_of_le_length (by omega), hut, List.drop_left, fl_app, fl_app, fl_one, List.append_assoc (fl (l.take i) ++ x.e)]
  have hS : St X w0 w m [[⟨b, fl (l.take i ++ [x] ++ l.drop i) ++ D, 42⟩], [⟨b2, fl [x] ++ rr2, 42⟩]] := by rw [← e2]; exact hS
  have hll : (l.take i ++ [x] ++ l.drop i).length = l.length + 1 := by simp; omega
  have hO : OwnL m 42 [⟨b, fl (l.take i ++ [x] ++ l.drop i) ++ D, 42⟩] ⟨some ⟨b, 0, none⟩, l.length + 1, c1⟩ (l.take i ++ [x] ++ l.drop i) := by
    rw [← hll]
    exact own_of (by rw [hDl, hll]) (by omega) hm1
  exact ret_ofX hF hS rfl (.tmp rfl .nil) ⟨_, _, rfl, hS.mask [true, false], hO⟩

theorem c_hkCmp (p_h : HKey) (p_r : impl_Record) (r : Int) (hr : hkCmp p_h p_r = some r) (w0 : World) (m : Mem) (hv : Vis m w0) (s1 : Sl) (s2 : Sl) (h2 : Rd m s2 p_r.Values) :
  Ret Tryz.prog 65 [(.agg #[(.int .i64 p_h.Area), (.int .i64 p_h.House), s1.v]), (.agg #[(.int .i64 p_r.Area), (.int .i64 p_r.House), s2.v])] w0 (fun v _ => v = (.int .i64 r)) := by
 unfold hkCmp at hr
 refine ret_start Tryz.func65 rfl 19 rfl rfl m hv fun a hF hS => q_seq (q_region (q_box (cs := [(.int .i64 p_h.Area), (.int .i64 p_h.House), s1.v]) hF hS rfl rfl rfl fun a w b3 hF hS => q_box (cs := [(.int .i64 p_r.Area), (.int .i64 p_r.House), s2.v]) hF hS rfl rfl rfl fun a w b4 hF hS => q_x (v := (.int .i64 0)) hF hS (ex_assign rfl) rfl rfl fun a hF => q_end (n_sq (q_seq (q_seq (q_region (q_x (v := (.pointer (some ⟨b3, 0, none⟩))) hF hS (ex_fieldAddr Tryz.underlying42 rfl sz3 rfl rfl) rfl rfl fun a hF => q_x (v := (.int .i64 p_h.Area)) hF hS (ex_load1 1 0 Tryz.underlying3 rfl rfl rfl rfl) rfl rfl fun a hF => q_x (v := (.pointer (some ⟨b4, 0, none⟩))) hF hS (ex_fieldAddr Tryz.underlying44 rfl sz3 rfl rfl) rfl rfl fun a hF => q_x (v := (.int .i64 p_r.Area)) hF hS (ex_load1 0 0 Tryz.underlying3 rfl rfl rfl rfl) rfl rfl fun a hF => ?_)))))))
 obtain ⟨t_5, ht_5, hr⟩ := bindS hr
 refine q_call (vs := [(.int .i64 p_h.Area), (.int .i64 p_r.Area)]) hF hS Tryz.func40 (by kernel_rfl) rfl rfl rfl (c_cmp_Compare_int p_h.Area p_r.Area t_5 ht_5 _ m hS.vis) ?_
 rintro a w _ rfl hF hS
 refine q_x (v := (.int .i64 t_5)) hF hS (ex_assign rfl) rfl rfl fun a hF => q_end (n_sq (q_seq (q_region (q_x (v := (.int .i64 t_5)) hF hS (ex_move rfl) rfl rfl fun a hF => q_x (v := (.bool (t_5 != 0))) hF hS (ex_ibin rfl rfl rfl) rfl rfl fun a hF => q_end (n_sq ?_)))))
 rcases bcase (t_5 != 0) with hc1 | hc1
 ·have hr := cond_f hc1 hr
  refine q_cond_f hF rfl hc1 (q_skipc (n_sq (q_seq (q_region (q_x (v := (.pointer (some ⟨b3, 1, none⟩))) hF hS (ex_fieldAddr Tryz.underlying42 rfl sz3 rfl rfl) rfl rfl fun a hF => q_x (v := (.int .i64 p_h.House)) hF hS (ex_load1 1 0 Tryz.underlying3 rfl rfl rfl rfl) rfl rfl fun a hF => q_x (v := (.pointer (some ⟨b4, 1, none⟩))) hF hS (ex_fieldAddr Tryz.underlying44 rfl sz3 rfl rfl) rfl rfl fun a hF => q_x (v := (.int .i64 p_r.House)) hF hS (ex_load1 0 0 Tryz.underlying3 rfl rfl rfl rfl) rfl rfl fun a hF => ?_)))))
  obtain ⟨t_6, ht_6, hr⟩ := bindS hr
  refine q_call (vs := [(.int .i64 p_h.House), (.int .i64 p_r.House)]) hF hS Tryz.func40 (by kernel_rfl) rfl rfl rfl (c_cmp_Compare_int p_h.House p_r.House t_6 ht_6 _ m hS.vis) ?_
  rintro a w _ rfl hF hS
  refine q_x (v := (.int .i64 t_6)) hF hS (ex_assign rfl) rfl rfl fun a hF => q_end (n_sq (q_ret ?_))
  obtain rfl := someI hr
  exact ret_of hF hS rfl (.tmp rfl .nil) rfl
 ·have hr := cond_t hc1 hr
  refine q_cond_t hF rfl hc1 (q_seq (q_region (q_x (v := (.int .i64 t_5)) hF hS (ex_move rfl) rfl rfl fun a hF => q_x (v := (.int .i64 t_5)) hF hS (ex_assign rfl) rfl rfl fun a hF => q_end (n_sq (q_ret (r_sq ?_))))))
  obtain rfl := someI hr
  exact ret_of hF hS rfl (.tmp rfl .nil) rfl

theorem c_hkSearch (p_x : List HKey) (p_target : impl_Record) (r : Int × Bool) (hr : hkSearch p_x p_target = some r) (w0 : World) (m : Mem) (hv : Vis m w0) (s1 : Sl) (h1 : Rd m s1 p_x) (s2 : Sl) (h2 : Rd m s2 p_target.Values) :
  Ret Tryz.prog 64 [s1.v, (.agg #[(.int .i64 p_target.Area), (.int .i64 p_target.House), s2.v]), (.func (.func 65) #[] #[])] w0 (fun v _ => v = (.tuple #[(.int .i64 r.1), (.bool r.2)])) := by
 unfold hkSearch at hr
 refine ret_start Tryz.func64 rfl 49 rfl rfl m hv fun a hF hS => q_seq (q_region (q_box (cs := [(.int .i64 p_target.Area), (.int .i64 p_target.House), s2.v]) hF hS rfl rfl rfl fun a w b3 hF hS => q_x (v := (.int .i64 0)) hF hS (ex_assign rfl) rfl rfl fun a hF => q_x (v := (.bool false)) hF hS (ex_assign rfl) rfl rfl fun a hF => q_end (n_sq (q_seq (q_region (q_x (v := s1.v) hF hS (ex_move rfl) rfl rfl fun a hF => q_x (v := (.int .i64 (goLen p_x))) hF hS (ex_len Tryz.underlying37 rfl h1.len) rfl rfl fun a hF => q_x (v := (.int .i64 (goLen p_x))) hF hS (ex_assign rfl) rfl rfl fun a hF => q_end (n_sq (q_seq (q_region (q_x (v := (.int .i64 (goLen p_x))) hF hS (ex_move rfl) rfl rfl fun a hF => q_x (v := (.int .i64 0)) hF hS (ex_assign rfl) rfl rfl fun a hF => q_x (v := (.int .i64 (goLen p_x))) hF hS (ex_assign rfl) rfl rfl fun a hF => q_end (n_sq (q_seq (q_block ?_)))))))))))))
 obtain ⟨i_13, hl1, hr⟩ := bindS hr
 refine q_loop (fun (s : Int × Int) a w => ∃ i_4, ∃ j_5, s = (i_4, j_5) ∧ Fr a 49 [(0, s1.v), (2, (.func (.func 65) #[] #[])), (4, (.pointer (some ⟨b3, 0, none⟩))), (8, (.int .i64 (goLen p_x))), (9, (.int .i64 i_4)), (10, (.int .i64 j_5))] ∧ St [] w0 w m [[⟨b3, [(.int .i64 p_target.Area), (.int .i64 p_target.House), s2.v], 44⟩]]) (fun (i_13 : Int) e a w => e = .exit 0 ∧ Fr a 49 [(0, s1.v), (2, (.func (.func 65) #[] #[])), (4, (.pointer (some ⟨b3, 0, none⟩))), (8, (.int .i64 (goLen p_x))), (9, (.int .i64 i_13))] ∧ St [] w0 w m [[⟨b3, [(.int .i64 p_target.Area), (.int .i64 p_target.House), s2.v], 44⟩]]) hl1 ⟨_, _, rfl, hF.sub ⟨rfl, rfl, rfl, rfl, rfl, rfl, trivial⟩, hS⟩ ?_ ?_
 ·clear hF hS
  rintro s a w st ⟨i_4, j_5, rfl, hF, hS⟩ hb1
  unfold hkSearch_l1 at hb1
  refine q_seq (q_seq (q_region (q_x (v := (.int .i64 i_4)) hF hS (ex_move rfl) rfl rfl fun a hF => q_x (v := (.int .i64 j_5)) hF hS (ex_move rfl) rfl rfl fun a hF => q_x (v := (.bool (decide (i_4 < j_5)))) hF hS (ex_ibin rfl rfl rfl) rfl rfl fun a hF => q_end (n_sq ?_))))
  rcases bcase (decide (i_4 < j_5)) with hc2 | hc2
  ·have hb1 := cond_f hc2 hb1
   refine q_cond_f hF rfl hc2 (q_exit (x_sq ?_))
   obtain rfl := someI hb1
   exact ⟨nofun, .inl ⟨rfl, hF.sub ⟨rfl, rfl, rfl, rfl, rfl, trivial⟩, hS⟩⟩
  ·have hb1 := cond_t hc2 hb1
   refine q_cond_t hF rfl hc2 (q_skipc (n_sq (q_block (q_seq (q_region (q_x (v := (.int .i64 i_4)) hF hS (ex_move rfl) rfl rfl fun a hF => q_x (v := (.int .i64 j_5)) hF hS (ex_move rfl) rfl rfl fun a hF => q_x (v := (.int .i64 (w64 (i_4 + j_5)))) hF hS (ex_ibin rfl rfl rfl) rfl rfl fun a hF => q_x (v := (.int .u64 (IntKind.wrap .u64 (w64 (i_4 + j_5))))) hF hS (ex_conv Tryz.underlying3 Tryz.underlying106 rfl) rfl rfl fun a hF => ?_))))))
   obtain ⟨t_6, ht_6, hb1⟩ := bindS hb1
   refine q_x (v := (.int .u64 t_6)) hF hS (ex_shr rfl rfl ht_6) rfl rfl fun a hF => q_x (v := (.int .i64 (w64 t_6))) hF hS (ex_conv Tryz.underlying106 Tryz.underlying3 rfl) rfl rfl fun a hF => q_x (v := (.int .i64 (w64 t_6))) hF hS (ex_assign rfl) rfl rfl fun a hF => q_end (n_sq (q_seq (e_region ⟨[6], [b3]⟩ mixed fun w' hw' => ?_)))
   have hS := hS.below hw'
   refine e_p (v := (.func (.func 65) #[] #[])) 0 hF rfl (ex_move rfl) rfl rfl (by kernel_rfl) (by kernel_rfl) (by kernel_rfl) fun a hF => e_p (v := s1.v) 1 hF rfl (ex_move rfl) rfl rfl (by kernel_rfl) (by kernel_rfl) (by kernel_rfl) fun a hF => e_p (v := (.int .i64 (w64 t_6))) 2 hF rfl (ex_move rfl) rfl rfl (by kernel_rfl) (by kernel_rfl) (by kernel_rfl) fun a hF => ?_
   obtain ⟨e_7, he_7, hb1⟩ := bindS hb1
   obtain ⟨vs8, at8, d8⟩ := h1.at he_7 3 rfl
   obtain ⟨s9, rfl⟩ : ∃ s9 : Sl, vs8 = [(.int .i64 e_7.Area), (.int .i64 e_7.House), s9.v] := d8
   refine e_p (v := (elP s1 ((w64 t_6).toNat * 3))) 3 hF rfl (ex_indexAddr Tryz.underlying37 sz42 rfl rfl (h1.idx he_7)) rfl rfl (by kernel_rfl) (by kernel_rfl) (by kernel_rfl) fun a hF => e_x (v := (.agg #[(.int .i64 e_7.Area), (.int .i64 e_7.House), s9.v])) 4 hF hS rfl (ex_loadEA (us := [(.int .i64 e_7.Area), (.int .i64 e_7.House), s9.v]) 0 Tryz.underlying42 rfl sz42 rfl ((at8).at) rfl rfl rfl) rfl rfl (by kernel_rfl) (by kernel_rfl) (by kernel_rfl) (by kernel_rfl) fun a hF => e_xb (v := (.agg #[(.int .i64 p_target.Area), (.int .i64 p_target.House), s2.v])) 5 0 hF hS (.head _) rfl rfl (ex_loadA (vs := [(.int .i64 p_target.Area), (.int .i64 p_target.House), s2.v]) 0 0 Tryz.underlying44 rfl sz44 rfl rfl rfl rfl) rfl rfl (by kernel_rfl) (by kernel_rfl) (by kernel_rfl) fun a hF => e_one 6 (by kernel_rfl) ?_
   obtain ⟨t_10, ht_10, hb1⟩ := bindS hb1
   refine e_callv (vs := [(.agg #[(.int .i64 e_7.Area), (.int .i64 e_7.House), s9.v]), (.agg #[(.int .i64 p_target.Area), (.int .i64 p_target.House), s2.v])]) (cap := []) hF hS rfl rfl Tryz.func65 (by kernel_rfl) rfl rfl rfl (c_hkCmp e_7 p_target t_10 ht_10 _ m hS.vis s9 s2 h2) ?_
   rintro a w _ rfl hF hS
   refine e_p (v := (.bool (decide (t_10 < 0)))) 7 hF rfl (ex_ibin rfl rfl rfl) rfl rfl (by kernel_rfl) (by kernel_rfl) (by kernel_rfl) fun a hF => e_end (by kernel_rfl) (n_sq ?_) _
   obtain ⟨j3, hj3, hb1⟩ := bindS hb1
   refine q_join (fun a w => ∃ i_11, ∃ j_12, j3 = (i_11, j_12) ∧ Fr a 49 [(0, s1.v), (2, (.func (.func 65) #[] #[])), (4, (.pointer (some ⟨b3, 0, none⟩))), (8, (.int .i64 (goLen p_x))), (9, (.int .i64 i_11)), (10, (.int .i64 j_12))] ∧ St [] w0 w m [[⟨b3, [(.int .i64 p_target.Area), (.int .i64 p_target.House), s2.v], 44⟩]]) ?_ ?_
   ·rcases bcase (decide (t_10 < 0)) with hc4 | hc4
    ·have hj3 := cond_f hc4 hj3
     refine q_cond_f hF rfl hc4 (q_region (q_x (v := (.int .i64 (w64 t_6))) hF hS (ex_move rfl) rfl rfl fun a hF => q_x (v := (.int .i64 (w64 t_6))) hF hS (ex_assign rfl) rfl rfl fun a hF => q_end (n_jn ?_)))
     obtain rfl := someI hj3
     exact ⟨_, _, rfl, hF.sub ⟨rfl, rfl, rfl, rfl, rfl, rfl, trivial⟩, hS⟩
    ·have hj3 := cond_t hc4 hj3
     refine q_cond_t hF rfl hc4 (q_region (q_x (v := (.int .i64 (w64 t_6))) hF hS (ex_move rfl) rfl rfl fun a hF => q_x (v := (.int .i64 (w64 ((w64 t_6) + 1)))) hF hS (ex_ibin rfl rfl rfl) rfl rfl fun a hF => q_x (v := (.int .i64 (w64 ((w64 t_6) + 1)))) hF hS (ex_assign rfl) rfl rfl fun a hF => q_end (n_jn ?_)))
     obtain rfl := someI hj3
     exact ⟨_, _, rfl, hF.sub ⟨rfl, rfl, rfl, rfl, rfl, rfl, trivial⟩, hS⟩
   ·rintro a w ⟨i_11, j_12, rfl, hF, hS⟩
    refine n_ib ?_
    obtain rfl := someI hb1
    exact ⟨rfl, _, _, rfl, hF.sub ⟨rfl, rfl, rfl, rfl, rfl, rfl, trivial⟩, hS⟩
 ·rintro e a w ⟨rfl, hF, hS⟩
  refine x_ib (n_sq ?_)
  refine q_seq ?_
  obtain ⟨t_18, hj5, hr⟩ := bindS hr
  refine q_join (fun a w => Fr a 49 [(6, (.int .i64 i_13)), (7, (.bool t_18))] ∧ St [] w0 w m []) ?_ ?_
  ·refine e_region ⟨[11], []⟩ mixed fun w' hw' => ?_
   have hS := hS.below hw'
   refine e_p (v := (.int .i64 i_13)) 0 hF rfl (ex_move rfl) rfl rfl (by kernel_rfl) (by kernel_rfl) (by kernel_rfl) fun a hF => e_p (v := (.int .i64 i_13)) 1 hF rfl (ex_move rfl) rfl rfl (by kernel_rfl) (by kernel_rfl) (by kernel_rfl) fun a hF => e_p (v := (.int .i64 (goLen p_x))) 2 hF rfl (ex_move rfl) rfl rfl (by kernel_rfl) (by kernel_rfl) (by kernel_rfl) fun a hF => e_p (v := (.bool (decide (i_13 < (goLen p_x))))) 3 hF rfl (ex_ibin rfl rfl rfl) rfl rfl (by kernel_rfl) (by kernel_rfl) (by kernel_rfl) fun a hF => e_p (v := (.bool (decide (i_13 < (goLen p_x))))) 4 hF rfl (ex_move rfl) rfl rfl (by kernel_rfl) (by kernel_rfl) (by kernel_rfl) fun a hF => ?_
   rcases bcase (decide (i_13 < (goLen p_x))) with hc6 | hc6
   ·have hj5 := cond_f hc6 hj5
    refine e_skipP 5 hF rfl (wanted_f hF rfl rfl rfl hc6 rfl) rfl (by kernel_rfl) (by kernel_rfl) (by kernel_rfl) fun a hF => e_skipP 6 hF rfl (wanted_f hF rfl rfl rfl hc6 rfl) rfl (by kernel_rfl) (by kernel_rfl) (by kernel_rfl) fun a hF => e_skipP 7 hF rfl (wanted_f hF rfl rfl rfl hc6 rfl) rfl (by kernel_rfl) (by kernel_rfl) (by kernel_rfl) fun a hF => e_skipP 8 hF rfl (wanted_f hF rfl rfl rfl hc6 rfl) rfl (by kernel_rfl) (by kernel_rfl) (by kernel_rfl) fun a hF => e_skipP 9 hF rfl (wanted_f hF rfl rfl rfl hc6 rfl) rfl (by kernel_rfl) (by kernel_rfl) (by kernel_rfl) fun a hF => e_skipP 10 hF rfl (wanted_f hF rfl rfl rfl hc6 rfl) rfl (by kernel_rfl) (by kernel_rfl) (by kernel_rfl) fun a hF => e_skipP 11 hF rfl (wanted_f hF rfl rfl rfl hc6 rfl) rfl (by kernel_rfl) (by kernel_rfl) (by kernel_rfl) fun a hF => e_skipP 12 hF rfl (wanted_f hF rfl rfl rfl hc6 rfl) rfl (by kernel_rfl) (by kernel_rfl) (by kernel_rfl) fun a hF => e_p (v := (.bool false)) 13 hF rfl (ex_pick_f rfl rfl hc6) rfl rfl (by kernel_rfl) (by kernel_rfl) (by kernel_rfl) fun a hF => e_p (v := (.int .i64 i_13)) 14 hF rfl (ex_assign rfl) rfl rfl (by kernel_rfl) (by kernel_rfl) (by kernel_rfl) fun a hF => e_p (v := (.bool false)) 15 hF rfl (ex_assign rfl) rfl rfl (by kernel_rfl) (by kernel_rfl) (by kernel_rfl) fun a hF => e_end (by kernel_rfl) (n_jn ?_) _
    obtain rfl := someI hj5
    exact ⟨hF.sub ⟨rfl, rfl, trivial⟩, hS.mask [false]⟩
   ·have hj5 := cond_t hc6 hj5
    refine e_pg (v := (.func (.func 65) #[] #[])) 5 hF rfl (ex_move rfl) (wanted_t hF rfl rfl rfl hc6) rfl (by kernel_rfl) (by kernel_rfl) (by kernel_rfl) fun a hF => e_pg (v := s1.v) 6 hF rfl (ex_move rfl) (wanted_t hF rfl rfl rfl hc6) rfl (by kernel_rfl) (by kernel_rfl) (by kernel_rfl) fun a hF => e_pg (v := (.int .i64 i_13)) 7 hF rfl (ex_move rfl) (wanted_t hF rfl rfl rfl hc6) rfl (by kernel_rfl) (by kernel_rfl) (by kernel_rfl) fun a hF => ?_
    obtain ⟨e_14, he_14, hj5⟩ := bindS hj5
    obtain ⟨vs15, at15, d15⟩ := h1.at he_14 3 rfl
    obtain ⟨s16, rfl⟩ : ∃ s16 : Sl, vs15 = [(.int .i64 e_14.Area), (.int .i64 e_14.House), s16.v] := d15
    refine e_pg (v := (elP s1 (i_13.toNat * 3))) 8 hF rfl (ex_indexAddr Tryz.underlying37 sz42 rfl rfl (h1.idx he_14)) (wanted_t hF rfl rfl rfl hc6) rfl (by kernel_rfl) (by kernel_rfl) (by kernel_rfl) fun a hF => e_xg (v := (.agg #[(.int .i64 e_14.Area), (.int .i64 e_14.House), s16.v])) 9 hF hS rfl (ex_loadEA (us := [(.int .i64 e_14.Area), (.int .i64 e_14.House), s16.v]) 0 Tryz.underlying42 rfl sz42 rfl ((at15).at) rfl rfl rfl) (wanted_t hF rfl rfl rfl hc6) rfl (by kernel_rfl) (by kernel_rfl) (by kernel_rfl) (by kernel_rfl) fun a hF => e_xg (v := (.agg #[(.int .i64 p_target.Area), (.int .i64 p_target.House), s2.v])) 10 hF hS rfl (ex_loadA (vs := [(.int .i64 p_target.Area), (.int .i64 p_target.House), s2.v]) 0 0 Tryz.underlying44 rfl sz44 rfl rfl rfl rfl) (wanted_t hF rfl rfl rfl hc6) rfl (by kernel_rfl) (by kernel_rfl) (by kernel_rfl) (by kernel_rfl) fun a hF => e_one 11 (by kernel_rfl) ?_
    obtain ⟨t_17, ht_17, hj5⟩ := bindS hj5
    refine e_callvg (vs := [(.agg #[(.int .i64 e_14.Area), (.int .i64 e_14.House), s16.v]), (.agg #[(.int .i64 p_target.Area), (.int .i64 p_target.House), s2.v])]) (cap := []) hF hS rfl (wanted_t hF rfl rfl rfl hc6) rfl Tryz.func65 (by kernel_rfl) rfl rfl rfl (c_hkCmp e_14 p_target t_17 ht_17 _ m hS.vis s16 s2 h2) ?_
    rintro a w _ rfl hF hS
    refine e_pg (v := (.bool (t_17 == 0))) 12 hF rfl (ex_ibin rfl rfl rfl) (wanted_t hF rfl rfl rfl hc6) rfl (by kernel_rfl) (by kernel_rfl) (by kernel_rfl) fun a hF => e_p (v := (.bool (t_17 == 0))) 13 hF rfl (ex_pick_t rfl rfl hc6) rfl rfl (by kernel_rfl) (by kernel_rfl) (by kernel_rfl) fun a hF => e_p (v := (.int .i64 i_13)) 14 hF rfl (ex_assign rfl) rfl rfl (by kernel_rfl) (by kernel_rfl) (by kernel_rfl) fun a hF => e_p (v := (.bool (t_17 == 0))) 15 hF rfl (ex_assign rfl) rfl rfl (by kernel_rfl) (by kernel_rfl) (by kernel_rfl) fun a hF => e_end (by kernel_rfl) (n_jn ?_) _
    obtain rfl := someI hj5
    exact ⟨hF.sub ⟨rfl, rfl, trivial⟩, hS.mask [false]⟩
  ·rintro a w ⟨hF, hS⟩
   refine n_sq (q_ret ?_)
   obtain rfl := someI hr
   exact ret_of hF hS rfl (.tmp rfl (.tmp rfl .nil)) rfl


abbrev HT := HH × Piece × impl_Household

def HGood (m : Mem) (t : HT) : Prop := t.1.Area = t.2.2.Area ∧ t.1.House = t.2.2.House ∧ OwnL m 3 t.2.1 t.1.V t.2.2.Members

def zh (z : List HT) : List HH := z.map (·.1)
def zq (z : List HT) : List Piece := z.map (·.2.1)
def zx (z : List HT) : List impl_Household := z.map (·.2.2)

theorem z_keys {m : Mem} {z : List HT} (hz : ∀ t ∈ z, HGood m t) : (zh z).map (fun x => (⟨x.Area, x.House⟩ : HKey)) = (zx z).map hkey := by
  simp only [zh, zx, List.map_map]
  apply List.map_congr_left
  intro t ht
  obtain ⟨h1, h2, _⟩ := hz t ht
  simp [hkey, h1, h2]

theorem z_at {z : List HT} {i : Int} {x : impl_Household} (h : goAt (zx z) i = some x) : ∃ t, z[i.toNat]? = some t ∧ t.2.2 = x ∧ goAt (zh z) i = some t.1 ∧ (zq z)[i.toNat]? = some t.2.1 := by
  obtain ⟨h0, h1⟩ := goAt_some h
  unfold zx at h1
  rw [List.getElem?_map] at h1
  cases hz : z[i.toNat]? with
  | none => rw [hz] at h1; cases h1
  | some t =>
    rw [hz] at h1
    refine ⟨t, rfl, by simpa using h1, ?_, by simp [zq, hz]⟩
    unfold goAt zh
    rw [decide_eq_true h0]
    show (List.map _ z)[i.toNat]? = _
    simp [hz]

theorem putB' {X : List Nat} {w0 w : World} {m : Mem} {O : List Piece} {q p p' : Piece} {qs : List Piece} {k : Nat} (hS : St X w0 w m (q :: p' :: qs.flatten :: O)) (h : qs[k]? = some p) : St X w0 w m (q :: (qs.set k p').flatten :: O) := by
  refine hS.permF (R := p) ?_
  have hp := flatten_set_perm (p' := p') h
  simp only [List.flatten_cons]
  rw [List.append_assoc]
  refine List.Perm.append_left q ?_
  have h2 : (((qs.set k p').flatten ++ O.flatten) ++ p).Perm (((qs.set k p').flatten ++ p) ++ O.flatten) := by
    rw [List.append_assoc, List.append_assoc]
    exact List.Perm.append_left _ List.perm_append_comm
  refine h2.trans ?_
  refine (List.Perm.append_right _ hp).trans ?_
  rw [List.append_assoc]

theorem takeB' {X : List Nat} {w0 w : World} {m : Mem} {O : List Piece} {q p : Piece} {qs : List Piece} {k : Nat} (hS : St X w0 w m (q :: qs.flatten :: O)) (h : qs[k]? = some p) : St X w0 w m (q :: p :: (qs.set k []).flatten :: O) := by
  refine hS.permF (R := []) ?_
  have hp := flatten_set_perm (p' := []) h
  simp only [List.flatten_cons, List.append_nil]
  refine List.Perm.append_left q ?_
  rw [← List.append_assoc]
  refine List.Perm.append_right _ ?_
  exact List.perm_append_comm.trans (by simpa using hp)

theorem z_close {m m' : Mem} {z : List HT} {q : Piece} {s : Sl} (hz : ∀ t ∈ z, HGood m t) (ho : OwnL m 42 q s (zh z)) (hm : Mem.le m m') (hq : ∀ o ∈ (zq z).flatten, m' o.b = some o.cs) : OwnL m' 42 q s (zx z) := by
  refine ⟨by have := ho.len; simpa [zh, zx] using this, ho.cap, ho.max, ho.blk.imp id fun ⟨b, cs, h1, h2, h3, h4⟩ => ⟨b, cs, h1, h2, h3, fun i hi => ?_⟩⟩
  have hi1 : i < z.length := by simpa [zx] using hi
  have hi2 : i < (zh z).length := by simpa [zh] using hi1
  obtain ⟨e1, e2, e3⟩ := hz z[i] (List.getElem_mem hi1)
  have h5 : slab cs (i * 3) 3 = (zh z)[i].e := h4 i hi2
  have e6 : (zh z)[i] = z[i].1 := by simp [zh]
  have e7 : (zx z)[i] = z[i].2.2 := by simp [zx]
  rw [e7]
  refine ⟨z[i].1.V, ?_, e3.froz hm fun o hoo => hq o (List.mem_flatten.2 ⟨z[i].2.1, List.mem_map.2 ⟨z[i], List.getElem_mem hi1, rfl⟩, hoo⟩)⟩
  show slab cs (i * 3) 3 = _
  rw [h5, e6, ← e1, ← e2]
  rfl

theorem goIns_some {α : Type} {b : Nat} {l r : List α} {i : Int} {x : α} (h : goIns b l i x = some r) : ∃ k : Nat, i = k ∧ k ≤ l.length ∧ (l.length + 1) * b ≤ 140737488355328 ∧ r = l.take k ++ [x] ++ l.drop k := by
  unfold goIns at h
  rcases bcase (decide (0 ≤ i ∧ i ≤ (l.length : Int) ∧ (l.length + 1) * b ≤ 140737488355328)) with hc | hc
  · rw [hc] at h; cases h
  · rw [hc] at h
    obtain ⟨h0, h1, h2⟩ := of_decide_eq_true hc
    obtain ⟨k, rfl⟩ := Int.eq_ofNat_of_zero_le h0
    exact ⟨k, rfl, by omega, h2, (Option.some.inj h).symm⟩

theorem c_impl_householdsOf (p_l : List impl_Record) (r : (List impl_Household)) (hr : impl_householdsOf p_l = some r) (w0 : World) (m : Mem) (hv : Vis m w0) (s1 : Sl) (h1 : Rd m s1 p_l) :
  Ret Tryz.prog 39 [s1.v] w0 (fun v w => ∃ (m' : Mem) (q0' : Piece) (s0' : Sl), v = s0'.v ∧ MLe [] w0.heap.size m m' ∧ St [] w0 w m' [q0'] ∧ OwnL m' 42 q0' s0' r) := by
  unfold impl_householdsOf at hr
  refine ret_start Tryz.func39 rfl 46 rfl rfl m hv fun a hF hS => q_seq (q_region (q_x (v := nilS.v) hF hS (ex_assign rfl) rfl rfl fun a hF => q_end (n_sq (q_seq (q_region (q_x (v := nilS.v) hF hS (ex_assign rfl) rfl rfl fun a hF => q_end (n_sq (q_seq (q_seq (q_region (q_x (v := s1.v) hF hS (ex_move rfl) rfl rfl fun a hF => q_x (v := (iV (goLen p_l))) hF hS (ex_len Tryz.underlying24 rfl h1.len) rfl rfl fun a hF => q_x (v := (iV 0)) hF hS (ex_move rfl) rfl rfl fun a hF => q_end (n_sq (q_block ?_)))))))))))))
  have hS := hS.nilP
  have hS := hS.nilP
  have hS : St [] w0 w0 m [[], (zq []).flatten] := hS
  obtain ⟨c_20, hl1, hr⟩ := bindS hr
  refine q_loop (fun (s : (List impl_Household) × Int) a w => ∃ (q5 : Piece) (sl : Sl) (z : List HT) (t_6 : Int), s = (zx z, t_6) ∧ Fr a 46 [(3, sl.v), (8, s1.v), (9, (iV (goLen p_l))), (10, (iV t_6))] ∧ St [] w0 w m [q5, (zq z).flatten] ∧ OwnL m 42 q5 sl (zh z) ∧ ∀ t ∈ z, HGood m t)
    (fun (o : List impl_Household) e a w => ∃ (q5 : Piece) (sl : Sl) (z : List HT), o = zx z ∧ e = .exit 0 ∧ Fr a 46 [(3, sl.v)] ∧ St [] w0 w m [q5, (zq z).flatten] ∧ OwnL m 42 q5 sl (zh z) ∧ ∀ t ∈ z, HGood m t) hl1 ⟨[], nilS, [], 0, rfl, hF.sub ⟨rfl, rfl, rfl, rfl, trivial⟩, hS, OwnL.nil m 42, by simp⟩ ?_ ?_
  · clear hF hS
    rintro s a w st ⟨q5, sl, z, t_6, rfl, hF, hS, h5, hB⟩ hb1
    unfold impl_householdsOf_l1 at hb1
    refine q_seq (q_region (q_x (v := (.bool (decide (t_6 < (goLen p_l))))) hF hS (ex_ibin rfl rfl rfl) rfl rfl fun a hF => q_end (n_sq (q_seq ?_))))
    rcases bcase (decide (t_6 < (goLen p_l))) with hc2 | hc2
    · have hb1 := cond_f hc2 hb1
      refine q_cond_f hF rfl hc2 (q_exit (x_sq ?_))
      obtain rfl := someI hb1
      exact ⟨nofun, .inl ⟨q5, sl, z, rfl, rfl, hF.sub ⟨rfl, trivial⟩, hS, h5, hB⟩⟩
    · have hb1 := cond_t hc2 hb1
      refine q_cond_t hF rfl hc2 (q_skipc (n_sq (q_seq (q_block (q_seq (q_region (q_x (v := (iV t_6)) hF hS (ex_move rfl) rfl rfl fun a hF => ?_)))))))
      obtain ⟨e_8, he_8, hb1⟩ := bindS hb1
      obtain ⟨vs9, at9, d9⟩ := h1.at he_8 3 rfl
      obtain ⟨s10, rfl, h10⟩ : ∃ s10 : Sl, vs9 = [(iV e_8.Area), (iV e_8.House), s10.v] ∧ Rd m s10 e_8.Values := d9
      refine q_x (v := (elP s1 (t_6.toNat * 3))) hF hS (ex_indexAddr Tryz.underlying24 sz44 rfl rfl (h1.idx he_8)) rfl rfl fun a hF => q_x (v := (.agg #[(iV e_8.Area), (iV e_8.House), s10.v])) hF hS (ex_loadEA (us := [(iV e_8.Area), (iV e_8.House), s10.v]) 0 Tryz.underlying44 rfl sz44 rfl ((at9).at) rfl rfl rfl) rfl rfl fun a hF => q_alloc (cs := [(iV 0), (iV 0), nilS.v]) hF hS rfl rfl rfl fun a w b11 hF hS => q_x (v := (iV t_6)) hF hS (ex_assign rfl) rfl rfl fun a hF => q_store (vs := [(iV e_8.Area), (iV e_8.House), s10.v]) (cs' := [(iV e_8.Area), (iV e_8.House), s10.v]) 0 0 hF hS sz44 rfl rfl rfl rfl rfl rfl rfl rfl fun a w hF hS => q_end (n_sq (q_seq (q_region (q_x (v := sl.v) hF hS (ex_move rfl) rfl rfl fun a hF => q_x (v := (.agg #[(iV e_8.Area), (iV e_8.House), s10.v])) hF hS (ex_loadA (vs := [(iV e_8.Area), (iV e_8.House), s10.v]) 0 0 Tryz.underlying44 rfl sz44 rfl rfl rfl rfl) rfl rfl fun a hF => ?_))))
      have hS : St [] w0 w m [[⟨b11, [(iV e_8.Area), (iV e_8.House), s10.v], 44⟩], q5, (zq z).flatten] := hS
      obtain ⟨⟨pi, pf⟩, hp, hb1⟩ := bindS hb1
      obtain ⟨m', hle, hv', hz⟩ := hS.lend
      have hrd := (own_key h5).froz hle (hz 1 q5 rfl)
      rw [z_keys hB] at hrd
      refine q_call (vs := [sl.v, (.agg #[(iV e_8.Area), (iV e_8.House), s10.v]), .func (.func 65) #[] #[]]) hF hS Tryz.func64 (by kernel_rfl) rfl rfl rfl (c_hkSearch ((zx z).map hkey) e_8 (pi, pf) hp _ m' hv' sl hrd s10 (h10.mono hle)) ?_
      clear hrd hz hv'
      rintro a w _ rfl hF hS
      simp only at hb1
      refine q_x (v := .tuple #[iV pi, .bool pf]) hF hS (ex_move rfl) rfl rfl fun a hF => q_x (v := iV pi) hF hS (ex_extract rfl rfl) rfl rfl fun a hF => q_x (v := .bool pf) hF hS (ex_extract rfl rfl) rfl rfl fun a hF => q_x (v := iV pi) hF hS (ex_assign rfl) rfl rfl fun a hF => q_x (v := .bool pf) hF hS (ex_assign rfl) rfl rfl fun a hF => q_end (n_sq (q_seq (q_seq (q_region (q_x (v := .bool pf) hF hS (ex_move rfl) rfl rfl fun a hF => q_x (v := .bool (!pf)) hF hS (ex_not rfl) rfl rfl fun a hF => q_end (n_sq ?_))))))
      obtain ⟨hh2, hj, hb1⟩ := bindS hb1
      refine q_join (fun a w => ∃ (q5 : Piece) (sl : Sl) (z2 : List HT), hh2 = zx z2 ∧ Fr a 46 [(3, sl.v), (4, (iV t_6)), (6, iV pi), (8, s1.v), (9, (iV (goLen p_l))), (10, (iV t_6))] ∧ St [] w0 w m [q5, (zq z2).flatten] ∧ OwnL m 42 q5 sl (zh z2) ∧ ∀ t ∈ z2, HGood m t) ?_ ?_
      · rcases bcase (!pf) with hc3 | hc3
        · have hj := cond_f hc3 hj
          obtain rfl := someI hj
          refine q_cond_f hF rfl hc3 (q_skipc (n_jn ?_))
          exact ⟨q5, sl, z, rfl, hF.sub ⟨rfl, rfl, rfl, rfl, rfl, rfl, trivial⟩, hS.sel [1, 2] (by decide), h5, hB⟩
        · have hj := cond_t hc3 hj
          obtain ⟨k, rfl, hk, hbd, rfl⟩ := goIns_some hj
          have hlz : (zx z).length = (zh z).length := by simp [zx, zh]
          refine q_cond_t hF rfl hc3 (q_region (q_x (v := sl.v) hF hS (ex_move rfl) rfl rfl fun a hF => q_x (v := iV k) hF hS (ex_move rfl) rfl rfl fun a hF => q_x (v := (.pointer (some ⟨b11, 0, none⟩))) hF hS (ex_fieldAddr Tryz.underlying44 rfl sz3 rfl rfl) rfl rfl fun a hF => q_x (v := (iV e_8.Area)) hF hS (ex_load1 0 0 Tryz.underlying3 rfl rfl rfl rfl) rfl rfl fun a hF => q_x (v := (.pointer (some ⟨b11, 1, none⟩))) hF hS (ex_fieldAddr Tryz.underlying44 rfl sz3 rfl rfl) rfl rfl fun a hF => q_x (v := (iV e_8.House)) hF hS (ex_load1 0 0 Tryz.underlying3 rfl rfl rfl rfl) rfl rfl fun a hF => q_x (v := (.agg #[(iV e_8.Area), (iV e_8.House), nilS.v])) hF hS (ex_build (cells := [(iV e_8.Area), (iV e_8.House), nilS.v]) rfl (by kernel_rfl)) rfl rfl fun a hF => ?_))
          refine q_do rfl fun _ hK => wp_buildSlice' (l := ([⟨e_8.Area, e_8.House, nilS⟩] : List HH)) (cells := [(iV e_8.Area), (iV e_8.House), nilS.v]) hF hS Tryz.underlying37 inf42 rfl rfl (by kernel_rfl) rfl rfl rfl ⟨rfl, rfl⟩ rfl rfl fun a w q7 s7 hF hS h7 _ => hK _ _ ?_
          have hS : St [] w0 w m ([q5, q7] ++ [[⟨b11, [(iV e_8.Area), (iV e_8.House), s10.v], 44⟩], (zq z).flatten]) := hS.sel [2, 0, 1, 3] (by decide)
          refine q_do rfl fun _ hK => wp_callX (vs := [sl.v, iV k, s7.v]) hF Tryz.func66 (by kernel_rfl) rfl rfl rfl (c_insertH (zh z) k ⟨e_8.Area, e_8.House, nilS⟩ (by rw [← hlz]; exact hk) (by rw [← hlz]; exact hbd) _ m sl q5 h5 s7 q7 h7 _ hS.enter) fun a w2 v hR hF => hK _ _ ?_
          obtain ⟨q8, s8, rfl, hS8, h8⟩ := hR
          have hS := hS.leaveF hS8
          refine q_x (v := s8.v) hF hS (ex_assign rfl) rfl rfl fun a hF => q_end (n_jn ?_)
          let t0 : HT := (⟨e_8.Area, e_8.House, nilS⟩, [], ⟨e_8.Area, e_8.House, []⟩)
          refine ⟨q8, s8, z.take k ++ [t0] ++ z.drop k, ?_, hF.sub ⟨rfl, rfl, rfl, rfl, rfl, rfl, trivial⟩, ?_, ?_, ?_⟩
          · simp [zx, t0]
          · have e : (zq (z.take k ++ [t0] ++ z.drop k)).flatten = (zq z).flatten := by
              have e0 : zq (z.take k ++ [t0] ++ z.drop k) = (zq z).take k ++ [[]] ++ (zq z).drop k := by simp [zq, t0]
              rw [e0, List.flatten_append, List.flatten_append]
              show (((zq z).take k).flatten ++ []) ++ ((zq z).drop k).flatten = _
              rw [List.append_nil, ← List.flatten_append, List.take_append_drop]
            rw [e]
            exact hS.sel [0, 2] (by decide)
          · have e : zh (z.take k ++ [t0] ++ z.drop k) = (zh z).take k ++ [⟨e_8.Area, e_8.House, nilS⟩] ++ (zh z).drop k := by simp [zh, t0]
            rw [e]
            exact h8
          · intro t ht
            rcases List.mem_append.1 ht with ht | ht
            · rcases List.mem_append.1 ht with ht | ht
              · exact hB t (List.mem_of_mem_take ht)
              · obtain rfl := List.mem_singleton.1 ht
                exact ⟨rfl, rfl, OwnL.nil m 3⟩
            · exact hB t (List.mem_of_mem_drop ht)
      · clear hF hS h5 hB hj hp
        rintro a w ⟨q5, sl, z, rfl, hF, hS, h5, hB⟩
        obtain ⟨x, hx, hb1⟩ := bindS hb1
        obtain ⟨t, hzt, rfl, hh, hq⟩ := z_at hx
        obtain ⟨mem, hm, hb1⟩ := bindS hb1
        obtain ⟨g1, g2, g3⟩ := hB t (List.mem_of_getElem? hzt)
        obtain ⟨vs16, at16, d16⟩ := h5.at hh 3 rfl
        obtain rfl : vs16 = t.1.e := d16
        refine n_sq (q_region (q_x (v := sl.v) hF hS (ex_move rfl) rfl rfl fun a hF => q_x (v := iV pi) hF hS (ex_move rfl) rfl rfl fun a hF => q_x (v := sl.v) hF hS (ex_move rfl) rfl rfl fun a hF => q_x (v := iV pi) hF hS (ex_move rfl) rfl rfl fun a hF => q_x (v := (elP sl (pi.toNat * 3))) hF hS (ex_indexAddr Tryz.underlying37 sz42 rfl rfl (h5.idx hh)) rfl rfl fun a hF => q_x (v := (elP sl (pi.toNat * 3 + 2))) hF hS (ex_fieldAddrE Tryz.underlying42 rfl sz40 rfl (h5.idx hh) rfl) rfl rfl fun a hF => q_x (v := t.1.V.v) hF hS (ex_loadE1 2 Tryz.underlying40 rfl rfl (at16.at 0 rfl) rfl rfl) rfl rfl fun a hF => q_x (v := iV t_6) hF hS (ex_move rfl) rfl rfl fun a hF => ?_))
        refine q_do rfl fun _ hK => wp_buildSlice' (l := ([t_6] : List Int)) (cells := [iV t_6]) hF hS Tryz.underlying40 inf3 rfl rfl (by kernel_rfl) rfl rfl rfl ⟨rfl, rfl⟩ rfl rfl fun a w q7 s7 hF hS h7 _ => hK _ _ ?_
        have hS : St [] w0 w m [q5, (zq z).flatten, q7] := hS.sel [1, 2, 0] (by decide)
        have hS := takeB' hS hq
        have hS : St [] w0 w m [t.2.1, q7, q5, ((zq z).set pi.toNat []).flatten] := hS.sel [1, 3, 0, 2] (by decide)
        refine q_do rfl fun _ hK => wp_append hF hS g3 Tryz.underlying40 inf3 rfl rfl rfl rfl (h7.vw hS (j := 1) rfl) rfl (by decide) hm rfl fun a w q9 s9 hF hS h9 => hK _ _ ?_
        refine q_x (v := (elP sl (pi.toNat * 3))) hF hS (ex_indexAddr Tryz.underlying37 sz42 rfl rfl (h5.idx hh)) rfl rfl fun a hF => q_x (v := (elP sl (pi.toNat * 3 + 2))) hF hS (ex_fieldAddrE Tryz.underlying42 rfl sz40 rfl (h5.idx hh) rfl) rfl rfl fun a hF => ?_
        have hS : St [] w0 w m [q5, q9, ((zq z).set pi.toNat []).flatten] := hS.sel [2, 0, 3] (by decide)
        refine q_do rfl fun _ hK => wp_storeE (e' := (⟨t.1.Area, t.1.House, s9⟩ : HH)) (us := [s9.v]) (vs := t.1.e) 2 hF hS h5 sz40 rfl rfl rfl rfl rfl rfl rfl hh at16 rfl rfl rfl fun w q19 hS h19 => hK _ _ (q_end (n_ib (n_sq (q_region (q_x (v := (iV (w64 (t_6 + 1)))) hF hS (ex_ibin rfl rfl rfl) rfl rfl fun a hF => q_x (v := (iV (w64 (t_6 + 1)))) hF hS (ex_move rfl) rfl rfl fun a hF => q_end ?_)))))
        obtain rfl := someI hb1
        have hlt := (List.getElem?_eq_some_iff.1 hq).1
        have hS := putB' (k := pi.toNat) (p := []) hS (List.getElem?_set_self hlt)
        rw [List.set_set] at hS
        let t1 : HT := (⟨t.1.Area, t.1.House, s9⟩, q9, ⟨t.2.2.Area, t.2.2.House, mem⟩)
        have hpi : goSet (zx z) pi (⟨t.2.2.Area, t.2.2.House, mem⟩ : impl_Household) = zx (z.set pi.toNat t1) := by simp [goSet, zx, List.map_set, t1]
        refine ⟨rfl, q19, sl, z.set pi.toNat t1, _, by rw [hpi], hF.sub ⟨rfl, rfl, rfl, rfl, trivial⟩, ?_, ?_, ?_⟩
        · have e : zq (z.set pi.toNat t1) = (zq z).set pi.toNat q9 := by simp [zq, List.map_set, t1]
          rw [e]
          exact hS
        · have e : zh (z.set pi.toNat t1) = goSet (zh z) pi ⟨t.1.Area, t.1.House, s9⟩ := by simp [goSet, zh, List.map_set, t1]
          rw [e]
          exact h19
        · intro u hu
          rcases List.mem_or_eq_of_mem_set hu with hu | rfl
          · exact hB u hu
          · exact ⟨g1, g2, h9⟩
  · rintro e a w ⟨q5, sl, z, rfl, rfl, hF, hS, h5, hB⟩
    refine x_ib (n_sq ?_)
    refine q_seq (q_region (q_x (v := sl.v) hF hS (ex_move rfl) rfl rfl fun a hF => q_x (v := sl.v) hF hS (ex_assign rfl) rfl rfl fun a hF => q_end (n_sq (q_ret ?_))))
    obtain rfl := someI hr
    have hS : St [] w0 w m [(zq z).flatten, q5] := hS.sel [1, 0] (by decide)
    obtain ⟨m33, hm33, hS, hz33⟩ := hS.freeze
    exact ret_of hF hS rfl (.tmp rfl .nil) ⟨m33, q5, sl, rfl, hm33, hS, z_close hB h5 hm33.le hz33⟩


theorem c_impl_HouseholdsOf (p_s : List impl_Variable) (p_l : List impl_Record) (r : (List impl_Household) × Bool) (hr : impl_HouseholdsOf p_s p_l = some r) (w0 : World) (m : Mem) (hv : Vis m w0) (s1 : Sl) (h1 : Rd m s1 p_s) (s2 : Sl) (h2 : Rd m s2 p_l) :
  Ret Tryz.prog 13 [s1.v, s2.v] w0 (fun v w => ∃ (m' : Mem) (q0' : Piece) (s0' : Sl), v = (.tuple #[s0'.v, (.bool r.2)]) ∧ MLe [] w0.heap.size m m' ∧ St [] w0 w m' [q0'] ∧ OwnL m' 42 q0' s0' r.1) := by
 unfold impl_HouseholdsOf at hr
 refine ret_start Tryz.func13 rfl 17 rfl rfl m hv fun a hF hS => q_seq (q_region (q_x (v := nilS.v) hF hS (ex_assign rfl) rfl rfl fun a hF => q_x (v := (.bool false)) hF hS (ex_assign rfl) rfl rfl fun a hF => q_end (n_sq (q_seq (q_seq ?_)))))
 obtain ⟨t_5, hj1, hr⟩ := bindS hr
 refine q_join (fun a w => Fr a 17 [(1, s2.v), (14, (.bool t_5))] ∧ St [] w0 w m []) ?_ ?_
 ·refine q_region (q_x (v := s1.v) hF hS (ex_move rfl) rfl rfl fun a hF => ?_)
  obtain ⟨t_3, ht_3, hj1⟩ := bindS hj1
  refine q_call (vs := [s1.v]) hF hS Tryz.func16 (by kernel_rfl) rfl rfl rfl (c_impl_IsSchema p_s t_3 ht_3 _ m hS.vis s1 h1) ?_
  rintro a w _ rfl hF hS
  refine q_x (v := (.bool (!t_3))) hF hS (ex_not rfl) rfl rfl fun a hF => q_x (v := (.bool (!t_3))) hF hS (ex_move rfl) rfl rfl fun a hF => ?_
  rcases bcase (!t_3) with hc2 | hc2
  ·have hj1 := cond_f hc2 hj1
   refine q_xg (v := s1.v) hF hS (ex_move rfl) (wanted_t hF rfl rfl rfl hc2) rfl fun a hF => q_xg (v := s2.v) hF hS (ex_move rfl) (wanted_t hF rfl rfl rfl hc2) rfl fun a hF => ?_
   obtain ⟨t_4, ht_4, hj1⟩ := bindS hj1
   refine q_callg (vs := [s1.v, s2.v]) hF hS (wanted_t hF rfl rfl rfl hc2) Tryz.func17 (by kernel_rfl) rfl rfl rfl (c_impl_isData p_s p_l t_4 ht_4 _ m hS.vis s1 h1 s2 h2) ?_
   rintro a w _ rfl hF hS
   refine q_xg (v := (.bool (!t_4))) hF hS (ex_not rfl) (wanted_t hF rfl rfl rfl hc2) rfl fun a hF => q_x (v := (.bool (!t_4))) hF hS (ex_pick_f rfl rfl hc2) rfl rfl fun a hF => q_end (n_jn ?_)
   obtain rfl := someI hj1
   exact ⟨hF.sub ⟨rfl, rfl, trivial⟩, hS⟩
  ·have hj1 := cond_t hc2 hj1
   refine q_skip hF (wanted_f hF rfl rfl rfl hc2 rfl) rfl fun a hF => q_skip hF (wanted_f hF rfl rfl rfl hc2 rfl) rfl fun a hF => q_skip hF (wanted_f hF rfl rfl rfl hc2 rfl) rfl fun a hF => q_skip hF (wanted_f hF rfl rfl rfl hc2 rfl) rfl fun a hF => q_x (v := (.bool true)) hF hS (ex_pick_t rfl rfl hc2) rfl rfl fun a hF => q_end (n_jn ?_)
   obtain rfl := someI hj1
   exact ⟨hF.sub ⟨rfl, rfl, trivial⟩, hS⟩
 ·rintro a w ⟨hF, hS⟩
  refine n_sq ?_
  rcases bcase (t_5) with hc3 | hc3
  ·have hr := cond_f hc3 hr
   refine q_cond_f hF rfl hc3 (q_skipc (n_sq (q_seq (q_region (q_x (v := s2.v) hF hS (ex_move rfl) rfl rfl fun a hF => ?_)))))
   obtain ⟨t_6, ht_6, hr⟩ := bindS hr
   refine q_call (vs := [s2.v]) hF hS Tryz.func39 (by kernel_rfl) rfl rfl rfl (c_impl_householdsOf p_l t_6 ht_6 _ m hS.vis s2 h2) ?_
   have hT := hS
   rintro a w _ ⟨m7, q8, s8, rfl, hm7, hR7, h8⟩ hF hS2
   have hS : St _ _ _ _ [q8] := hS.join hR7 hm7
   have hm7 := MLe.weakX (O0 := []) hT hm7
   refine q_x (v := s8.v) hF hS (ex_assign rfl) rfl rfl fun a hF => q_x (v := (.bool true)) hF hS (ex_assign rfl) rfl rfl fun a hF => q_end (n_sq (q_ret ?_))
   obtain rfl := someI hr
   exact ret_of hF hS rfl (.tmp rfl (.tmp rfl .nil)) ⟨m7, q8, s8, rfl, hm7, hS.sel [0] (by decide), h8⟩
  ·have hr := cond_t hc3 hr
   refine q_cond_t hF rfl hc3 (q_seq (q_region (q_x (v := nilS.v) hF hS (ex_assign rfl) rfl rfl fun a hF => q_x (v := (.bool false)) hF hS (ex_assign rfl) rfl rfl fun a hF => q_end (n_sq (q_ret (r_sq ?_))))))
   obtain rfl := someI hr
   exact ret_of hF hS rfl (.tmp rfl (.tmp rfl .nil)) ⟨m, [], nilS, rfl, (MLe.refl _ _), hS.sel [0] (by decide), (OwnL.nil (α := impl_Household) m 42)⟩

theorem c_laws_FnData (p_code : List (K .u8)) (p_more : List (K .u8)) (r : Bool) (hr : laws_FnData p_code p_more = some r) (w0 : World) (m : Mem) (hv : Vis m w0) (ht : Tbl m) (s1 : Sl) (h1 : Rd m s1 p_code) (s2 : Sl) (h2 : Rd m s2 p_more) :
  Ret Tryz.prog 3 [s1.v, s2.v] w0 (fun v _ => v = (.bool r)) := by
 unfold laws_FnData at hr
 refine ret_start Tryz.func3 rfl 193 rfl rfl m hv fun a hF hS => q_seq (q_region (q_x (v := (.bool false)) hF hS (ex_assign rfl) rfl rfl fun a hF => q_end (n_sq (q_seq (q_seq (q_region (q_x (v := s1.v) hF hS (ex_move rfl) rfl rfl fun a hF => q_x (v := (.int .i64 (goLen p_code))) hF hS (ex_len Tryz.underlying22 rfl h1.len) rfl rfl fun a hF => q_x (v := s2.v) hF hS (ex_move rfl) rfl rfl fun a hF => q_x (v := (.int .i64 (goLen p_more))) hF hS (ex_len Tryz.underlying22 rfl h2.len) rfl rfl fun a hF => q_x (v := (.int .i64 (w64 ((goLen p_code) + (goLen p_more))))) hF hS (ex_ibin rfl rfl rfl) rfl rfl fun a hF => q_x (v := (.bool (decide (1048576 < (w64 ((goLen p_code) + (goLen p_more))))))) hF hS (ex_ibin rfl rfl rfl) rfl rfl fun a hF => q_end (n_sq ?_))))))))
 rcases bcase (decide (1048576 < (w64 ((goLen p_code) + (goLen p_more))))) with hc1 | hc1
 ·have hr := cond_f hc1 hr
  refine q_cond_f hF rfl hc1 (q_skipc (n_sq (q_seq (q_region (q_x (v := s1.v) hF hS (ex_move rfl) rfl rfl fun a hF => ?_)))))
  obtain ⟨t_3, ht_3, hr⟩ := bindS hr
  refine q_call (vs := [s1.v]) hF hS Tryz.func4 (by kernel_rfl) rfl rfl rfl (c_spec_DrawSortData p_code t_3 ht_3 _ m hS.vis s1 h1) ?_
  have hT := hS
  rintro a w _ ⟨m4, q6, s5, s6, rfl, hm4, hR4, h5, h6⟩ hF hS2
  have hS : St _ _ _ _ [q6] := hS.join hR4 hm4
  have hm4 := MLe.weakX (O0 := []) hT hm4
  refine q_x (v := (.tuple #[s5.v, s6.v])) hF hS (ex_move rfl) rfl rfl fun a hF => q_x (v := s5.v) hF hS (ex_extract rfl rfl) rfl rfl fun a hF => q_x (v := s6.v) hF hS (ex_extract rfl rfl) rfl rfl fun a hF => q_x (v := s5.v) hF hS (ex_assign rfl) rfl rfl fun a hF => q_x (v := s6.v) hF hS (ex_assign rfl) rfl rfl fun a hF => q_end (n_sq (q_seq (q_region (q_x (v := s5.v) hF hS (ex_move rfl) rfl rfl fun a hF => q_x (v := s6.v) hF hS (ex_move rfl) rfl rfl fun a hF => ?_))))
  obtain ⟨m7, hm7, hS, hz7⟩ := hS.freeze
  have h7 := h6.froz hm7.le hz7
  obtain ⟨t_8, ht_8, hr⟩ := bindS hr
  refine q_call (vs := [s5.v, s6.v]) hF hS Tryz.func5 (by kernel_rfl) rfl rfl rfl (c_impl_SortData t_3.1 t_3.2 t_8 ht_8 _ m7 hS.vis s5 (h5.mono hm7.le) s6 h7) ?_
  have hT := hS
  rintro a w _ ⟨m9, q10, s10, rfl, hm9, hR9, h10⟩ hF hS2
  have hS : St _ _ _ _ [q10] := hS.join hR9 hm9
  have hm9 := MLe.weakX (O0 := []) hT hm9
  refine q_x (v := (.tuple #[s10.v, (.bool t_8.2)])) hF hS (ex_move rfl) rfl rfl fun a hF => q_x (v := s10.v) hF hS (ex_extract rfl rfl) rfl rfl fun a hF => q_x (v := (.bool t_8.2)) hF hS (ex_extract rfl rfl) rfl rfl fun a hF => q_x (v := s10.v) hF hS (ex_assign rfl) rfl rfl fun a hF => q_x (v := (.bool t_8.2)) hF hS (ex_assign rfl) rfl rfl fun a hF => q_end (n_sq (q_seq (q_region (q_x (v := s5.v) hF hS (ex_move rfl) rfl rfl fun a hF => q_x (v := s6.v) hF hS (ex_move rfl) rfl rfl fun a hF => ?_))))
  obtain ⟨t_11, ht_11, hr⟩ := bindS hr
  refine q_call (vs := [s5.v, s6.v]) hF hS Tryz.func6 (by kernel_rfl) rfl rfl rfl (c_spec_SortData t_3.1 t_3.2 t_11 ht_11 _ m9 hS.vis s5 ((h5.mono hm7.le).mono hm9.le) s6 (h7.mono hm9.le)) ?_
  have hT := hS
  rintro a w _ ⟨m12, q13, s13, rfl, hm12, hR12, h13⟩ hF hS2
  have hS : St _ _ _ _ [q13, q10] := hS.join hR12 hm12
  have hm12 := MLe.weakX (O0 := []) hT hm12
  refine q_x (v := (.tuple #[s13.v, (.bool t_11.2)])) hF hS (ex_move rfl) rfl rfl fun a hF => q_x (v := s13.v) hF hS (ex_extract rfl rfl) rfl rfl fun a hF => q_x (v := (.bool t_11.2)) hF hS (ex_extract rfl rfl) rfl rfl fun a hF => q_x (v := s13.v) hF hS (ex_assign rfl) rfl rfl fun a hF => q_x (v := (.bool t_11.2)) hF hS (ex_assign rfl) rfl rfl fun a hF => q_end (n_sq (q_seq (q_region (q_x (v := s2.v) hF hS (ex_move rfl) rfl rfl fun a hF => ?_))))
  obtain ⟨t_14, ht_14, hr⟩ := bindS hr
  refine q_call (vs := [s2.v]) hF hS Tryz.func7 (by kernel_rfl) rfl rfl rfl (c_spec_DrawParseData p_more t_14 ht_14 _ m12 hS.vis s2 ((((h2.mono hm4.le).mono hm7.le).mono hm9.le).mono hm12.le)) ?_
  have hT := hS
  rintro a w _ ⟨m15, s16, rfl, hm15, hR15, h16⟩ hF hS2
  have hS : St _ _ _ _ [q13, q10] := hS.join hR15 hm15
  have hm15 := MLe.weakX (O0 := []) hT hm15
  refine q_x (v := (.tuple #[s16.v, (strV t_14.2)])) hF hS (ex_move rfl) rfl rfl fun a hF => q_x (v := s16.v) hF hS (ex_extract rfl rfl) rfl rfl fun a hF => q_x (v := (strV t_14.2)) hF hS (ex_extract rfl rfl) rfl rfl fun a hF => q_x (v := s16.v) hF hS (ex_assign rfl) rfl rfl fun a hF => q_x (v := (strV t_14.2)) hF hS (ex_assign rfl) rfl rfl fun a hF => q_end (n_sq (q_seq (q_region (q_x (v := s16.v) hF hS (ex_move rfl) rfl rfl fun a hF => q_x (v := (strV t_14.2)) hF hS (ex_move rfl) rfl rfl fun a hF => ?_))))
  obtain ⟨t_17, ht_17, hr⟩ := bindS hr
  refine q_call (vs := [s16.v, (strV t_14.2)]) hF hS Tryz.func8 (by kernel_rfl) rfl rfl rfl (c_impl_ParseData t_14.1 t_14.2 t_17 ht_17 _ m15 hS.vis (((((ht.mono hm4.le).mono hm7.le).mono hm9.le).mono hm12.le).mono hm15.le) s16 h16) ?_
  have hT := hS
  rintro a w _ ⟨m18, q19, s19, rfl, hm18, hR18, h19⟩ hF hS2
  have hS : St _ _ _ _ [q19, q13, q10] := hS.join hR18 hm18
  have hm18 := MLe.weakX (O0 := []) hT hm18
  refine q_x (v := (.tuple #[s19.v, (.bool t_17.2)])) hF hS (ex_move rfl) rfl rfl fun a hF => q_x (v := s19.v) hF hS (ex_extract rfl rfl) rfl rfl fun a hF => q_x (v := (.bool t_17.2)) hF hS (ex_extract rfl rfl) rfl rfl fun a hF => q_x (v := s19.v) hF hS (ex_assign rfl) rfl rfl fun a hF => q_x (v := (.bool t_17.2)) hF hS (ex_assign rfl) rfl rfl fun a hF => q_end (n_sq (q_seq (q_region (q_x (v := s16.v) hF hS (ex_move rfl) rfl rfl fun a hF => q_x (v := (strV t_14.2)) hF hS (ex_move rfl) rfl rfl fun a hF => ?_))))
  obtain ⟨t_20, ht_20, hr⟩ := bindS hr
  refine q_call (vs := [s16.v, (strV t_14.2)]) hF hS Tryz.func9 (by kernel_rfl) rfl rfl rfl (c_spec_ParseData t_14.1 t_14.2 t_20 ht_20 _ m18 hS.vis s16 (h16.mono hm18.le)) ?_
  have hT := hS
  rintro a w _ ⟨m21, q22, s22, rfl, hm21, hR21, h22⟩ hF hS2
  have hS : St _ _ _ _ [q22, q19, q13, q10] := hS.join hR21 hm21
  have hm21 := MLe.weakX (O0 := []) hT hm21
  refine q_x (v := (.tuple #[s22.v, (.bool t_20.2)])) hF hS (ex_move rfl) rfl rfl fun a hF => q_x (v := s22.v) hF hS (ex_extract rfl rfl) rfl rfl fun a hF => q_x (v := (.bool t_20.2)) hF hS (ex_extract rfl rfl) rfl rfl fun a hF => q_x (v := s22.v) hF hS (ex_assign rfl) rfl rfl fun a hF => q_x (v := (.bool t_20.2)) hF hS (ex_assign rfl) rfl rfl fun a hF => q_end (n_sq (q_seq (q_seq ?_)))
  obtain ⟨t_27, hj2, hr⟩ := bindS hr
  refine q_join (fun a w => Fr a 193 [(5, s5.v), (6, s6.v), (7, s10.v), (8, (.bool t_8.2)), (11, s16.v), (12, (strV t_14.2)), (13, s19.v), (14, (.bool t_17.2)), (88, (.bool t_27))] ∧ St [] w0 w m21 [q10, q19]) ?_ ?_
  ·refine q_region (q_x (v := (.bool t_8.2)) hF hS (ex_move rfl) rfl rfl fun a hF => q_x (v := (.bool t_11.2)) hF hS (ex_move rfl) rfl rfl fun a hF => q_x (v := (.bool (t_8.2 != t_11.2))) hF hS (ex_bne Tryz.underlying4 rfl rfl) rfl rfl fun a hF => q_x (v := (.bool (t_8.2 != t_11.2))) hF hS (ex_move rfl) rfl rfl fun a hF => ?_)
   rcases bcase (t_8.2 != t_11.2) with hc3 | hc3
   ·have hj2 := cond_f hc3 hj2
    refine q_xg (v := s10.v) hF hS (ex_move rfl) (wanted_t hF rfl rfl rfl hc3) rfl fun a hF => q_xg (v := s13.v) hF hS (ex_move rfl) (wanted_t hF rfl rfl rfl hc3) rfl fun a hF => ?_
    obtain ⟨m24, hl24, hv24, hz24⟩ := hS.lend
    obtain ⟨t_23, ht_23, hj2⟩ := bindS hj2
    refine q_callg (vs := [s10.v, s13.v]) hF hS (wanted_t hF rfl rfl rfl hc3) Tryz.func10 (by kernel_rfl) rfl rfl rfl (c_laws_qData t_8.1 t_11.1 t_23 ht_23 _ m24 hv24 s10 (((((h10.mono hm12.le).mono hm15.le).mono hm18.le).mono hm21.le).froz hl24 (hz24 3 _ rfl)) s13 ((((h13.mono hm15.le).mono hm18.le).mono hm21.le).froz hl24 (hz24 2 _ rfl))) ?_
    rintro a w _ rfl hF hS
    refine q_xg (v := (.bool (!t_23))) hF hS (ex_not rfl) (wanted_t hF rfl rfl rfl hc3) rfl fun a hF => q_x (v := (.bool (!t_23))) hF hS (ex_pick_f rfl rfl hc3) rfl rfl fun a hF => q_x (v := (.bool (!t_23))) hF hS (ex_move rfl) rfl rfl fun a hF => ?_
    rcases bcase (!t_23) with hc4 | hc4
    ·have hj2 := cond_f hc4 hj2
     refine q_xg (v := (.bool t_17.2)) hF hS (ex_move rfl) (wanted_t hF rfl rfl rfl hc4) rfl fun a hF => q_xg (v := (.bool t_20.2)) hF hS (ex_move rfl) (wanted_t hF rfl rfl rfl hc4) rfl fun a hF => q_xg (v := (.bool (t_17.2 != t_20.2))) hF hS (ex_bne Tryz.underlying4 rfl rfl) (wanted_t hF rfl rfl rfl hc4) rfl fun a hF => q_x (v := (.bool (t_17.2 != t_20.2))) hF hS (ex_pick_f rfl rfl hc4) rfl rfl fun a hF => q_x (v := (.bool (t_17.2 != t_20.2))) hF hS (ex_move rfl) rfl rfl fun a hF => ?_
     rcases bcase (t_17.2 != t_20.2) with hc5 | hc5
     ·have hj2 := cond_f hc5 hj2
      refine q_xg (v := s19.v) hF hS (ex_move rfl) (wanted_t hF rfl rfl rfl hc5) rfl fun a hF => q_xg (v := s22.v) hF hS (ex_move rfl) (wanted_t hF rfl rfl rfl hc5) rfl fun a hF => ?_
      obtain ⟨m26, hl26, hv26, hz26⟩ := hS.lend
      obtain ⟨t_25, ht_25, hj2⟩ := bindS hj2
      refine q_callg (vs := [s19.v, s22.v]) hF hS (wanted_t hF rfl rfl rfl hc5) Tryz.func10 (by kernel_rfl) rfl rfl rfl (c_laws_qData t_17.1 t_20.1 t_25 ht_25 _ m26 hv26 s19 ((h19.mono hm21.le).froz hl26 (hz26 1 _ rfl)) s22 (h22.froz hl26 (hz26 0 _ rfl))) ?_
      rintro a w _ rfl hF hS
      refine q_xg (v := (.bool (!t_25))) hF hS (ex_not rfl) (wanted_t hF rfl rfl rfl hc5) rfl fun a hF => q_x (v := (.bool (!t_25))) hF hS (ex_pick_f rfl rfl hc5) rfl rfl fun a hF => q_end (n_jn ?_)
      obtain rfl := someI hj2
      exact ⟨hF.sub ⟨rfl, rfl, rfl, rfl, rfl, rfl, rfl, rfl, rfl, trivial⟩, hS.sel [3, 1] (by decide)⟩
     ·have hj2 := cond_t hc5 hj2
      refine q_skip hF (wanted_f hF rfl rfl rfl hc5 rfl) rfl fun a hF => q_skip hF (wanted_f hF rfl rfl rfl hc5 rfl) rfl fun a hF => q_skip hF (wanted_f hF rfl rfl rfl hc5 rfl) rfl fun a hF => q_skip hF (wanted_f hF rfl rfl rfl hc5 rfl) rfl fun a hF => q_x (v := (.bool true)) hF hS (ex_pick_t rfl rfl hc5) rfl rfl fun a hF => q_end (n_jn ?_)
      obtain rfl := someI hj2
      exact ⟨hF.sub ⟨rfl, rfl, rfl, rfl, rfl, rfl, rfl, rfl, rfl, trivial⟩, hS.sel [3, 1] (by decide)⟩
    ·have hj2 := cond_t hc4 hj2
     refine q_skip hF (wanted_f hF rfl rfl rfl hc4 rfl) rfl fun a hF => q_skip hF (wanted_f hF rfl rfl rfl hc4 rfl) rfl fun a hF => q_skip hF (wanted_f hF rfl rfl rfl hc4 rfl) rfl fun a hF => q_x (v := (.bool true)) hF hS (ex_pick_t rfl rfl hc4) rfl rfl fun a hF => q_x (v := (.bool true)) hF hS (ex_move rfl) rfl rfl fun a hF => q_skip hF (wanted_f hF rfl rfl rfl rfl rfl) rfl fun a hF => q_skip hF (wanted_f hF rfl rfl rfl rfl rfl) rfl fun a hF => q_skip hF (wanted_f hF rfl rfl rfl rfl rfl) rfl fun a hF => q_skip hF (wanted_f hF rfl rfl rfl rfl rfl) rfl fun a hF => q_x (v := (.bool true)) hF hS (ex_pick_t rfl rfl rfl) rfl rfl fun a hF => q_end (n_jn ?_)
     obtain rfl := someI hj2
     exact ⟨hF.sub ⟨rfl, rfl, rfl, rfl, rfl, rfl, rfl, rfl, rfl, trivial⟩, hS.sel [3, 1] (by decide)⟩
   ·have hj2 := cond_t hc3 hj2
    refine q_skip hF (wanted_f hF rfl rfl rfl hc3 rfl) rfl fun a hF => q_skip hF (wanted_f hF rfl rfl rfl hc3 rfl) rfl fun a hF => q_skip hF (wanted_f hF rfl rfl rfl hc3 rfl) rfl fun a hF => q_skip hF (wanted_f hF rfl rfl rfl hc3 rfl) rfl fun a hF => q_x (v := (.bool true)) hF hS (ex_pick_t rfl rfl hc3) rfl rfl fun a hF => q_x (v := (.bool true)) hF hS (ex_move rfl) rfl rfl fun a hF => q_skip hF (wanted_f hF rfl rfl rfl rfl rfl) rfl fun a hF => q_skip hF (wanted_f hF rfl rfl rfl rfl rfl) rfl fun a hF => q_skip hF (wanted_f hF rfl rfl rfl rfl rfl) rfl fun a hF => q_x (v := (.bool true)) hF hS (ex_pick_t rfl rfl rfl) rfl rfl fun a hF => q_x (v := (.bool true)) hF hS (ex_move rfl) rfl rfl fun a hF => q_skip hF (wanted_f hF rfl rfl rfl rfl rfl) rfl fun a hF => q_skip hF (wanted_f hF rfl rfl rfl rfl rfl) rfl fun a hF => q_skip hF (wanted_f hF rfl rfl rfl rfl rfl) rfl fun a hF => q_skip hF (wanted_f hF rfl rfl rfl rfl rfl) rfl fun a hF => q_x (v := (.bool true)) hF hS (ex_pick_t rfl rfl rfl) rfl rfl fun a hF => q_end (n_jn ?_)
    obtain rfl := someI hj2
    exact ⟨hF.sub ⟨rfl, rfl, rfl, rfl, rfl, rfl, rfl, rfl, rfl, trivial⟩, hS.sel [3, 1] (by decide)⟩
  ·rintro a w ⟨hF, hS⟩
   refine n_sq ?_
   rcases bcase (t_27) with hc6 | hc6
   ·have hr := cond_f hc6 hr
    refine q_cond_f hF rfl hc6 (q_skipc (n_sq (q_seq (q_seq (q_region (q_x (v := (.bool t_17.2)) hF hS (ex_move rfl) rfl rfl fun a hF => q_end (n_sq ?_)))))))
    obtain ⟨j7, hj7, hr⟩ := bindS hr
    refine q_join (fun a w => j7 = .inl () ∧ Fr a 193 [(5, s5.v), (6, s6.v), (7, s10.v), (8, (.bool t_8.2))] ∧ St [] w0 w m21 [q10]) ?_ ?_
    ·rcases bcase (t_17.2) with hc8 | hc8
     ·have hj7 := cond_f hc8 hj7
      refine q_cond_f hF rfl hc8 (q_skipc (n_jn ?_))
      obtain rfl := someI hj7
      exact ⟨rfl, hF.sub ⟨rfl, rfl, rfl, rfl, trivial⟩, hS.mask [true, false]⟩
     ·have hj7 := cond_t hc8 hj7
      refine q_cond_t hF rfl hc8 (q_seq (q_region (q_x (v := s16.v) hF hS (ex_move rfl) rfl rfl fun a hF => q_x (v := s19.v) hF hS (ex_move rfl) rfl rfl fun a hF => ?_)))
      obtain ⟨m29, hl29, hv29, hz29⟩ := hS.lend
      obtain ⟨t_28, ht_28, hj7⟩ := bindS hj7
      refine q_call (vs := [s16.v, s19.v]) hF hS Tryz.func11 (by kernel_rfl) rfl rfl rfl (c_impl_DataText t_14.1 t_17.1 t_28 ht_28 _ m29 hv29 ((((((((ht.mono hm4.le).mono hm7.le).mono hm9.le).mono hm12.le).mono hm15.le).mono hm18.le).mono hm21.le).mono hl29) s16 (((h16.mono hm18.le).mono hm21.le).mono hl29) s19 ((h19.mono hm21.le).froz hl29 (hz29 1 _ rfl))) ?_
      rintro a w _ rfl hF hS
      refine q_x (v := (.tuple #[(strV t_28.1), (.bool t_28.2)])) hF hS (ex_move rfl) rfl rfl fun a hF => q_x (v := (strV t_28.1)) hF hS (ex_extract rfl rfl) rfl rfl fun a hF => q_x (v := (.bool t_28.2)) hF hS (ex_extract rfl rfl) rfl rfl fun a hF => q_x (v := (strV t_28.1)) hF hS (ex_assign rfl) rfl rfl fun a hF => q_x (v := (.bool t_28.2)) hF hS (ex_assign rfl) rfl rfl fun a hF => q_end (n_sq (q_seq ?_))
      obtain ⟨t_30, hj9, hj7⟩ := bindS hj7
      refine q_join (fun a w => Fr a 193 [(5, s5.v), (6, s6.v), (7, s10.v), (8, (.bool t_8.2)), (102, (.bool t_30))] ∧ St [] w0 w m21 [q10]) ?_ ?_
      ·refine q_region (q_x (v := (.bool t_28.2)) hF hS (ex_move rfl) rfl rfl fun a hF => q_x (v := (.bool (!t_28.2))) hF hS (ex_not rfl) rfl rfl fun a hF => q_x (v := (.bool (!t_28.2))) hF hS (ex_move rfl) rfl rfl fun a hF => ?_)
       rcases bcase (!t_28.2) with hc10 | hc10
       ·have hj9 := cond_f hc10 hj9
        refine q_xg (v := (strV t_28.1)) hF hS (ex_move rfl) (wanted_t hF rfl rfl rfl hc10) rfl fun a hF => q_xg (v := (strV t_14.2)) hF hS (ex_move rfl) (wanted_t hF rfl rfl rfl hc10) rfl fun a hF => q_xg (v := (.bool (t_28.1 != t_14.2))) hF hS (ex_strNe rfl rfl) (wanted_t hF rfl rfl rfl hc10) rfl fun a hF => q_x (v := (.bool (t_28.1 != t_14.2))) hF hS (ex_pick_f rfl rfl hc10) rfl rfl fun a hF => q_end (n_jn ?_)
        obtain rfl := someI hj9
        exact ⟨hF.sub ⟨rfl, rfl, rfl, rfl, rfl, trivial⟩, hS.mask [true, false]⟩
       ·have hj9 := cond_t hc10 hj9
        refine q_skip hF (wanted_f hF rfl rfl rfl hc10 rfl) rfl fun a hF => q_skip hF (wanted_f hF rfl rfl rfl hc10 rfl) rfl fun a hF => q_skip hF (wanted_f hF rfl rfl rfl hc10 rfl) rfl fun a hF => q_x (v := (.bool true)) hF hS (ex_pick_t rfl rfl hc10) rfl rfl fun a hF => q_end (n_jn ?_)
        obtain rfl := someI hj9
        exact ⟨hF.sub ⟨rfl, rfl, rfl, rfl, rfl, trivial⟩, hS.mask [true, false]⟩
      ·rintro a w ⟨hF, hS⟩
       refine n_sq ?_
       rcases bcase (t_30) with hc11 | hc11
       ·have hj7 := cond_f hc11 hj7
        refine q_cond_f hF rfl hc11 (q_skipc (n_jn ?_))
        obtain rfl := someI hj7
        exact ⟨rfl, hF.sub ⟨rfl, rfl, rfl, rfl, trivial⟩, hS⟩
       ·have hj7 := cond_t hc11 hj7
        refine q_cond_t hF rfl hc11 (q_seq (q_region (q_x (v := (.bool false)) hF hS (ex_assign rfl) rfl rfl fun a hF => q_end (n_sq (q_ret (r_jn ?_))))))
        obtain rfl := someI hj7
        refine r_sq ?_
        obtain rfl := someI hr
        exact ret_of hF hS rfl (.tmp rfl .nil) rfl
    ·rintro a w ⟨rfl, hF, hS⟩
     refine n_sq ?_
     refine q_seq (q_seq (q_region (q_x (v := (.bool t_8.2)) hF hS (ex_move rfl) rfl rfl fun a hF => q_x (v := (.bool (!t_8.2))) hF hS (ex_not rfl) rfl rfl fun a hF => q_end (n_sq ?_))))
     rcases bcase (!t_8.2) with hc12 | hc12
     ·have hr := cond_f hc12 hr
      refine q_cond_f hF rfl hc12 (q_skipc (n_sq (q_seq (q_region (q_x (v := s5.v) hF hS (ex_move rfl) rfl rfl fun a hF => q_x (v := s6.v) hF hS (ex_move rfl) rfl rfl fun a hF => q_x (v := s10.v) hF hS (ex_move rfl) rfl rfl fun a hF => ?_)))))
      obtain ⟨m32, hl32, hv32, hz32⟩ := hS.lend
      obtain ⟨t_31, ht_31, hr⟩ := bindS hr
      refine q_call (vs := [s5.v, s6.v, s10.v]) hF hS Tryz.func12 (by kernel_rfl) rfl rfl rfl (c_impl_SameData t_3.1 t_3.2 t_8.1 t_31 ht_31 _ m32 hv32 s5 (((((((h5.mono hm7.le).mono hm9.le).mono hm12.le).mono hm15.le).mono hm18.le).mono hm21.le).mono hl32) s6 ((((((h7.mono hm9.le).mono hm12.le).mono hm15.le).mono hm18.le).mono hm21.le).mono hl32) s10 (((((h10.mono hm12.le).mono hm15.le).mono hm18.le).mono hm21.le).froz hl32 (hz32 0 _ rfl))) ?_
      rintro a w _ rfl hF hS
      refine q_x (v := (.tuple #[(.bool t_31.1), (.bool t_31.2)])) hF hS (ex_move rfl) rfl rfl fun a hF => q_x (v := (.bool t_31.1)) hF hS (ex_extract rfl rfl) rfl rfl fun a hF => q_x (v := (.bool t_31.2)) hF hS (ex_extract rfl rfl) rfl rfl fun a hF => q_x (v := (.bool t_31.1)) hF hS (ex_assign rfl) rfl rfl fun a hF => q_x (v := (.bool t_31.2)) hF hS (ex_assign rfl) rfl rfl fun a hF => q_end (n_sq (q_seq (q_region (q_x (v := s5.v) hF hS (ex_move rfl) rfl rfl fun a hF => q_x (v := s6.v) hF hS (ex_move rfl) rfl rfl fun a hF => ?_))))
      obtain ⟨t_33, ht_33, hr⟩ := bindS hr
      refine q_call (vs := [s5.v, s6.v]) hF hS Tryz.func13 (by kernel_rfl) rfl rfl rfl (c_impl_HouseholdsOf t_3.1 t_3.2 t_33 ht_33 _ m21 hS.vis s5 ((((((h5.mono hm7.le).mono hm9.le).mono hm12.le).mono hm15.le).mono hm18.le).mono hm21.le) s6 (((((h7.mono hm9.le).mono hm12.le).mono hm15.le).mono hm18.le).mono hm21.le)) ?_
      have hT := hS
      rintro a w _ ⟨m34, q35, s35, rfl, hm34, hR34, h35⟩ hF hS2
      have hS : St _ _ _ _ [q35, q10] := hS.join hR34 hm34
      have hm34 := MLe.weakX (O0 := []) hT hm34
      refine q_x (v := (.tuple #[s35.v, (.bool t_33.2)])) hF hS (ex_move rfl) rfl rfl fun a hF => q_x (v := s35.v) hF hS (ex_extract rfl rfl) rfl rfl fun a hF => q_x (v := (.bool t_33.2)) hF hS (ex_extract rfl rfl) rfl rfl fun a hF => q_x (v := s35.v) hF hS (ex_assign rfl) rfl rfl fun a hF => q_x (v := (.bool t_33.2)) hF hS (ex_assign rfl) rfl rfl fun a hF => q_end (n_sq (q_seq (q_region (q_x (v := (.int .i64 0)) hF hS (ex_assign rfl) rfl rfl fun a hF => q_end (n_sq (q_seq (q_seq (q_region (q_x (v := s35.v) hF hS (ex_move rfl) rfl rfl fun a hF => q_x (v := (.int .i64 (goLen t_33.1))) hF hS (ex_len Tryz.underlying37 rfl h35.len) rfl rfl fun a hF => q_x (v := (.int .i64 0)) hF hS (ex_move rfl) rfl rfl fun a hF => q_end (n_sq (q_block ?_)))))))))))
      obtain ⟨o13, hl13, hr⟩ := bindS hr
      refine q_loop (fun (s : Int × Int) a w => ∃ n_36, ∃ t_37, s = (n_36, t_37) ∧ Fr a 193 [(6, s6.v), (7, s10.v), (19, (.bool t_31.1)), (20, (.bool t_31.2)), (22, (.bool t_33.2)), (23, (.int .i64 n_36)), (118, s35.v), (119, (.int .i64 (goLen t_33.1))), (120, (.int .i64 t_37))] ∧ St [] w0 w m34 [q35, q10]) (fun (o : (Int) ⊕ (Bool)) e a w => ∃ n_54, o = .inl n_54 ∧ e = .exit 0 ∧ Fr a 193 [(6, s6.v), (7, s10.v), (19, (.bool t_31.1)), (20, (.bool t_31.2)), (22, (.bool t_33.2)), (23, (.int .i64 n_54))] ∧ St [] w0 w m34 [q10]) hl13 ⟨_, _, rfl, hF.sub ⟨rfl, rfl, rfl, rfl, rfl, rfl, rfl, rfl, rfl, trivial⟩, hS⟩ ?_ ?_
      ·clear hF hS
       rintro s a w st ⟨n_36, t_37, rfl, hF, hS⟩ hb13
       unfold laws_FnData_l1 at hb13
       refine q_seq (q_region (q_x (v := (.bool (decide (t_37 < (goLen t_33.1))))) hF hS (ex_ibin rfl rfl rfl) rfl rfl fun a hF => q_end (n_sq (q_seq ?_))))
       rcases bcase (decide (t_37 < (goLen t_33.1))) with hc14 | hc14
       ·have hb13 := cond_f hc14 hb13
        refine q_cond_f hF rfl hc14 (q_exit (x_sq ?_))
        obtain rfl := someI hb13
        exact ⟨nofun, .inl ⟨_, rfl, rfl, hF.sub ⟨rfl, rfl, rfl, rfl, rfl, rfl, trivial⟩, hS.mask [false, true]⟩⟩
       ·have hb13 := cond_t hc14 hb13
        refine q_cond_t hF rfl hc14 (q_skipc (n_sq (q_seq (q_block (q_seq (q_region ?_))))))
        obtain ⟨e_38, he_38, hb13⟩ := bindS hb13
        obtain ⟨vs39, at39, d39⟩ := h35.at he_38 3 rfl
        obtain ⟨s40, rfl, h40⟩ : ∃ s40 : Sl, vs39 = [(.int .i64 e_38.Area), (.int .i64 e_38.House), s40.v] ∧ Rd m34 s40 e_38.Members := d39
        refine q_x (v := (elP s35 (t_37.toNat * 3))) hF hS (ex_indexAddr Tryz.underlying37 sz42 rfl rfl (h35.idx he_38)) rfl rfl fun a hF => q_x (v := (.agg #[(.int .i64 e_38.Area), (.int .i64 e_38.House), s40.v])) hF hS (ex_loadEA (us := [(.int .i64 e_38.Area), (.int .i64 e_38.House), s40.v]) 0 Tryz.underlying42 rfl sz42 rfl (at39.at 0 rfl) rfl rfl rfl) rfl rfl fun a hF => q_alloc (cs := [(.int .i64 0), (.int .i64 0), nilS.v]) hF hS rfl rfl rfl fun a w b41 hF hS => q_store (vs := [(.int .i64 e_38.Area), (.int .i64 e_38.House), s40.v]) (cs' := [(.int .i64 e_38.Area), (.int .i64 e_38.House), s40.v]) 0 0 hF hS sz42 rfl rfl rfl rfl rfl rfl rfl rfl fun a w hF hS => q_end (n_sq (q_seq (q_region (q_x (v := (.pointer (some ⟨b41, 2, none⟩))) hF hS (ex_fieldAddr Tryz.underlying42 rfl sz40 rfl rfl) rfl rfl fun a hF => q_x (v := s40.v) hF hS (ex_load1 0 0 Tryz.underlying40 rfl rfl rfl rfl) rfl rfl fun a hF => q_x (v := (.int .i64 (goLen e_38.Members))) hF hS (ex_len Tryz.underlying40 rfl h40.len) rfl rfl fun a hF => q_x (v := (.int .i64 0)) hF hS (ex_move rfl) rfl rfl fun a hF => q_end (n_sq (q_block ?_))))))
        obtain ⟨o15, hl15, hb13⟩ := bindS hb13
        refine q_loop (fun (s : Int × Int) a w => ∃ n_42, ∃ t_43, s = (n_42, t_43) ∧ Fr a 193 [(6, s6.v), (7, s10.v), (19, (.bool t_31.1)), (20, (.bool t_31.2)), (22, (.bool t_33.2)), (23, (.int .i64 n_42)), (25, (.pointer (some ⟨b41, 0, none⟩))), (118, s35.v), (119, (.int .i64 (goLen t_33.1))), (120, (.int .i64 t_37)), (125, s40.v), (126, (.int .i64 (goLen e_38.Members))), (127, (.int .i64 t_43))] ∧ St [] w0 w m34 [[⟨b41, [(.int .i64 e_38.Area), (.int .i64 e_38.House), s40.v], 42⟩], q35, q10]) (fun (o : (Int) ⊕ (Stp (Int × Int) ((Int) ⊕ (Bool)))) e a w => ∃ n_53, o = .inl n_53 ∧ e = .exit 2 ∧ Fr a 193 [(6, s6.v), (7, s10.v), (19, (.bool t_31.1)), (20, (.bool t_31.2)), (22, (.bool t_33.2)), (23, (.int .i64 n_53)), (118, s35.v), (119, (.int .i64 (goLen t_33.1))), (120, (.int .i64 t_37))] ∧ St [] w0 w m34 [q10, q35]) hl15 ⟨_, _, rfl, hF.sub ⟨rfl, rfl, rfl, rfl, rfl, rfl, rfl, rfl, rfl, rfl, rfl, rfl, rfl, trivial⟩, hS⟩ ?_ ?_
        ·clear hF hS
         rintro s a w st ⟨n_42, t_43, rfl, hF, hS⟩ hb15
         unfold laws_FnData_l2 at hb15
         refine q_seq (q_region (q_x (v := (.bool (decide (t_43 < (goLen e_38.Members))))) hF hS (ex_ibin rfl rfl rfl) rfl rfl fun a hF => q_end (n_sq (q_seq ?_))))
         rcases bcase (decide (t_43 < (goLen e_38.Members))) with hc16 | hc16
         ·have hb15 := cond_f hc16 hb15
          refine q_cond_f hF rfl hc16 (q_exit (x_sq ?_))
          obtain rfl := someI hb15
          exact ⟨nofun, .inl ⟨_, rfl, rfl, hF.sub ⟨rfl, rfl, rfl, rfl, rfl, rfl, rfl, rfl, rfl, trivial⟩, hS.sel [2, 1] (by decide)⟩⟩
         ·have hb15 := cond_t hc16 hb15
          refine q_cond_t hF rfl hc16 (q_skipc (n_sq (q_seq (q_block (q_seq (q_region ?_))))))
          obtain ⟨e_44, he_44, hb15⟩ := bindS hb15
          obtain ⟨vs45, at45, d45⟩ := h40.at he_44 1 rfl
          obtain rfl : vs45 = [(.int .i64 e_44)] := d45
          refine q_x (v := (elP s40 (t_43.toNat * 1))) hF hS (ex_indexAddr Tryz.underlying40 sz3 rfl rfl (h40.idx he_44)) rfl rfl fun a hF => q_x (v := (.int .i64 e_44)) hF hS (ex_loadE1 0 Tryz.underlying3 rfl rfl ((at45).at) rfl rfl) rfl rfl fun a hF => q_x (v := (.int .i64 e_44)) hF hS (ex_assign rfl) rfl rfl fun a hF => q_end (n_sq (q_seq (q_seq ?_)))
          obtain ⟨t_52, hj17, hb15⟩ := bindS hb15
          refine q_join (fun a w => Fr a 193 [(6, s6.v), (7, s10.v), (19, (.bool t_31.1)), (20, (.bool t_31.2)), (22, (.bool t_33.2)), (23, (.int .i64 n_42)), (25, (.pointer (some ⟨b41, 0, none⟩))), (118, s35.v), (119, (.int .i64 (goLen t_33.1))), (120, (.int .i64 t_37)), (125, s40.v), (126, (.int .i64 (goLen e_38.Members))), (127, (.int .i64 t_43)), (158, (.bool t_52))] ∧ St [] w0 w m34 [q10, q35, [⟨b41, [(.int .i64 e_38.Area), (.int .i64 e_38.House), s40.v], 42⟩]]) ?_ ?_
          ·refine e_region ⟨[], []⟩ mixed fun w' hw' => ?_
           have hS := hS.below hw'
           refine e_p (v := (.int .i64 e_44)) 0 hF rfl (ex_move rfl) rfl rfl (by kernel_rfl) (by kernel_rfl) (by kernel_rfl) fun a hF => e_p (v := (.bool (decide (e_44 < 0)))) 1 hF rfl (ex_ibin rfl rfl rfl) rfl rfl (by kernel_rfl) (by kernel_rfl) (by kernel_rfl) fun a hF => e_p (v := (.bool (decide (e_44 < 0)))) 2 hF rfl (ex_move rfl) rfl rfl (by kernel_rfl) (by kernel_rfl) (by kernel_rfl) fun a hF => ?_
           rcases bcase (decide (e_44 < 0)) with hc18 | hc18
           ·have hj17 := cond_f hc18 hj17
            refine e_pg (v := (.int .i64 e_44)) 3 hF rfl (ex_move rfl) (wanted_t hF rfl rfl rfl hc18) rfl (by kernel_rfl) (by kernel_rfl) (by kernel_rfl) fun a hF => e_pg (v := s6.v) 4 hF rfl (ex_move rfl) (wanted_t hF rfl rfl rfl hc18) rfl (by kernel_rfl) (by kernel_rfl) (by kernel_rfl) fun a hF => e_pg (v := (.int .i64 (goLen t_3.2))) 5 hF rfl (ex_len Tryz.underlying24 rfl ((((((h7.mono hm9.le).mono hm12.le).mono hm15.le).mono hm18.le).mono hm21.le).mono hm34.le).len) (wanted_t hF rfl rfl rfl hc18) rfl (by kernel_rfl) (by kernel_rfl) (by kernel_rfl) fun a hF => e_pg (v := (.bool (decide ((goLen t_3.2) ≤ e_44)))) 6 hF rfl (ex_ibin rfl rfl rfl) (wanted_t hF rfl rfl rfl hc18) rfl (by kernel_rfl) (by kernel_rfl) (by kernel_rfl) fun a hF => e_p (v := (.bool (decide ((goLen t_3.2) ≤ e_44)))) 7 hF rfl (ex_pick_f rfl rfl hc18) rfl rfl (by kernel_rfl) (by kernel_rfl) (by kernel_rfl) fun a hF => e_p (v := (.bool (decide ((goLen t_3.2) ≤ e_44)))) 8 hF rfl (ex_move rfl) rfl rfl (by kernel_rfl) (by kernel_rfl) (by kernel_rfl) fun a hF => ?_
            rcases bcase (decide ((goLen t_3.2) ≤ e_44)) with hc19 | hc19
            ·have hj17 := cond_f hc19 hj17
             refine e_pg (v := s6.v) 9 hF rfl (ex_move rfl) (wanted_t hF rfl rfl rfl hc19) rfl (by kernel_rfl) (by kernel_rfl) (by kernel_rfl) fun a hF => e_pg (v := (.int .i64 e_44)) 10 hF rfl (ex_move rfl) (wanted_t hF rfl rfl rfl hc19) rfl (by kernel_rfl) (by kernel_rfl) (by kernel_rfl) fun a hF => ?_
             obtain ⟨e_46, he_46, hj17⟩ := bindS hj17
             obtain ⟨vs47, at47, d47⟩ := ((((((h7.mono hm9.le).mono hm12.le).mono hm15.le).mono hm18.le).mono hm21.le).mono hm34.le).at he_46 3 rfl
             obtain ⟨s48, rfl, h48⟩ : ∃ s48 : Sl, vs47 = [(.int .i64 e_46.Area), (.int .i64 e_46.House), s48.v] ∧ Rd m34 s48 e_46.Values := d47
             refine e_pg (v := (elP s6 (e_44.toNat * 3))) 11 hF rfl (ex_indexAddr Tryz.underlying24 sz44 rfl rfl (((((((h7.mono hm9.le).mono hm12.le).mono hm15.le).mono hm18.le).mono hm21.le).mono hm34.le).idx he_46)) (wanted_t hF rfl rfl rfl hc19) rfl (by kernel_rfl) (by kernel_rfl) (by kernel_rfl) fun a hF => e_pg (v := (elP s6 (e_44.toNat * 3 + 0))) 12 hF rfl (ex_fieldAddrE Tryz.underlying44 rfl sz3 rfl (((((((h7.mono hm9.le).mono hm12.le).mono hm15.le).mono hm18.le).mono hm21.le).mono hm34.le).idx he_46) rfl) (wanted_t hF rfl rfl rfl hc19) rfl (by kernel_rfl) (by kernel_rfl) (by kernel_rfl) fun a hF => e_xg (v := (.int .i64 e_46.Area)) 13 hF hS rfl (ex_loadE1 0 Tryz.underlying3 rfl rfl ((at47).at) rfl rfl) (wanted_t hF rfl rfl rfl hc19) rfl (by kernel_rfl) (by kernel_rfl) (by kernel_rfl) (by kernel_rfl) fun a hF => e_pg (v := (.pointer (some ⟨b41, 0, none⟩))) 14 hF rfl (ex_fieldAddr Tryz.underlying42 rfl sz3 rfl rfl) (wanted_t hF rfl rfl rfl hc19) rfl (by kernel_rfl) (by kernel_rfl) (by kernel_rfl) fun a hF => e_xg (v := (.int .i64 e_38.Area)) 15 hF hS rfl (ex_load1 0 0 Tryz.underlying3 rfl rfl rfl rfl) (wanted_t hF rfl rfl rfl hc19) rfl (by kernel_rfl) (by kernel_rfl) (by kernel_rfl) (by kernel_rfl) fun a hF => e_pg (v := (.bool (e_46.Area != e_38.Area))) 16 hF rfl (ex_ibin rfl rfl rfl) (wanted_t hF rfl rfl rfl hc19) rfl (by kernel_rfl) (by kernel_rfl) (by kernel_rfl) fun a hF => e_p (v := (.bool (e_46.Area != e_38.Area))) 17 hF rfl (ex_pick_f rfl rfl hc19) rfl rfl (by kernel_rfl) (by kernel_rfl) (by kernel_rfl) fun a hF => e_p (v := (.bool (e_46.Area != e_38.Area))) 18 hF rfl (ex_move rfl) rfl rfl (by kernel_rfl) (by kernel_rfl) (by kernel_rfl) fun a hF => ?_
             rcases bcase (e_46.Area != e_38.Area) with hc20 | hc20
             ·have hj17 := cond_f hc20 hj17
              refine e_pg (v := s6.v) 19 hF rfl (ex_move rfl) (wanted_t hF rfl rfl rfl hc20) rfl (by kernel_rfl) (by kernel_rfl) (by kernel_rfl) fun a hF => e_pg (v := (.int .i64 e_44)) 20 hF rfl (ex_move rfl) (wanted_t hF rfl rfl rfl hc20) rfl (by kernel_rfl) (by kernel_rfl) (by kernel_rfl) fun a hF => ?_
              obtain ⟨e_49, he_49, hj17⟩ := bindS hj17
              obtain ⟨vs50, at50, d50⟩ := ((((((h7.mono hm9.le).mono hm12.le).mono hm15.le).mono hm18.le).mono hm21.le).mono hm34.le).at he_49 3 rfl
              obtain ⟨s51, rfl, h51⟩ : ∃ s51 : Sl, vs50 = [(.int .i64 e_49.Area), (.int .i64 e_49.House), s51.v] ∧ Rd m34 s51 e_49.Values := d50
              refine e_pg (v := (elP s6 (e_44.toNat * 3))) 21 hF rfl (ex_indexAddr Tryz.underlying24 sz44 rfl rfl (((((((h7.mono hm9.le).mono hm12.le).mono hm15.le).mono hm18.le).mono hm21.le).mono hm34.le).idx he_49)) (wanted_t hF rfl rfl rfl hc20) rfl (by kernel_rfl) (by kernel_rfl) (by kernel_rfl) fun a hF => e_pg (v := (elP s6 (e_44.toNat * 3 + 1))) 22 hF rfl (ex_fieldAddrE Tryz.underlying44 rfl sz3 rfl (((((((h7.mono hm9.le).mono hm12.le).mono hm15.le).mono hm18.le).mono hm21.le).mono hm34.le).idx he_49) rfl) (wanted_t hF rfl rfl rfl hc20) rfl (by kernel_rfl) (by kernel_rfl) (by kernel_rfl) fun a hF => e_xg (v := (.int .i64 e_49.House)) 23 hF hS rfl (ex_loadE1 1 Tryz.underlying3 rfl rfl ((at50).at) rfl rfl) (wanted_t hF rfl rfl rfl hc20) rfl (by kernel_rfl) (by kernel_rfl) (by kernel_rfl) (by kernel_rfl) fun a hF => e_pg (v := (.pointer (some ⟨b41, 1, none⟩))) 24 hF rfl (ex_fieldAddr Tryz.underlying42 rfl sz3 rfl rfl) (wanted_t hF rfl rfl rfl hc20) rfl (by kernel_rfl) (by kernel_rfl) (by kernel_rfl) fun a hF => e_xg (v := (.int .i64 e_38.House)) 25 hF hS rfl (ex_load1 0 0 Tryz.underlying3 rfl rfl rfl rfl) (wanted_t hF rfl rfl rfl hc20) rfl (by kernel_rfl) (by kernel_rfl) (by kernel_rfl) (by kernel_rfl) fun a hF => e_pg (v := (.bool (e_49.House != e_38.House))) 26 hF rfl (ex_ibin rfl rfl rfl) (wanted_t hF rfl rfl rfl hc20) rfl (by kernel_rfl) (by kernel_rfl) (by kernel_rfl) fun a hF => e_p (v := (.bool (e_49.House != e_38.House))) 27 hF rfl (ex_pick_f rfl rfl hc20) rfl rfl (by kernel_rfl) (by kernel_rfl) (by kernel_rfl) fun a hF => e_end (by kernel_rfl) (n_jn ?_) _
              obtain rfl := someI hj17
              exact ⟨hF.sub ⟨rfl, rfl, rfl, rfl, rfl, rfl, rfl, rfl, rfl, rfl, rfl, rfl, rfl, rfl, trivial⟩, hS.sel [2, 1, 0] (by decide)⟩
             ·have hj17 := cond_t hc20 hj17
              refine e_skipP 19 hF rfl (wanted_f hF rfl rfl rfl hc20 rfl) rfl (by kernel_rfl) (by kernel_rfl) (by kernel_rfl) fun a hF => e_skipP 20 hF rfl (wanted_f hF rfl rfl rfl hc20 rfl) rfl (by kernel_rfl) (by kernel_rfl) (by kernel_rfl) fun a hF => e_skipP 21 hF rfl (wanted_f hF rfl rfl rfl hc20 rfl) rfl (by kernel_rfl) (by kernel_rfl) (by kernel_rfl) fun a hF => e_skipP 22 hF rfl (wanted_f hF rfl rfl rfl hc20 rfl) rfl (by kernel_rfl) (by kernel_rfl) (by kernel_rfl) fun a hF => e_skipP 23 hF rfl (wanted_f hF rfl rfl rfl hc20 rfl) rfl (by kernel_rfl) (by kernel_rfl) (by kernel_rfl) fun a hF => e_skipP 24 hF rfl (wanted_f hF rfl rfl rfl hc20 rfl) rfl (by kernel_rfl) (by kernel_rfl) (by kernel_rfl) fun a hF => e_skipP 25 hF rfl (wanted_f hF rfl rfl rfl hc20 rfl) rfl (by kernel_rfl) (by kernel_rfl) (by kernel_rfl) fun a hF => e_skipP 26 hF rfl (wanted_f hF rfl rfl rfl hc20 rfl) rfl (by kernel_rfl) (by kernel_rfl) (by kernel_rfl) fun a hF => e_p (v := (.bool true)) 27 hF rfl (ex_pick_t rfl rfl hc20) rfl rfl (by kernel_rfl) (by kernel_rfl) (by kernel_rfl) fun a hF => e_end (by kernel_rfl) (n_jn ?_) _
              obtain rfl := someI hj17
              exact ⟨hF.sub ⟨rfl, rfl, rfl, rfl, rfl, rfl, rfl, rfl, rfl, rfl, rfl, rfl, rfl, rfl, trivial⟩, hS.sel [2, 1, 0] (by decide)⟩
            ·have hj17 := cond_t hc19 hj17
             refine e_skipP 9 hF rfl (wanted_f hF rfl rfl rfl hc19 rfl) rfl (by kernel_rfl) (by kernel_rfl) (by kernel_rfl) fun a hF => e_skipP 10 hF rfl (wanted_f hF rfl rfl rfl hc19 rfl) rfl (by kernel_rfl) (by kernel_rfl) (by kernel_rfl) fun a hF => e_skipP 11 hF rfl (wanted_f hF rfl rfl rfl hc19 rfl) rfl (by kernel_rfl) (by kernel_rfl) (by kernel_rfl) fun a hF => e_skipP 12 hF rfl (wanted_f hF rfl rfl rfl hc19 rfl) rfl (by kernel_rfl) (by kernel_rfl) (by kernel_rfl) fun a hF => e_skipP 13 hF rfl (wanted_f hF rfl rfl rfl hc19 rfl) rfl (by kernel_rfl) (by kernel_rfl) (by kernel_rfl) fun a hF => e_skipP 14 hF rfl (wanted_f hF rfl rfl rfl hc19 rfl) rfl (by kernel_rfl) (by kernel_rfl) (by kernel_rfl) fun a hF => e_skipP 15 hF rfl (wanted_f hF rfl rfl rfl hc19 rfl) rfl (by kernel_rfl) (by kernel_rfl) (by kernel_rfl) fun a hF => e_skipP 16 hF rfl (wanted_f hF rfl rfl rfl hc19 rfl) rfl (by kernel_rfl) (by kernel_rfl) (by kernel_rfl) fun a hF => e_p (v := (.bool true)) 17 hF rfl (ex_pick_t rfl rfl hc19) rfl rfl (by kernel_rfl) (by kernel_rfl) (by kernel_rfl) fun a hF => e_p (v := (.bool true)) 18 hF rfl (ex_move rfl) rfl rfl (by kernel_rfl) (by kernel_rfl) (by kernel_rfl) fun a hF => e_skipP 19 hF rfl (wanted_f hF rfl rfl rfl rfl rfl) rfl (by kernel_rfl) (by kernel_rfl) (by kernel_rfl) fun a hF => e_skipP 20 hF rfl (wanted_f hF rfl rfl rfl rfl rfl) rfl (by kernel_rfl) (by kernel_rfl) (by kernel_rfl) fun a hF => e_skipP 21 hF rfl (wanted_f hF rfl rfl rfl rfl rfl) rfl (by kernel_rfl) (by kernel_rfl) (by kernel_rfl) fun a hF => e_skipP 22 hF rfl (wanted_f hF rfl rfl rfl rfl rfl) rfl (by kernel_rfl) (by kernel_rfl) (by kernel_rfl) fun a hF => e_skipP 23 hF rfl (wanted_f hF rfl rfl rfl rfl rfl) rfl (by kernel_rfl) (by kernel_rfl) (by kernel_rfl) fun a hF => e_skipP 24 hF rfl (wanted_f hF rfl rfl rfl rfl rfl) rfl (by kernel_rfl) (by kernel_rfl) (by kernel_rfl) fun a hF => e_skipP 25 hF rfl (wanted_f hF rfl rfl rfl rfl rfl) rfl (by kernel_rfl) (by kernel_rfl) (by kernel_rfl) fun a hF => e_skipP 26 hF rfl (wanted_f hF rfl rfl rfl rfl rfl) rfl (by kernel_rfl) (by kernel_rfl) (by kernel_rfl) fun a hF => e_p (v := (.bool true)) 27 hF rfl (ex_pick_t rfl rfl rfl) rfl rfl (by kernel_rfl) (by kernel_rfl) (by kernel_rfl) fun a hF => e_end (by kernel_rfl) (n_jn ?_) _
             obtain rfl := someI hj17
             exact ⟨hF.sub ⟨rfl, rfl, rfl, rfl, rfl, rfl, rfl, rfl, rfl, rfl, rfl, rfl, rfl, rfl, trivial⟩, hS.sel [2, 1, 0] (by decide)⟩
           ·have hj17 := cond_t hc18 hj17
            refine e_skipP 3 hF rfl (wanted_f hF rfl rfl rfl hc18 rfl) rfl (by kernel_rfl) (by kernel_rfl) (by kernel_rfl) fun a hF => e_skipP 4 hF rfl (wanted_f hF rfl rfl rfl hc18 rfl) rfl (by kernel_rfl) (by kernel_rfl) (by kernel_rfl) fun a hF => e_skipP 5 hF rfl (wanted_f hF rfl rfl rfl hc18 rfl) rfl (by kernel_rfl) (by kernel_rfl) (by kernel_rfl) fun a hF => e_skipP 6 hF rfl (wanted_f hF rfl rfl rfl hc18 rfl) rfl (by kernel_rfl) (by kernel_rfl) (by kernel_rfl) fun a hF => e_p (v := (.bool true)) 7 hF rfl (ex_pick_t rfl rfl hc18) rfl rfl (by kernel_rfl) (by kernel_rfl) (by kernel_rfl) fun a hF => e_p (v := (.bool true)) 8 hF rfl (ex_move rfl) rfl rfl (by kernel_rfl) (by kernel_rfl) (by kernel_rfl) fun a hF => e_skipP 9 hF rfl (wanted_f hF rfl rfl rfl rfl rfl) rfl (by kernel_rfl) (by kernel_rfl) (by kernel_rfl) fun a hF => e_skipP 10 hF rfl (wanted_f hF rfl rfl rfl rfl rfl) rfl (by kernel_rfl) (by kernel_rfl) (by kernel_rfl) fun a hF => e_skipP 11 hF rfl (wanted_f hF rfl rfl rfl rfl rfl) rfl (by kernel_rfl) (by kernel_rfl) (by kernel_rfl) fun a hF => e_skipP 12 hF rfl (wanted_f hF rfl rfl rfl rfl rfl) rfl (by kernel_rfl) (by kernel_rfl) (by kernel_rfl) fun a hF => e_skipP 13 hF rfl (wanted_f hF rfl rfl rfl rfl rfl) rfl (by kernel_rfl) (by kernel_rfl) (by kernel_rfl) fun a hF => e_skipP 14 hF rfl (wanted_f hF rfl rfl rfl rfl rfl) rfl (by kernel_rfl) (by kernel_rfl) (by kernel_rfl) fun a hF => e_skipP 15 hF rfl (wanted_f hF rfl rfl rfl rfl rfl) rfl (by kernel_rfl) (by kernel_rfl) (by kernel_rfl) fun a hF => e_skipP 16 hF rfl (wanted_f hF rfl rfl rfl rfl rfl) rfl (by kernel_rfl) (by kernel_rfl) (by kernel_rfl) fun a hF => e_p (v := (.bool true)) 17 hF rfl (ex_pick_t rfl rfl rfl) rfl rfl (by kernel_rfl) (by kernel_rfl) (by kernel_rfl) fun a hF => e_p (v := (.bool true)) 18 hF rfl (ex_move rfl) rfl rfl (by kernel_rfl) (by kernel_rfl) (by kernel_rfl) fun a hF => e_skipP 19 hF rfl (wanted_f hF rfl rfl rfl rfl rfl) rfl (by kernel_rfl) (by kernel_rfl) (by kernel_rfl) fun a hF => e_skipP 20 hF rfl (wanted_f hF rfl rfl rfl rfl rfl) rfl (by kernel_rfl) (by kernel_rfl) (by kernel_rfl) fun a hF => e_skipP 21 hF rfl (wanted_f hF rfl rfl rfl rfl rfl) rfl (by kernel_rfl) (by kernel_rfl) (by kernel_rfl) fun a hF => e_skipP 22 hF rfl (wanted_f hF rfl rfl rfl rfl rfl) rfl (by kernel_rfl) (by kernel_rfl) (by kernel_rfl) fun a hF => e_skipP 23 hF rfl (wanted_f hF rfl rfl rfl rfl rfl) rfl (by kernel_rfl) (by kernel_rfl) (by kernel_rfl) fun a hF => e_skipP 24 hF rfl (wanted_f hF rfl rfl rfl rfl rfl) rfl (by kernel_rfl) (by kernel_rfl) (by kernel_rfl) fun a hF => e_skipP 25 hF rfl (wanted_f hF rfl rfl rfl rfl rfl) rfl (by kernel_rfl) (by kernel_rfl) (by kernel_rfl) fun a hF => e_skipP 26 hF rfl (wanted_f hF rfl rfl rfl rfl rfl) rfl (by kernel_rfl) (by kernel_rfl) (by kernel_rfl) fun a hF => e_p (v := (.bool true)) 27 hF rfl (ex_pick_t rfl rfl rfl) rfl rfl (by kernel_rfl) (by kernel_rfl) (by kernel_rfl) fun a hF => ?_
            refine e_end (by kernel_rfl) (n_jn ?_) _
            obtain rfl := someI hj17
            exact ⟨hF.sub ⟨rfl, rfl, rfl, rfl, rfl, rfl, rfl, rfl, rfl, rfl, rfl, rfl, rfl, rfl, trivial⟩, hS.sel [2, 1, 0] (by decide)⟩
          ·rintro a w ⟨hF, hS⟩
           refine n_sq ?_
           rcases bcase (t_52) with hc21 | hc21
           ·have hb15 := cond_f hc21 hb15
            refine q_cond_f hF rfl hc21 (q_skipc (n_sq (q_region (q_x (v := (.int .i64 n_42)) hF hS (ex_move rfl) rfl rfl fun a hF => q_x (v := (.int .i64 (w64 (n_42 + 1)))) hF hS (ex_ibin rfl rfl rfl) rfl rfl fun a hF => q_x (v := (.int .i64 (w64 (n_42 + 1)))) hF hS (ex_assign rfl) rfl rfl fun a hF => q_end (n_ib (n_sq (q_region (q_x (v := (.int .i64 (w64 (t_43 + 1)))) hF hS (ex_ibin rfl rfl rfl) rfl rfl fun a hF => q_x (v := (.int .i64 (w64 (t_43 + 1)))) hF hS (ex_move rfl) rfl rfl fun a hF => q_end ?_))))))))
            obtain rfl := someI hb15
            exact ⟨rfl, _, _, rfl, hF.sub ⟨rfl, rfl, rfl, rfl, rfl, rfl, rfl, rfl, rfl, rfl, rfl, rfl, rfl, trivial⟩, hS.sel [2, 1, 0] (by decide)⟩
           ·have hb15 := cond_t hc21 hb15
            refine q_cond_t hF rfl hc21 (q_seq (q_region (q_x (v := (.bool false)) hF hS (ex_assign rfl) rfl rfl fun a hF => q_end (n_sq (q_ret (r_sq (r_ib (r_sq ?_))))))))
            obtain rfl := someI hb15
            refine ⟨nofun, .inr fun ho => ?_⟩
            subst ho
            refine r_ib (r_ib (r_sq ?_))
            obtain rfl := someI hb13
            refine ⟨nofun, .inr fun ho => ?_⟩
            subst ho
            refine r_ib (r_sq ?_)
            obtain rfl := someI hr
            exact ret_of hF hS rfl (.tmp rfl .nil) rfl
        ·rintro e a w ⟨n_53, rfl, rfl, hF, hS⟩
         refine x_ib (n_ib (n_sq ?_))
         refine q_region (q_x (v := (.int .i64 (w64 (t_37 + 1)))) hF hS (ex_ibin rfl rfl rfl) rfl rfl fun a hF => q_x (v := (.int .i64 (w64 (t_37 + 1)))) hF hS (ex_move rfl) rfl rfl fun a hF => q_end ?_)
         obtain rfl := someI hb13
         exact ⟨rfl, _, _, rfl, hF.sub ⟨rfl, rfl, rfl, rfl, rfl, rfl, rfl, rfl, rfl, trivial⟩, hS.sel [1, 0] (by decide)⟩
      ·rintro e a w ⟨n_54, rfl, rfl, hF, hS⟩
       refine x_ib (n_sq ?_)
       refine q_seq (q_seq (q_region (q_x (v := (.int .i64 1)) hF hS (ex_assign rfl) rfl rfl fun a hF => q_end (n_sq (q_block ?_)))))
       obtain ⟨o22, hl22, hr⟩ := bindS hr
       refine q_loop (fun (i_55 : Int) a w => Fr a 193 [(6, s6.v), (7, s10.v), (19, (.bool t_31.1)), (20, (.bool t_31.2)), (22, (.bool t_33.2)), (23, (.int .i64 n_54)), (28, (.int .i64 i_55))] ∧ St [] w0 w m34 [q10]) (fun (o : (Unit) ⊕ (Bool)) e a w => o = .inl () ∧ e = .exit 4 ∧ Fr a 193 [(6, s6.v), (19, (.bool t_31.1)), (20, (.bool t_31.2)), (22, (.bool t_33.2)), (23, (.int .i64 n_54))] ∧ St [] w0 w m34 []) hl22 ⟨hF.sub ⟨rfl, rfl, rfl, rfl, rfl, rfl, rfl, trivial⟩, hS⟩ ?_ ?_
       ·clear hF hS
        rintro i_55 a w st ⟨hF, hS⟩ hb22
        unfold laws_FnData_l3 at hb22
        refine q_seq (q_seq (q_region (q_x (v := (.int .i64 i_55)) hF hS (ex_move rfl) rfl rfl fun a hF => q_x (v := s10.v) hF hS (ex_move rfl) rfl rfl fun a hF => q_x (v := (.int .i64 (goLen t_8.1))) hF hS (ex_len Tryz.underlying24 rfl (((((h10.mono hm12.le).mono hm15.le).mono hm18.le).mono hm21.le).mono hm34.le).len) rfl rfl fun a hF => q_x (v := (.bool (decide (i_55 < (goLen t_8.1))))) hF hS (ex_ibin rfl rfl rfl) rfl rfl fun a hF => q_end (n_sq ?_))))
        rcases bcase (decide (i_55 < (goLen t_8.1))) with hc23 | hc23
        ·have hb22 := cond_f hc23 hb22
         refine q_cond_f hF rfl hc23 (q_exit (x_sq ?_))
         obtain rfl := someI hb22
         exact ⟨nofun, .inl ⟨rfl, rfl, hF.sub ⟨rfl, rfl, rfl, rfl, rfl, trivial⟩, hS.mask [false]⟩⟩
        ·have hb22 := cond_t hc23 hb22
         refine q_cond_t hF rfl hc23 (q_skipc (n_sq (q_seq (q_block (q_seq (e_region ⟨[], []⟩ mixed fun w' hw' => ?_))))))
         have hS := hS.below hw'
         refine e_p (v := s10.v) 0 hF rfl (ex_move rfl) rfl rfl (by kernel_rfl) (by kernel_rfl) (by kernel_rfl) fun a hF => e_p (v := (.int .i64 i_55)) 1 hF rfl (ex_move rfl) rfl rfl (by kernel_rfl) (by kernel_rfl) (by kernel_rfl) fun a hF => e_p (v := (.int .i64 (w64 (i_55 - 1)))) 2 hF rfl (ex_ibin rfl rfl rfl) rfl rfl (by kernel_rfl) (by kernel_rfl) (by kernel_rfl) fun a hF => ?_
         obtain ⟨e_56, he_56, hb22⟩ := bindS hb22
         obtain ⟨vs57, at57, d57⟩ := (((((h10.mono hm12.le).mono hm15.le).mono hm18.le).mono hm21.le).mono hm34.le).at he_56 3 rfl
         obtain ⟨s58, rfl, h58⟩ : ∃ s58 : Sl, vs57 = [(.int .i64 e_56.Area), (.int .i64 e_56.House), s58.v] ∧ Rd m34 s58 e_56.Values := d57
         refine e_p (v := (elP s10 ((w64 (i_55 - 1)).toNat * 3))) 3 hF rfl (ex_indexAddr Tryz.underlying24 sz44 rfl rfl ((((((h10.mono hm12.le).mono hm15.le).mono hm18.le).mono hm21.le).mono hm34.le).idx he_56)) rfl rfl (by kernel_rfl) (by kernel_rfl) (by kernel_rfl) fun a hF => e_x (v := (.agg #[(.int .i64 e_56.Area), (.int .i64 e_56.House), s58.v])) 4 hF hS rfl (ex_loadEA (us := [(.int .i64 e_56.Area), (.int .i64 e_56.House), s58.v]) 0 Tryz.underlying44 rfl sz44 rfl (at57.at 0 rfl) rfl rfl rfl) rfl rfl (by kernel_rfl) (by kernel_rfl) (by kernel_rfl) (by kernel_rfl) fun a hF => e_p (v := s10.v) 5 hF rfl (ex_move rfl) rfl rfl (by kernel_rfl) (by kernel_rfl) (by kernel_rfl) fun a hF => e_p (v := (.int .i64 i_55)) 6 hF rfl (ex_move rfl) rfl rfl (by kernel_rfl) (by kernel_rfl) (by kernel_rfl) fun a hF => ?_
         obtain ⟨e_59, he_59, hb22⟩ := bindS hb22
         obtain ⟨vs60, at60, d60⟩ := (((((h10.mono hm12.le).mono hm15.le).mono hm18.le).mono hm21.le).mono hm34.le).at he_59 3 rfl
         obtain ⟨s61, rfl, h61⟩ : ∃ s61 : Sl, vs60 = [(.int .i64 e_59.Area), (.int .i64 e_59.House), s61.v] ∧ Rd m34 s61 e_59.Values := d60
         refine e_p (v := (elP s10 (i_55.toNat * 3))) 7 hF rfl (ex_indexAddr Tryz.underlying24 sz44 rfl rfl ((((((h10.mono hm12.le).mono hm15.le).mono hm18.le).mono hm21.le).mono hm34.le).idx he_59)) rfl rfl (by kernel_rfl) (by kernel_rfl) (by kernel_rfl) fun a hF => e_x (v := (.agg #[(.int .i64 e_59.Area), (.int .i64 e_59.House), s61.v])) 8 hF hS rfl (ex_loadEA (us := [(.int .i64 e_59.Area), (.int .i64 e_59.House), s61.v]) 0 Tryz.underlying44 rfl sz44 rfl (at60.at 0 rfl) rfl rfl rfl) rfl rfl (by kernel_rfl) (by kernel_rfl) (by kernel_rfl) (by kernel_rfl) fun a hF => e_one 9 (by kernel_rfl) ?_
         obtain ⟨t_62, ht_62, hb22⟩ := bindS hb22
         refine e_call (vs := [(.agg #[(.int .i64 e_56.Area), (.int .i64 e_56.House), s58.v]), (.agg #[(.int .i64 e_59.Area), (.int .i64 e_59.House), s61.v])]) hF hS rfl Tryz.func14 (by kernel_rfl) rfl rfl rfl (c_impl_CompareRecords e_56 e_59 t_62 ht_62 _ m34 hS.vis s58 h58 s61 h61) ?_
         rintro a w _ rfl hF hS
         refine e_p (v := (.bool (decide (0 < t_62)))) 10 hF rfl (ex_ibin rfl rfl rfl) rfl rfl (by kernel_rfl) (by kernel_rfl) (by kernel_rfl) fun a hF => e_end (by kernel_rfl) (n_sq ?_) _
         rcases bcase (decide (0 < t_62)) with hc24 | hc24
         ·have hb22 := cond_f hc24 hb22
          refine q_cond_f hF rfl hc24 (q_skipc (n_ib (n_sq (q_region (q_x (v := (.int .i64 i_55)) hF hS (ex_move rfl) rfl rfl fun a hF => q_x (v := (.int .i64 (w64 (i_55 + 1)))) hF hS (ex_ibin rfl rfl rfl) rfl rfl fun a hF => q_x (v := (.int .i64 (w64 (i_55 + 1)))) hF hS (ex_assign rfl) rfl rfl fun a hF => q_end ?_)))))
          obtain rfl := someI hb22
          exact ⟨rfl, hF.sub ⟨rfl, rfl, rfl, rfl, rfl, rfl, rfl, trivial⟩, hS⟩
         ·have hb22 := cond_t hc24 hb22
          refine q_cond_t hF rfl hc24 (q_seq (q_region (q_x (v := (.bool false)) hF hS (ex_assign rfl) rfl rfl fun a hF => q_end (n_sq (q_ret (r_ib (r_sq ?_)))))))
          obtain rfl := someI hb22
          refine ⟨nofun, .inr fun ho => ?_⟩
          subst ho
          refine r_ib (r_sq ?_)
          obtain rfl := someI hr
          exact ret_of hF hS rfl (.tmp rfl .nil) rfl
       ·rintro e a w ⟨rfl, rfl, hF, hS⟩
        refine x_ib (n_sq ?_)
        refine q_seq ?_
        obtain ⟨t_63, hj25, hr⟩ := bindS hr
        refine q_join (fun a w => Fr a 193 [(4, (.bool t_63))] ∧ St [] w0 w m34 []) ?_ ?_
        ·refine q_region (q_x (v := (.bool t_31.2)) hF hS (ex_move rfl) rfl rfl fun a hF => q_x (v := (.bool t_31.2)) hF hS (ex_move rfl) rfl rfl fun a hF => ?_)
         rcases bcase (t_31.2) with hc26 | hc26
         ·have hj25 := cond_f hc26 hj25
          refine q_skip hF (wanted_f hF rfl rfl rfl hc26 rfl) rfl fun a hF => q_x (v := (.bool false)) hF hS (ex_pick_f rfl rfl hc26) rfl rfl fun a hF => q_x (v := (.bool false)) hF hS (ex_move rfl) rfl rfl fun a hF => q_skip hF (wanted_f hF rfl rfl rfl rfl rfl) rfl fun a hF => q_x (v := (.bool false)) hF hS (ex_pick_f rfl rfl rfl) rfl rfl fun a hF => q_x (v := (.bool false)) hF hS (ex_move rfl) rfl rfl fun a hF => q_skip hF (wanted_f hF rfl rfl rfl rfl rfl) rfl fun a hF => q_skip hF (wanted_f hF rfl rfl rfl rfl rfl) rfl fun a hF => q_skip hF (wanted_f hF rfl rfl rfl rfl rfl) rfl fun a hF => q_skip hF (wanted_f hF rfl rfl rfl rfl rfl) rfl fun a hF => q_x (v := (.bool false)) hF hS (ex_pick_f rfl rfl rfl) rfl rfl fun a hF => q_x (v := (.bool false)) hF hS (ex_assign rfl) rfl rfl fun a hF => q_end (n_jn ?_)
          obtain rfl := someI hj25
          exact ⟨hF.sub ⟨rfl, trivial⟩, hS⟩
         ·have hj25 := cond_t hc26 hj25
          refine q_xg (v := (.bool t_33.2)) hF hS (ex_move rfl) (wanted_t hF rfl rfl rfl hc26) rfl fun a hF => q_x (v := (.bool t_33.2)) hF hS (ex_pick_t rfl rfl hc26) rfl rfl fun a hF => q_x (v := (.bool t_33.2)) hF hS (ex_move rfl) rfl rfl fun a hF => ?_
          rcases bcase (t_33.2) with hc27 | hc27
          ·have hj25 := cond_f hc27 hj25
           refine q_skip hF (wanted_f hF rfl rfl rfl hc27 rfl) rfl fun a hF => q_x (v := (.bool false)) hF hS (ex_pick_f rfl rfl hc27) rfl rfl fun a hF => q_x (v := (.bool false)) hF hS (ex_move rfl) rfl rfl fun a hF => q_skip hF (wanted_f hF rfl rfl rfl rfl rfl) rfl fun a hF => q_skip hF (wanted_f hF rfl rfl rfl rfl rfl) rfl fun a hF => q_skip hF (wanted_f hF rfl rfl rfl rfl rfl) rfl fun a hF => q_skip hF (wanted_f hF rfl rfl rfl rfl rfl) rfl fun a hF => q_x (v := (.bool false)) hF hS (ex_pick_f rfl rfl rfl) rfl rfl fun a hF => q_x (v := (.bool false)) hF hS (ex_assign rfl) rfl rfl fun a hF => q_end (n_jn ?_)
           obtain rfl := someI hj25
           exact ⟨hF.sub ⟨rfl, trivial⟩, hS⟩
          ·have hj25 := cond_t hc27 hj25
           refine q_xg (v := (.bool t_31.1)) hF hS (ex_move rfl) (wanted_t hF rfl rfl rfl hc27) rfl fun a hF => q_x (v := (.bool t_31.1)) hF hS (ex_pick_t rfl rfl hc27) rfl rfl fun a hF => q_x (v := (.bool t_31.1)) hF hS (ex_move rfl) rfl rfl fun a hF => ?_
           rcases bcase (t_31.1) with hc28 | hc28
           ·have hj25 := cond_f hc28 hj25
            refine q_skip hF (wanted_f hF rfl rfl rfl hc28 rfl) rfl fun a hF => q_skip hF (wanted_f hF rfl rfl rfl hc28 rfl) rfl fun a hF => q_skip hF (wanted_f hF rfl rfl rfl hc28 rfl) rfl fun a hF => q_skip hF (wanted_f hF rfl rfl rfl hc28 rfl) rfl fun a hF => q_x (v := (.bool false)) hF hS (ex_pick_f rfl rfl hc28) rfl rfl fun a hF => q_x (v := (.bool false)) hF hS (ex_assign rfl) rfl rfl fun a hF => q_end (n_jn ?_)
            obtain rfl := someI hj25
            exact ⟨hF.sub ⟨rfl, trivial⟩, hS⟩
           ·have hj25 := cond_t hc28 hj25
            refine q_xg (v := (.int .i64 n_54)) hF hS (ex_move rfl) (wanted_t hF rfl rfl rfl hc28) rfl fun a hF => q_xg (v := s6.v) hF hS (ex_move rfl) (wanted_t hF rfl rfl rfl hc28) rfl fun a hF => q_xg (v := (.int .i64 (goLen t_3.2))) hF hS (ex_len Tryz.underlying24 rfl ((((((h7.mono hm9.le).mono hm12.le).mono hm15.le).mono hm18.le).mono hm21.le).mono hm34.le).len) (wanted_t hF rfl rfl rfl hc28) rfl fun a hF => q_xg (v := (.bool (n_54 == (goLen t_3.2)))) hF hS (ex_ibin rfl rfl rfl) (wanted_t hF rfl rfl rfl hc28) rfl fun a hF => q_x (v := (.bool (n_54 == (goLen t_3.2)))) hF hS (ex_pick_t rfl rfl hc28) rfl rfl fun a hF => q_x (v := (.bool (n_54 == (goLen t_3.2)))) hF hS (ex_assign rfl) rfl rfl fun a hF => q_end (n_jn ?_)
            obtain rfl := someI hj25
            exact ⟨hF.sub ⟨rfl, trivial⟩, hS⟩
        ·rintro a w ⟨hF, hS⟩
         refine n_sq (q_ret ?_)
         obtain rfl := someI hr
         exact ret_of hF hS rfl (.tmp rfl .nil) rfl
     ·have hr := cond_t hc12 hr
      refine q_cond_t hF rfl hc12 (q_seq (q_region (q_x (v := (.bool true)) hF hS (ex_assign rfl) rfl rfl fun a hF => q_end (n_sq (q_ret (r_sq ?_))))))
      obtain rfl := someI hr
      exact ret_of hF hS rfl (.tmp rfl .nil) rfl
   ·have hr := cond_t hc6 hr
    refine q_cond_t hF rfl hc6 (q_seq (q_region (q_x (v := (.bool false)) hF hS (ex_assign rfl) rfl rfl fun a hF => q_end (n_sq (q_ret (r_sq ?_))))))
    obtain rfl := someI hr
    exact ret_of hF hS rfl (.tmp rfl .nil) rfl
 ·have hr := cond_t hc1 hr
  refine q_cond_t hF rfl hc1 (q_seq (q_region (q_x (v := (.bool true)) hF hS (ex_assign rfl) rfl rfl fun a hF => q_end (n_sq (q_ret (r_sq ?_))))))
  obtain rfl := someI hr
  exact ret_of hF hS rfl (.tmp rfl .nil) rfl

end Go.Proofs.YtebjhiflnemkhaaGreatDoor

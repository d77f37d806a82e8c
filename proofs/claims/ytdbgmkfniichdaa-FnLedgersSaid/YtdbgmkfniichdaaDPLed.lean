/- Plain laws: the loss of a ledger. -/
import Derived.Test.YtdbgmkfniichdaaDPMax
namespace Go.Gx.F
open Go.Gx
set_option linter.all false

theorem beq_no {a b : Int} (h : ¬ a = b) : (a == b) = false := by simpa using h

theorem bne_no {a b : Int} (h : ¬ a = b) : (a != b) = true := by simpa using h

def GoodE (e : impl_Entry) : Prop := -1 ≤ e.Scope ∧ e.Scope ≤ 29 ∧ GoodL e.Loss

instance (e : impl_Entry) : Decidable (GoodE e) := by unfold GoodE; infer_instance

def goodEs (l : List impl_Entry) : Bool := l.all (fun x => decide (GoodE x)) && decide (l.length ≤ 30)

theorem impl_areEntries_eq {l : List impl_Entry} (h : l.length ≤ 1048576) : impl_areEntries l = some (goodEs l) := by
  unfold impl_areEntries goodEs
  rw [loop_all (l := l) (fun x => decide (GoodE x)) _ (fun k x hx => ?_) (fun _ => ?_)]
  · by_cases hc : l.length ≤ 30
    · rw [show decide (30 < goLen l) = false by simp [goLen]; omega]
      by_cases ha : l.all (fun x => decide (GoodE x)) = true
      · rw [ha]; simp [hc]
      · rw [if_neg ha]; simp only [Bool.not_eq_true] at ha; rw [ha]; simp
    · rw [show decide (30 < goLen l) = true by simp [goLen]; omega]
      simp [hc]
  · simp only [impl_areEntries_l1, lt_ok hx, cond_true, at_ok hx, Option.bind_some, impl_IsLoss_eq, nx_ok hx (by omega)]
    by_cases h1 : x.Scope < -1
    · simp [h1, show ¬ GoodE x from fun h => by have := h.1; omega]
    · by_cases h2 : 29 < x.Scope
      · simp [h1, h2, show ¬ GoodE x from fun h => by have := h.2.1; omega]
      · by_cases h3 : GoodL x.Loss
        · simp [h1, h2, h3, show GoodE x from ⟨by omega, by omega, h3⟩]
        · simp [h1, h2, h3, show ¬ GoodE x from fun h => h3 h.2.2]
  · simp only [impl_areEntries_l1, lt_end, cond_false]

theorem spec_pEntries_eq {l : List impl_Entry} (h : l.length ≤ 1048576) : spec_pEntries l = some (goodEs l) := by
  unfold spec_pEntries goodEs
  rw [loop_all (l := l) (fun x => decide (GoodE x)) _ (fun k x hx => ?_) (fun _ => ?_)]
  · by_cases ha : l.all (fun x => decide (GoodE x)) = true
    · rw [ha]; simp [goLen]; omega
    · rw [if_neg ha]; simp only [Bool.not_eq_true] at ha; rw [ha]; simp
  · simp only [spec_pEntries_l1, lt_ok hx, cond_true, at_ok hx, Option.bind_some, spec_pGood_eq, spec_l1In_eq, nx_ok hx (by omega)]
    by_cases h1 : -1 ≤ x.Scope ∧ x.Scope ≤ 29
    · by_cases h3 : GoodL x.Loss
      · simp [h1, h3, show GoodE x from ⟨h1.1, h1.2, h3⟩]
      · simp [h1, h3, show ¬ GoodE x from fun h => h3 h.2.2]
    · simp [h1, show ¬ GoodE x from fun h => h1 ⟨h.1, h.2.1⟩]
  · simp only [spec_pEntries_l1, lt_end, cond_false]

theorem goodEs_mem {l : List impl_Entry} (h : goodEs l = true) : ∀ x ∈ l, GoodE x := by
  unfold goodEs at h
  simp only [Bool.and_eq_true, List.all_eq_true, decide_eq_true_eq] at h
  exact h.1

theorem goodEs_len {l : List impl_Entry} (h : goodEs l = true) : l.length ≤ 30 := by
  unfold goodEs at h
  simp only [Bool.and_eq_true, List.all_eq_true, decide_eq_true_eq] at h
  exact h.2

/-! the losses of one scope -/
def lossesOf (l : List impl_Entry) (s : Int) : List impl_Loss := (l.filter (fun e => e.Scope == s)).map (·.Loss)

def ofs (l : List impl_Entry) (s : Int) (o : impl_Loss) : impl_Loss × Bool := compL (lossesOf l s) o

def stepG {β : Type} (bad : β) (s : Int) (_ : Nat) (e : impl_Entry) (o : impl_Loss) : Option (impl_Loss ⊕ (impl_Loss ⊕ β)) :=
  if e.Scope = s then some (if (comp o e.Loss).2 then .inl (comp o e.Loss).1 else .inr (.inr bad)) else some (.inl o)

theorem lfold_of {β : Type} (bad : β) (s : Int) : ∀ (l : List impl_Entry) (k : Nat) (o : impl_Loss), lfold (stepG bad s) (fun s => some (.inl s)) k l o = some (if (ofs l s o).2 then .inl (ofs l s o).1 else .inr bad)
  | [], _, _ => by simp [lfold, ofs, lossesOf, compL]
  | e :: l, k, o => by
    simp only [lfold, stepG]
    have ih := fun o => lfold_of bad s l (k + 1) o
    by_cases h : e.Scope = s
    · rw [if_pos h]
      have hb : ofs (e :: l) s o = if (comp o e.Loss).2 then ofs l s (comp o e.Loss).1 else (⟨⟨0, 0⟩, ⟨0, 0⟩⟩, false) := by simp [ofs, lossesOf, h, compL]
      rw [hb]
      by_cases hc : (comp o e.Loss).2 = true
      · rw [if_pos hc]; simp only [hc, if_true]; exact ih _
      · rw [if_neg hc]; simp [hc]
    · rw [if_neg h]
      have hb : ofs (e :: l) s o = ofs l s o := by simp [ofs, lossesOf, h]
      rw [hb]
      exact ih o

theorem stepG_good {β : Type} {bad : β} {s : Int} {k : Nat} {e : impl_Entry} {o o' : impl_Loss} (ho : GoodL o) (he : GoodE e) (h : stepG bad s k e o = some (.inl o')) : GoodL o' := by
  unfold stepG at h
  split at h
  · by_cases hc : (comp o e.Loss).2 = true
    · simp only [hc, if_true, Option.some.injEq, Sum.inl.injEq] at h
      subst h
      exact comp_good ho he.2.2 hc
    · simp [hc] at h
  · simp only [Option.some.injEq, Sum.inl.injEq] at h
    subst h
    exact ho

theorem spec_pOf_eq {l : List impl_Entry} (hl : l.length ≤ 1048576) (hg : ∀ x ∈ l, GoodE x) (s : Int) {o : impl_Loss} (ho : GoodL o) : spec_pOf l s o = some (ofs l s o) := by
  unfold spec_pOf
  rw [loop_list (fun k s => (k, s)) l (spec_pOf_l1 l s) (stepG (⟨⟨0, 0⟩, ⟨0, 0⟩⟩, false) s) (fun s => some (.inl s)) (fun _ s => GoodL s) (fun k x o hx ho => ?_) (fun s _ => ?_) (fun k x o o' hx ho h => stepG_good ho (hg x (List.mem_of_getElem? hx)) h) ho]
  · rw [lfold_of, Option.bind_some]
    generalize hq : ofs l s o = q
    obtain ⟨u, b⟩ := q
    cases b
    · have : u = ⟨⟨0, 0⟩, ⟨0, 0⟩⟩ := by
        have hz : ∀ (L : List impl_Loss) (o : impl_Loss), (compL L o).2 = false → (compL L o).1 = ⟨⟨0, 0⟩, ⟨0, 0⟩⟩ := by
          intro L
          induction L with
          | nil => intro o h; simp [compL] at h
          | cons x L ih =>
            intro o h
            simp only [compL] at h ⊢
            split at h
            · rename_i hc; rw [if_pos hc]; exact ih _ h
            · rename_i hc; rw [if_neg hc]
        have := hz (lossesOf l s) o (by unfold ofs at hq; rw [hq])
        unfold ofs at hq
        rw [hq] at this
        exact this
      subst this
      simp
    · simp
  · have gx := hg x (List.mem_of_getElem? hx)
    simp only [spec_pOf_l1, lt_ok hx, cond_true, at_ok hx, Option.bind_some, spec_pTwo_eq ho gx.2.2, nx_ok hx (by omega), stepG]
    by_cases hs : x.Scope = s
    · simp only [hs, bne_self_eq_false, cond_false, if_true]
      cases hc : (comp o x.Loss).2 <;> simp [nxt]
    · simp [hs, nxt, bne_no hs]
  · simp only [spec_pOf_l1, lt_end, cond_false]; rfl

theorem ofs_bad {l : List impl_Entry} {s : Int} {o : impl_Loss} (h : (ofs l s o).2 = false) : ofs l s o = (⟨⟨0, 0⟩, ⟨0, 0⟩⟩, false) := by
  have hz : ∀ (L : List impl_Loss) (o : impl_Loss), (compL L o).2 = false → (compL L o).1 = ⟨⟨0, 0⟩, ⟨0, 0⟩⟩ := by
    intro L
    induction L with
    | nil => intro o h; simp [compL] at h
    | cons x L ih =>
      intro o h
      simp only [compL] at h ⊢
      split at h
      · rename_i hc; rw [if_pos hc]; exact ih _ h
      · rename_i hc; rw [if_neg hc]
  exact Prod.ext (hz _ _ h) h

theorem compL_good : ∀ (L : List impl_Loss) (o : impl_Loss), GoodL o → (∀ x ∈ L, GoodL x) → (compL L o).2 = true → GoodL (compL L o).1
  | [], o, h, _, _ => h
  | x :: L, o, h, hg, hb => by
    simp only [compL] at hb ⊢
    by_cases hc : (comp o x).2 = true
    · rw [if_pos hc] at hb ⊢
      exact compL_good L _ (comp_good h (hg x (by simp)) hc) (fun y hy => hg y (by simp [hy])) hb
    · rw [if_neg hc] at hb; simp at hb

theorem ofs_good {l : List impl_Entry} (hg : ∀ x ∈ l, GoodE x) {s : Int} {o : impl_Loss} (ho : GoodL o) (h : (ofs l s o).2 = true) : GoodL (ofs l s o).1 :=
  compL_good _ _ ho (fun x hx => by
    simp only [lossesOf, List.mem_map, List.mem_filter] at hx
    obtain ⟨e, ⟨he, _⟩, rfl⟩ := hx
    exact (hg e he).2.2) h

/-! over several scopes -/
def goS (P : Int → impl_Loss × Bool) : List Int → impl_Loss → impl_Loss × Bool
  | [], o => (o, true)
  | s :: r, o => if (P s).2 then goS P r (lgr o (P s).1) else (⟨⟨0, 0⟩, ⟨0, 0⟩⟩, false)

theorem goS_eq (P : Int → impl_Loss × Bool) : ∀ (S : List Int) (o : impl_Loss), goS P S o = if S.all (fun s => (P s).2) then ((S.map fun s => (P s).1).foldl lgr o, true) else (⟨⟨0, 0⟩, ⟨0, 0⟩⟩, false)
  | [], o => by simp [goS]
  | s :: r, o => by
    simp only [goS, goS_eq P r, List.all_cons, List.map_cons, List.foldl_cons]
    by_cases h : (P s).2 = true <;> simp [h]

theorem lgr_none {o : impl_Loss} (ho : GoodL o) : lgr ⟨⟨1, 1⟩, ⟨0, 1⟩⟩ o = o := by
  obtain ⟨a1, a2, a3, a4⟩ := ho
  have e1 : fgr ⟨1, 1⟩ o.Ratio = o.Ratio := by
    refine cmp_anti (fgr_good good_one a1) a1 ?_ fgr_le_r
    unfold fgr
    split
    · exact cmp_self _
    · rw [cmp_le]; simp only; omega
  have e2 : fgr ⟨0, 1⟩ o.Rho = o.Rho := by
    refine cmp_anti (fgr_good (by decide) a2) a2 ?_ fgr_le_r
    unfold fgr
    split
    · exact cmp_self _
    · rw [cmp_le]; simp only; omega
  unfold lgr
  rw [e1, e2]

/-! the reference's ledger -/
def stepS (P : Int → impl_Loss × Bool) (_ : Nat) (s : Int) (o : impl_Loss) : Option (impl_Loss ⊕ (impl_Loss ⊕ (impl_Loss × Bool))) :=
  some (if (P s).2 then .inl (lgr o (P s).1) else .inr (.inr (⟨⟨0, 0⟩, ⟨0, 0⟩⟩, false)))

theorem lfold_goS (P : Int → impl_Loss × Bool) : ∀ (S : List Int) (k : Nat) (o : impl_Loss), lfold (stepS P) (fun s => some (.inl s)) k S o = some (compR (goS P S o))
  | [], _, o => by simp [lfold, goS, compR]
  | s :: S, k, o => by
    simp only [lfold, stepS, goS]
    by_cases h : (P s).2 = true
    · simp only [h, if_true]; exact lfold_goS P S (k + 1) _
    · simp [h, compR]

def scopes : List Int := (List.range 30).map Int.ofNat

theorem scopes_get {k : Nat} {x : Int} (h : scopes[k]? = some x) : x = (k : Int) ∧ k < 30 := by
  unfold scopes at h
  rw [List.getElem?_map] at h
  by_cases hk : k < 30
  · rw [List.getElem?_range hk] at h
    simp at h
    exact ⟨h.symm, hk⟩
  · rw [List.getElem?_eq_none (by simp; omega)] at h
    cases h

theorem scopes_mem {s : Int} : s ∈ scopes ↔ 0 ≤ s ∧ s ≤ 29 := by
  unfold scopes
  simp only [List.mem_map, List.mem_range]
  constructor
  · rintro ⟨k, hk, rfl⟩
    exact ⟨Int.natCast_nonneg k, by simp; omega⟩
  · rintro ⟨h1, h2⟩
    exact ⟨s.toNat, by omega, by simp; omega⟩

theorem spec_pLedger_eq {l : List impl_Entry} (hl : l.length ≤ 1048576) (hg : ∀ x ∈ l, GoodE x) :
    spec_pLedger l = some (if (ofs l (-1) ⟨⟨1, 1⟩, ⟨0, 1⟩⟩).2 then goS (fun s => ofs l s (ofs l (-1) ⟨⟨1, 1⟩, ⟨0, 1⟩⟩).1) scopes (ofs l (-1) ⟨⟨1, 1⟩, ⟨0, 1⟩⟩).1 else (⟨⟨0, 0⟩, ⟨0, 0⟩⟩, false)) := by
  unfold spec_pLedger
  rw [spec_pNone_eq]
  simp only [Option.bind_some]
  rw [spec_pOf_eq hl hg _ good_none]
  simp only [Option.bind_some]
  have gF := fun h => ofs_good hg (s := -1) good_none h
  generalize ofs l (-1) ⟨⟨1, 1⟩, ⟨0, 1⟩⟩ = F at gF ⊢
  obtain ⟨f, b⟩ := F
  cases b with
  | false => simp
  | true =>
    have gf : GoodL f := gF rfl
    simp only [Bool.not_true, cond_false, if_true]
    rw [loop_list (fun k s => (k, s)) scopes (spec_pLedger_l1 l (f, true)) (stepS (fun s => ofs l s f)) (fun s => some (.inl s)) (fun _ s => GoodL s) (fun k x o hx ho => ?_) (fun s _ => ?_) (fun k x o o' hx ho h => ?_) gf]
    · rw [lfold_goS, Option.bind_some]
      generalize goS (fun s => ofs l s f) scopes f = p
      obtain ⟨u, b⟩ := p
      cases b <;> simp [compR]
    · obtain ⟨rfl, hk⟩ := scopes_get hx
      simp only [spec_pLedger_l1]
      rw [show decide ((k : Int) ≤ 29) = true by simp; omega]
      simp only [cond_true, spec_pOf_eq hl hg _ gf, Option.bind_some, stepS]
      have go := fun h => ofs_good hg (s := (k : Int)) gf h
      generalize ofs l (k : Int) f = q at go ⊢
      obtain ⟨u, b⟩ := q
      cases b with
      | false => simp [nxt]
      | true =>
        have gu : GoodL u := go rfl
        rw [spec_pParallel_eq (by simp) (by simp [ho, gu])]
        simp only [List.foldl_cons, List.foldl_nil, lgr_none ho, Option.bind_some, Bool.not_true, cond_false, if_true, nxt]
        rw [show w64 ((k : Int) + 1) = ((k + 1 : Nat) : Int) by rw [w64_in (by omega) (by omega)]; omega]
    · simp only [spec_pLedger_l1]
      rw [show decide ((scopes.length : Int) ≤ 29) = false by simp [scopes]]
      rfl
    · simp only [stepS] at h
      by_cases hc : (ofs l x f).2 = true
      · simp only [hc, if_true, Option.some.injEq, Sum.inl.injEq] at h
        subst h
        exact lgr_good ho (ofs_good hg gf hc)
      · simp [hc] at h

/-! the program's ledger -/
theorem impl_scopeBefore_eq {l : List impl_Entry} (hl : l.length ≤ 1048576) (s : Int) : impl_scopeBefore l s = some (l.any (fun e => e.Scope == s)) := by
  unfold impl_scopeBefore
  rw [loop_any (l := l) (fun e => e.Scope == s) _ (fun k x hx => ?_) (fun _ => ?_)]
  · by_cases ha : l.any (fun e => e.Scope == s) = true
    · rw [if_pos ha, ha]; rfl
    · rw [if_neg ha]; simp only [Bool.not_eq_true] at ha; rw [ha]; rfl
  · simp only [impl_scopeBefore_l1, lt_ok hx, cond_true, at_ok hx, Option.bind_some, nx_ok hx (by omega)]
    by_cases hs : x.Scope = s
    · simp [hs]
    · simp [beq_no hs]
  · simp only [impl_scopeBefore_l1, lt_end, cond_false]

/-- the scopes that come up, each once -/
def news (pre : List impl_Entry) : List impl_Entry → List Int
  | [] => []
  | e :: r => if e.Scope = -1 ∨ pre.any (fun x => x.Scope == e.Scope) = true then news (pre ++ [e]) r else e.Scope :: news (pre ++ [e]) r

theorem news_mem (s : Int) : ∀ (r pre : List impl_Entry), s ∈ news pre r ↔ s ≠ -1 ∧ (∃ e ∈ r, e.Scope = s) ∧ ¬ ∃ e ∈ pre, e.Scope = s
  | [], pre => by simp [news]
  | e :: r, pre => by
    have ih := news_mem s r (pre ++ [e])
    simp only [news]
    split
    · rename_i h
      rw [ih]
      constructor
      · rintro ⟨h1, ⟨x, hx, hxs⟩, h3⟩
        exact ⟨h1, ⟨x, by simp [hx], hxs⟩, fun ⟨y, hy, hys⟩ => h3 ⟨y, by simp [hy], hys⟩⟩
      · rintro ⟨h1, ⟨x, hx, hxs⟩, h3⟩
        have hne : e.Scope ≠ s := by
          intro he
          rcases h with h | h
          · omega
          · obtain ⟨y, hy, hys⟩ := List.any_eq_true.1 h
            exact h3 ⟨y, hy, by simpa [he] using hys⟩
        refine ⟨h1, ?_, ?_⟩
        · rcases List.mem_cons.1 hx with rfl | hx
          · exact absurd hxs hne
          · exact ⟨x, hx, hxs⟩
        · rintro ⟨y, hy, hys⟩
          rcases List.mem_append.1 hy with hy | hy
          · exact h3 ⟨y, hy, hys⟩
          · simp at hy; subst hy; exact hne hys
    · rename_i h
      simp only [not_or] at h
      rw [List.mem_cons, ih]
      constructor
      · rintro (rfl | ⟨h1, ⟨x, hx, hxs⟩, h3⟩)
        · exact ⟨h.1, ⟨e, by simp, rfl⟩, fun ⟨y, hy, hys⟩ => h.2 (List.any_eq_true.2 ⟨y, hy, by simp [hys]⟩)⟩
        · exact ⟨h1, ⟨x, by simp [hx], hxs⟩, fun ⟨y, hy, hys⟩ => h3 ⟨y, by simp [hy], hys⟩⟩
      · rintro ⟨h1, ⟨x, hx, hxs⟩, h3⟩
        by_cases he : e.Scope = s
        · exact .inl he.symm
        · right
          refine ⟨h1, ?_, ?_⟩
          · rcases List.mem_cons.1 hx with rfl | hx
            · exact absurd hxs he
            · exact ⟨x, hx, hxs⟩
          · rintro ⟨y, hy, hys⟩
            rcases List.mem_append.1 hy with hy | hy
            · exact h3 ⟨y, hy, hys⟩
            · simp at hy; subst hy; exact he hys

def stepN (l : List impl_Entry) (P : Int → impl_Loss × Bool) (k : Nat) (e : impl_Entry) (o : impl_Loss) : Option (impl_Loss ⊕ (impl_Loss ⊕ (impl_Loss × Bool))) :=
  if e.Scope = -1 ∨ (l.take k).any (fun x => x.Scope == e.Scope) = true then some (.inl o) else some (if (P e.Scope).2 then .inl (lgr o (P e.Scope).1) else .inr (.inr (⟨⟨0, 0⟩, ⟨0, 0⟩⟩, false)))

theorem lfold_news (l : List impl_Entry) (P : Int → impl_Loss × Bool) : ∀ (r pre : List impl_Entry) (o : impl_Loss), l = pre ++ r → lfold (stepN l P) (fun s => some (.inl s)) pre.length r o = some (compR (goS P (news pre r) o))
  | [], pre, o, _ => by simp [lfold, news, goS, compR]
  | e :: r, pre, o, h => by
    have ih := fun o => lfold_news l P r (pre ++ [e]) o (by simp [h])
    have ht : l.take pre.length = pre := by rw [h]; simp
    simp only [lfold, stepN, ht, news]
    have e1 : pre.length + 1 = (pre ++ [e]).length := by simp
    by_cases hc : e.Scope = -1 ∨ pre.any (fun x => x.Scope == e.Scope) = true
    · rw [if_pos hc, if_pos hc]; simp only; rw [e1]; exact ih o
    · rw [if_neg hc, if_neg hc]
      simp only [goS]
      by_cases hp : (P e.Scope).2 = true
      · simp only [hp, if_true]; rw [e1]; exact ih _
      · simp [hp, compR]

theorem impl_first_loop {l : List impl_Entry} (hl : l.length ≤ 1048576) (hg : ∀ x ∈ l, GoodE x) {o : impl_Loss} (ho : GoodL o) : loopC (impl_ledgerLoss_l1 l) (0, o) = some (compR (ofs l (-1) o)) := by
  rw [loop_list (fun k s => (k, s)) l (impl_ledgerLoss_l1 l) (stepG (⟨⟨0, 0⟩, ⟨0, 0⟩⟩, false) (-1)) (fun s => some (.inl s)) (fun _ s => GoodL s) (fun k x o hx ho => ?_) (fun s _ => ?_) (fun k x o o' hx ho h => stepG_good ho (hg x (List.mem_of_getElem? hx)) h) ho]
  · rw [lfold_of]
    unfold compR
    by_cases h : (ofs l (-1) o).2 = true
    · simp [h]
    · simp only [Bool.not_eq_true] at h
      rw [ofs_bad h]
      try simp
  · have gx := hg x (List.mem_of_getElem? hx)
    simp only [impl_ledgerLoss_l1, lt_ok hx, cond_true, at_ok hx, Option.bind_some, impl_composed_eq ho gx.2.2, nx_ok hx (by omega), stepG]
    by_cases hs : x.Scope = -1
    · simp only [hs, beq_self_eq_true, cond_true, if_true]
      cases hc : (comp o x.Loss).2 <;> simp [nxt]
    · simp [hs, nxt, beq_no hs]
  · simp only [impl_ledgerLoss_l1, lt_end, cond_false]; rfl

theorem impl_own_loop {l : List impl_Entry} (hl : l.length ≤ 1048576) (hg : ∀ x ∈ l, GoodE x) (e : impl_Entry) {o : impl_Loss} (ho : GoodL o) :
    loopC (impl_ledgerLoss_l3 l e) (0, o) = some (if (ofs l e.Scope o).2 then .inl (ofs l e.Scope o).1 else .inr (.inr (.done (.inr (⟨⟨0, 0⟩, ⟨0, 0⟩⟩, false))))) := by
  rw [loop_list (fun k s => (k, s)) l (impl_ledgerLoss_l3 l e) (stepG (.inr (.done (.inr (⟨⟨0, 0⟩, ⟨0, 0⟩⟩, false)))) e.Scope) (fun s => some (.inl s)) (fun _ s => GoodL s) (fun k x o hx ho => ?_) (fun s _ => ?_) (fun k x o o' hx ho h => stepG_good ho (hg x (List.mem_of_getElem? hx)) h) ho]
  · rw [lfold_of]
  · have gx := hg x (List.mem_of_getElem? hx)
    simp only [impl_ledgerLoss_l3, lt_ok hx, cond_true, at_ok hx, Option.bind_some, impl_composed_eq ho gx.2.2, nx_ok hx (by omega), stepG]
    by_cases hs : x.Scope = e.Scope
    · simp only [hs, beq_self_eq_true, cond_true, if_true]
      cases hc : (comp o x.Loss).2 <;> simp [nxt]
    · simp [hs, nxt, beq_no hs]
  · simp only [impl_ledgerLoss_l3, lt_end, cond_false]; rfl

theorem impl_ledgerLoss_eq {l : List impl_Entry} (hl : l.length ≤ 1048576) (hg : ∀ x ∈ l, GoodE x) :
    impl_ledgerLoss l = some (if (ofs l (-1) ⟨⟨1, 1⟩, ⟨0, 1⟩⟩).2 then goS (fun s => ofs l s (ofs l (-1) ⟨⟨1, 1⟩, ⟨0, 1⟩⟩).1) (news [] l) (ofs l (-1) ⟨⟨1, 1⟩, ⟨0, 1⟩⟩).1 else (⟨⟨0, 0⟩, ⟨0, 0⟩⟩, false)) := by
  unfold impl_ledgerLoss
  rw [impl_NoLoss_eq]
  simp only [Option.bind_some]
  rw [impl_first_loop hl hg good_none, Option.bind_some]
  have gF := fun h => ofs_good hg (s := -1) good_none h
  have bF := fun h => ofs_bad (l := l) (s := -1) (o := ⟨⟨1, 1⟩, ⟨0, 1⟩⟩) h
  generalize ofs l (-1) ⟨⟨1, 1⟩, ⟨0, 1⟩⟩ = F at gF bF ⊢
  obtain ⟨f, b⟩ := F
  cases b with
  | false =>
    have := bF rfl
    simp only [Prod.mk.injEq, and_true] at this
    subst this
    simp [compR]
  | true =>
    have gf : GoodL f := gF rfl
    simp only [compR, if_true]
    rw [loop_list (fun k s => (k, s)) l (impl_ledgerLoss_l2 l f) (stepN l (fun s => ofs l s f)) (fun s => some (.inl s)) (fun _ s => GoodL s) (fun k x o hx ho => ?_) (fun s _ => ?_) (fun k x o o' hx ho h => ?_) gf]
    · have e0 := lfold_news l (fun s => ofs l s f) l [] f (by simp)
      rw [show ([] : List impl_Entry).length = 0 from rfl] at e0
      rw [e0, Option.bind_some]
      generalize goS (fun s => ofs l s f) (news [] l) f = p
      obtain ⟨u, b⟩ := p
      cases b <;> simp [compR]
    · have hlt := (List.getElem?_eq_some_iff.1 hx).1
      simp only [impl_ledgerLoss_l2, lt_ok hx, cond_true, at_ok hx, Option.bind_some, goSub_take hx, impl_own_loop hl hg x gf, nx_ok hx (by omega), stepN]
      rw [impl_scopeBefore_eq (by simp; omega)]
      have go := fun h => ofs_good hg (s := x.Scope) gf h
      generalize ofs l x.Scope f = q at go ⊢
      obtain ⟨u, b⟩ := q
      by_cases hs : x.Scope = -1
      · simp [hs, nxt]
      · simp only [hs, false_or, show (x.Scope == -1) = false by simpa using hs, cond_false, Option.bind_some]
        cases ha : (l.take k).any (fun y => y.Scope == x.Scope) with
        | true => simp [nxt]
        | false =>
          cases b with
          | false => simp [nxt]
          | true => simp [nxt, impl_greatest_eq ho (go rfl)]
    · simp only [impl_ledgerLoss_l2, lt_end, cond_false]; rfl
    · unfold stepN at h
      split at h
      · simp only [Option.some.injEq, Sum.inl.injEq] at h
        subst h
        exact ho
      · by_cases hc : (ofs l x.Scope f).2 = true
        · simp only [hc, if_true, Option.some.injEq, Sum.inl.injEq] at h
          subst h
          exact lgr_good ho (ofs_good hg gf hc)
        · simp [hc] at h

/-- the two ledgers are one -/
theorem ledgers {l : List impl_Entry} (hl : l.length ≤ 1048576) (hg : ∀ x ∈ l, GoodE x) : spec_pLedger l = impl_ledgerLoss l := by
  rw [spec_pLedger_eq hl hg, impl_ledgerLoss_eq hl hg]
  have gF := fun h => ofs_good hg (s := -1) good_none h
  generalize ofs l (-1) ⟨⟨1, 1⟩, ⟨0, 1⟩⟩ = F at gF ⊢
  obtain ⟨f, b⟩ := F
  cases b with
  | false => rfl
  | true =>
    have gf : GoodL f := gF rfl
    simp only [if_true, goS_eq]
    have sub : ∀ s ∈ news [] l, s ∈ scopes := fun s hs => by
      obtain ⟨h1, ⟨e, he, rfl⟩, _⟩ := (news_mem s l []).1 hs
      have := hg e he
      rw [scopes_mem]
      exact ⟨by have := this.1; omega, this.2.1⟩
    have rest : ∀ s ∈ scopes, s ∉ news [] l → ofs l s f = (f, true) := fun s hs hn => by
      have h0 := scopes_mem.1 hs
      have : lossesOf l s = [] := by
        unfold lossesOf
        rw [List.map_eq_nil_iff, List.filter_eq_nil_iff]
        intro e he hc
        exact hn ((news_mem s l []).2 ⟨by omega, ⟨e, he, by simpa using hc⟩, by simp⟩)
      unfold ofs
      rw [this]
      rfl
    by_cases ha : (news [] l).all (fun s => (ofs l s f).2) = true
    · have hall := List.all_eq_true.1 ha
      have ok : ∀ s ∈ scopes, (ofs l s f).2 = true := fun s hs => by
        by_cases hn : s ∈ news [] l
        · exact hall s hn
        · rw [rest s hs hn]
      rw [if_pos ha, if_pos (List.all_eq_true.2 ok)]
      have hm : ∀ {S : List Int}, (∀ s ∈ S, (ofs l s f).2 = true) → ∀ x ∈ S.map (fun s => (ofs l s f).1), GoodL x := fun h x hx => by
        obtain ⟨s, hs, rfl⟩ := List.mem_map.1 hx
        exact ofs_good hg gf (h s hs)
      rw [foldl_set gf (hm ok) (hm hall) (fun x hx => ?_) (fun x hx => ?_)]
      · obtain ⟨s, hs, rfl⟩ := List.mem_map.1 hx
        by_cases hn : s ∈ news [] l
        · exact List.mem_cons_of_mem _ (List.mem_map.2 ⟨s, hn, rfl⟩)
        · rw [rest s hs hn]; simp
      · obtain ⟨s, hs, rfl⟩ := List.mem_map.1 hx
        exact List.mem_cons_of_mem _ (List.mem_map.2 ⟨s, sub s hs, rfl⟩)
    · rw [if_neg ha, if_neg]
      intro hc
      exact ha (List.all_eq_true.2 fun s hs => List.all_eq_true.1 hc s (sub s hs))

theorem ledger_some {l : List impl_Entry} (hl : l.length ≤ 1048576) (hg : ∀ x ∈ l, GoodE x) : ∃ p, impl_ledgerLoss l = some p := ⟨_, impl_ledgerLoss_eq hl hg⟩

/- Plain laws: ledgers. -/
import Derived.Test.YtdbgmkfniichdaaDPLos
import Derived.Test.YtdbgmkfniichdaaDPEnt
import Derived.Test.YtdbgmkfniichdaaDPCur
namespace Go.Gx.F
open Go.Gx
set_option linter.all false

/-! the order of losses -/
def lle (a b : impl_Loss) : Prop := cmp a.Ratio b.Ratio ≤ 0 ∧ cmp a.Rho b.Rho ≤ 0

theorem within_iff {b x : impl_Loss} : within b x = true ↔ lle x b := by
  unfold within lle
  simp

theorem lle_refl (a : impl_Loss) : lle a a := ⟨cmp_self _, cmp_self _⟩

theorem lle_trans {a b c : impl_Loss} (ha : GoodL a) (hb : GoodL b) (hc : GoodL c) (h1 : lle a b) (h2 : lle b c) : lle a c :=
  ⟨cmp_trans ha.1 hb.1 hc.1 h1.1 h2.1, cmp_trans ha.2.1 hb.2.1 hc.2.1 h1.2 h2.2⟩

theorem comp_parts {a x : impl_Loss} (h : (comp a x).2 = true) : (fmul a.Ratio x.Ratio).2 = true ∧ (fadd a.Rho x.Rho).2 = true ∧ (comp a x).1 = ⟨(fmul a.Ratio x.Ratio).1, (fadd a.Rho x.Rho).1⟩ := by
  unfold comp at h ⊢
  split at h
  · rename_i hc; rw [if_pos hc]; exact ⟨hc.1, hc.2, rfl⟩
  · cases h

theorem mul_up {a b x : impl_Frac} (ha : Good a) (hb : Good b) (hx : Good x) (hxp : 0 < x.Num) (hab : cmp a b ≤ 0) (h1 : (fmul a x).2 = true) (h2 : (fmul b x).2 = true) : cmp (fmul a x).1 (fmul b x).1 ≤ 0 := by
  have g1 := fmul_good ha hx h1
  have g2 := fmul_good hb hx h2
  have e1 := fmul_val ha hx h1
  have e2 := fmul_val hb hx h2
  generalize (fmul a x).1 = u at e1 g1 ⊢
  generalize (fmul b x).1 = v at e2 g2 ⊢
  rw [cmp_le] at hab ⊢
  have pa := den_pos ha; have pb := den_pos hb; have px := den_pos hx; have pu := den_pos g1; have pv := den_pos g2
  have q : 0 ≤ (b.Num * a.Den - a.Num * b.Den) * (x.Num * x.Den * u.Den * v.Den) := Int.mul_nonneg (by omega) (Int.mul_nonneg (Int.mul_nonneg (Int.mul_nonneg (by omega) (by omega)) (by omega)) (by omega))
  have e : (v.Num * u.Den - u.Num * v.Den) * (a.Den * b.Den * x.Den * x.Den) = (b.Num * a.Den - a.Num * b.Den) * (x.Num * x.Den * u.Den * v.Den) := by grind
  have pd : 0 < a.Den * b.Den * x.Den * x.Den := Int.mul_pos (Int.mul_pos (Int.mul_pos pa pb) px) px
  have h0 : 0 * (a.Den * b.Den * x.Den * x.Den) ≤ (v.Num * u.Den - u.Num * v.Den) * (a.Den * b.Den * x.Den * x.Den) := by rw [e, Int.zero_mul]; exact q
  have := Int.le_of_mul_le_mul_right h0 pd
  omega

theorem add_up {a b x : impl_Frac} (ha : Good a) (hb : Good b) (hx : Good x) (hab : cmp a b ≤ 0) (h1 : (fadd a x).2 = true) (h2 : (fadd b x).2 = true) : cmp (fadd a x).1 (fadd b x).1 ≤ 0 := by
  have g1 := fadd_good ha hx h1
  have g2 := fadd_good hb hx h2
  have e1 := fadd_val ha hx h1
  have e2 := fadd_val hb hx h2
  generalize (fadd a x).1 = u at e1 g1 ⊢
  generalize (fadd b x).1 = v at e2 g2 ⊢
  rw [cmp_le] at hab ⊢
  have pa := den_pos ha; have pb := den_pos hb; have px := den_pos hx; have pu := den_pos g1; have pv := den_pos g2
  have q : 0 ≤ (b.Num * a.Den - a.Num * b.Den) * (x.Den * x.Den * u.Den * v.Den) := Int.mul_nonneg (by omega) (Int.mul_nonneg (Int.mul_nonneg (Int.mul_nonneg (by omega) (by omega)) (by omega)) (by omega))
  have e : (v.Num * u.Den - u.Num * v.Den) * (a.Den * b.Den * x.Den * x.Den) = (b.Num * a.Den - a.Num * b.Den) * (x.Den * x.Den * u.Den * v.Den) := by grind
  have pd : 0 < a.Den * b.Den * x.Den * x.Den := Int.mul_pos (Int.mul_pos (Int.mul_pos pa pb) px) px
  have h0 : 0 * (a.Den * b.Den * x.Den * x.Den) ≤ (v.Num * u.Den - u.Num * v.Den) * (a.Den * b.Den * x.Den * x.Den) := by rw [e, Int.zero_mul]; exact q
  have := Int.le_of_mul_le_mul_right h0 pd
  omega

theorem comp_up {a b x : impl_Loss} (ha : GoodL a) (hb : GoodL b) (hx : GoodL x) (hab : lle a b) (h1 : (comp a x).2 = true) (h2 : (comp b x).2 = true) : lle (comp a x).1 (comp b x).1 := by
  obtain ⟨p1, p2, p3⟩ := comp_parts h1
  obtain ⟨q1, q2, q3⟩ := comp_parts h2
  rw [p3, q3]
  have hxp : 0 < x.Ratio.Num := by have := den_pos hx.1; have := hx.2.2.1; omega
  exact ⟨mul_up ha.1 hb.1 hx.1 hxp hab.1 p1 q1, add_up ha.2.1 hb.2.1 hx.2.1 hab.2 p2 q2⟩

theorem comp_grow {a x : impl_Loss} (ha : GoodL a) (hx : GoodL x) (h : (comp a x).2 = true) : lle a (comp a x).1 := by
  have hg := comp_good ha hx h
  obtain ⟨p1, p2, p3⟩ := comp_parts h
  rw [p3] at hg ⊢
  have e1 := fmul_val ha.1 hx.1 p1
  have e2 := fadd_val ha.2.1 hx.2.1 p2
  have gu : Good (fmul a.Ratio x.Ratio).1 := hg.1
  have gv : Good (fadd a.Rho x.Rho).1 := hg.2.1
  refine ⟨?_, ?_⟩
  · simp only
    generalize (fmul a.Ratio x.Ratio).1 = u at e1 gu ⊢
    rw [cmp_le]
    have pa := den_pos ha.1; have px := den_pos hx.1; have pu := den_pos gu
    have hn : 0 ≤ a.Ratio.Num := by have := ha.2.2.1; omega
    have q : 0 ≤ (x.Ratio.Num - x.Ratio.Den) * (a.Ratio.Num * u.Den * a.Ratio.Den) := Int.mul_nonneg (by have := hx.2.2.1; omega) (Int.mul_nonneg (Int.mul_nonneg hn (by omega)) (by omega))
    have e : (u.Num * a.Ratio.Den - a.Ratio.Num * u.Den) * (a.Ratio.Den * x.Ratio.Den) = (x.Ratio.Num - x.Ratio.Den) * (a.Ratio.Num * u.Den * a.Ratio.Den) := by grind
    have pd : 0 < a.Ratio.Den * x.Ratio.Den := Int.mul_pos pa px
    have h0 : 0 * (a.Ratio.Den * x.Ratio.Den) ≤ (u.Num * a.Ratio.Den - a.Ratio.Num * u.Den) * (a.Ratio.Den * x.Ratio.Den) := by rw [e, Int.zero_mul]; exact q
    have := Int.le_of_mul_le_mul_right h0 pd
    omega
  · simp only
    generalize (fadd a.Rho x.Rho).1 = u at e2 gv ⊢
    rw [cmp_le]
    have pa := den_pos ha.2.1; have px := den_pos hx.2.1; have pu := den_pos gv
    have q : 0 ≤ x.Rho.Num * (a.Rho.Den * a.Rho.Den * u.Den) := Int.mul_nonneg hx.2.2.2 (Int.mul_nonneg (Int.mul_nonneg (by omega) (by omega)) (by omega))
    have e : (u.Num * a.Rho.Den - a.Rho.Num * u.Den) * (a.Rho.Den * x.Rho.Den) = x.Rho.Num * (a.Rho.Den * a.Rho.Den * u.Den) := by grind
    have pd : 0 < a.Rho.Den * x.Rho.Den := Int.mul_pos pa px
    have h0 : 0 * (a.Rho.Den * x.Rho.Den) ≤ (u.Num * a.Rho.Den - a.Rho.Num * u.Den) * (a.Rho.Den * x.Rho.Den) := by rw [e, Int.zero_mul]; exact q
    have := Int.le_of_mul_le_mul_right h0 pd
    omega

theorem compL_up : ∀ (L : List impl_Loss) (a b : impl_Loss), GoodL a → GoodL b → (∀ x ∈ L, GoodL x) → lle a b → (compL L a).2 = true → (compL L b).2 = true → lle (compL L a).1 (compL L b).1
  | [], a, b, _, _, _, h, _, _ => h
  | x :: L, a, b, ha, hb, hL, h, h1, h2 => by
    simp only [compL] at h1 h2 ⊢
    by_cases c1 : (comp a x).2 = true
    · by_cases c2 : (comp b x).2 = true
      · rw [if_pos c1] at h1 ⊢
        rw [if_pos c2] at h2 ⊢
        have hx := hL x (by simp)
        exact compL_up L _ _ (comp_good ha hx c1) (comp_good hb hx c2) (fun y hy => hL y (by simp [hy])) (comp_up ha hb hx h c1 c2) h1 h2
      · rw [if_neg c2] at h2; cases h2
    · rw [if_neg c1] at h1; cases h1

theorem compL_more : ∀ (L : List impl_Loss) (x a : impl_Loss), GoodL a → GoodL x → (∀ y ∈ L, GoodL y) → (compL (L ++ [x]) a).2 = true → (compL L a).2 = true ∧ lle (compL L a).1 (compL (L ++ [x]) a).1
  | [], x, a, ha, hx, _, h => by
    simp only [compL, List.nil_append] at h ⊢
    by_cases c : (comp a x).2 = true
    · rw [if_pos c]; exact ⟨trivial, comp_grow ha hx c⟩
    · rw [if_neg c] at h; cases h
  | y :: L, x, a, ha, hx, hL, h => by
    simp only [compL, List.cons_append] at h ⊢
    by_cases c : (comp a y).2 = true
    · rw [if_pos c] at h ⊢
      rw [if_pos c]
      exact compL_more L x _ (comp_good ha (hL y (by simp)) c) hx (fun z hz => hL z (by simp [hz])) h
    · rw [if_neg c] at h; cases h

/-- one entry more makes no scope's loss smaller -/
theorem ofs_more {l : List impl_Entry} {x : impl_Entry} (hg : ∀ e ∈ l, GoodE e) (hx : GoodE x) (s : Int) {a b : impl_Loss} (ha : GoodL a) (hb : GoodL b) (hab : lle a b) (h1 : (ofs l s a).2 = true) (h2 : (ofs (l ++ [x]) s b).2 = true) : lle (ofs l s a).1 (ofs (l ++ [x]) s b).1 := by
  have hL : ∀ y ∈ lossesOf l s, GoodL y := fun y hy => by
    simp only [lossesOf, List.mem_map, List.mem_filter] at hy
    obtain ⟨e, ⟨he, _⟩, rfl⟩ := hy
    exact (hg e he).2.2
  unfold ofs at h1 h2 ⊢
  by_cases hs : x.Scope = s
  · have e : lossesOf (l ++ [x]) s = lossesOf l s ++ [x.Loss] := by simp [lossesOf, hs]
    rw [e] at h2 ⊢
    obtain ⟨c1, c2⟩ := compL_more _ x.Loss b hb hx.2.2 hL h2
    exact lle_trans (compL_good _ _ ha hL h1) (compL_good _ _ hb hL c1) (compL_good _ _ hb (fun y hy => by
      rcases List.mem_append.1 hy with hy | hy
      · exact hL y hy
      · simp at hy; subst hy; exact hx.2.2) h2) (compL_up _ _ _ ha hb hL hab h1 c1) c2
  · have e : lossesOf (l ++ [x]) s = lossesOf l s := by simp [lossesOf, hs]
    rw [e] at h2 ⊢
    exact compL_up _ _ _ ha hb hL hab h1 h2

theorem fmax_up {s s' : impl_Frac} {L L' : List impl_Frac} (hs : Good s) (hs' : Good s') (hL : ∀ x ∈ L, Good x) (hL' : ∀ x ∈ L', Good x) (h : ∀ x ∈ s :: L, ∃ y ∈ s' :: L', cmp x y ≤ 0) : cmp (fmax s L) (fmax s' L') ≤ 0 := by
  obtain ⟨g, m, _⟩ := fmax_spec L s hs hL
  obtain ⟨g', _, u'⟩ := fmax_spec L' s' hs' hL'
  obtain ⟨y, hy, hle⟩ := h _ m
  have gy : Good y := by
    rcases List.mem_cons.1 hy with rfl | hy
    · exact hs'
    · exact hL' y hy
  exact cmp_trans g gy g' hle (u' y hy)

/-- what the loss of a ledger is, where there is one -/
theorem ledger_form {l : List impl_Entry} (hl : l.length ≤ 1048576) (hg : ∀ x ∈ l, GoodE x) {p : impl_Loss × Bool} (h : impl_ledgerLoss l = some p) (hp : p.2 = true) :
    ∃ f, ofs l (-1) ⟨⟨1, 1⟩, ⟨0, 1⟩⟩ = (f, true) ∧ GoodL f ∧ (∀ s ∈ scopes, (ofs l s f).2 = true) ∧ p.1 = (scopes.map fun s => (ofs l s f).1).foldl lgr f := by
  rw [← ledgers hl hg, spec_pLedger_eq hl hg] at h
  have gF := fun h => ofs_good hg (s := -1) good_none h
  generalize ofs l (-1) ⟨⟨1, 1⟩, ⟨0, 1⟩⟩ = F at gF h ⊢
  obtain ⟨f, b⟩ := F
  cases b with
  | false =>
    simp only [Bool.false_eq_true, if_false, Option.some.injEq] at h
    subst h
    cases hp
  | true =>
    simp only [if_true, goS_eq, Option.some.injEq] at h
    by_cases ha : scopes.all (fun s => (ofs l s f).2) = true
    · rw [if_pos ha] at h
      subst h
      exact ⟨f, rfl, gF rfl, fun s hs => List.all_eq_true.1 ha s hs, rfl⟩
    · rw [if_neg ha] at h
      subst h
      cases hp

theorem ledger_mono {l : List impl_Entry} {x : impl_Entry} (hl : l.length ≤ 1000000) (hg : ∀ e ∈ l, GoodE e) (hx : GoodE x) {p q : impl_Loss × Bool} (h1 : impl_ledgerLoss l = some p) (hp : p.2 = true) (h2 : impl_ledgerLoss (l ++ [x]) = some q) (hq : q.2 = true) : lle p.1 q.1 := by
  have hg' : ∀ e ∈ l ++ [x], GoodE e := fun y hy => by
    rcases List.mem_append.1 hy with hy | hy
    · exact hg y hy
    · simp at hy; subst hy; exact hx
  obtain ⟨f, e1, gf, a1, r1⟩ := ledger_form (by omega) hg h1 hp
  obtain ⟨f', e2, gf', a2, r2⟩ := ledger_form (by simp; omega) hg' h2 hq
  have hff : lle f f' := by
    have := ofs_more hg hx (-1) good_none good_none (lle_refl _) (by rw [e1]) (by rw [e2])
    rw [e1, e2] at this
    exact this
  have each : ∀ s ∈ scopes, lle (ofs l s f).1 (ofs (l ++ [x]) s f').1 := fun s hs => ofs_more hg hx s gf gf' hff (a1 s hs) (a2 s hs)
  have g1 : ∀ y ∈ scopes.map (fun s => (ofs l s f).1), GoodL y := fun y hy => by
    obtain ⟨s, hs, rfl⟩ := List.mem_map.1 hy; exact ofs_good hg gf (a1 s hs)
  have g2 : ∀ y ∈ scopes.map (fun s => (ofs (l ++ [x]) s f').1), GoodL y := fun y hy => by
    obtain ⟨s, hs, rfl⟩ := List.mem_map.1 hy; exact ofs_good hg' gf' (a2 s hs)
  rw [r1, r2, foldl_lgr, foldl_lgr]
  have md : ∀ {A : List impl_Loss} (F : impl_Loss → impl_Frac), (∀ z, GoodL z → Good (F z)) → (∀ y ∈ A, GoodL y) → ∀ y ∈ A.map F, Good y := fun F hF hA y hy => by
    obtain ⟨z, hz, rfl⟩ := List.mem_map.1 hy; exact hF z (hA z hz)
  refine ⟨fmax_up gf.1 gf'.1 (md (·.Ratio) (fun _ h => h.1) g1) (md (·.Ratio) (fun _ h => h.1) g2) (fun y hy => ?_), fmax_up gf.2.1 gf'.2.1 (md (·.Rho) (fun _ h => h.2.1) g1) (md (·.Rho) (fun _ h => h.2.1) g2) (fun y hy => ?_)⟩
  · rcases List.mem_cons.1 hy with rfl | hy
    · exact ⟨_, List.mem_cons_self, hff.1⟩
    · simp only [List.map_map, List.mem_map] at hy
      obtain ⟨s, hs, rfl⟩ := hy
      exact ⟨(ofs (l ++ [x]) s f').1.Ratio, by simp only [List.map_map, List.mem_cons, List.mem_map]; exact .inr ⟨s, hs, rfl⟩, (each s hs).1⟩
  · rcases List.mem_cons.1 hy with rfl | hy
    · exact ⟨_, List.mem_cons_self, hff.2⟩
    · simp only [List.map_map, List.mem_map] at hy
      obtain ⟨s, hs, rfl⟩ := hy
      exact ⟨(ofs (l ++ [x]) s f').1.Rho, by simp only [List.map_map, List.mem_cons, List.mem_map]; exact .inr ⟨s, hs, rfl⟩, (each s hs).2⟩

/-! the laws' own functions -/
def ledR (l : List impl_Entry) (p : impl_Loss × Bool) : Prop := impl_LedgerLoss l = some p ∧ spec_LedgerLoss l = some p ∧ (p.2 = true → (∀ x ∈ l, GoodE x) ∧ impl_ledgerLoss l = some p)

theorem ledR_ex {l : List impl_Entry} (hl : l.length ≤ 1048576) : ∃ p, ledR l p := by
  unfold ledR impl_LedgerLoss spec_LedgerLoss
  rw [spec_pEntries_eq hl, impl_areEntries_eq hl]
  cases hg : goodEs l with
  | false => exact ⟨(⟨⟨0, 0⟩, ⟨0, 0⟩⟩, false), by simp, by simp, fun h => by cases h⟩
  | true =>
    have hm := goodEs_mem hg
    obtain ⟨p, hp⟩ := ledger_some hl hm
    exact ⟨p, by simp [hp], by simp [ledgers hl hm, hp], fun _ => ⟨hm, hp⟩⟩

theorem goodEs_of {l : List impl_Entry} (hl : l.length ≤ 30) (hg : ∀ x ∈ l, GoodE x) : goodEs l = true := by
  unfold goodEs
  simp only [Bool.and_eq_true, List.all_eq_true, decide_eq_true_eq]
  exact ⟨hg, hl⟩

/-- what is accepted -/
structure Acc (b : impl_Loss) (l : List impl_Entry) (k : Nat) (s : List Int × List impl_Entry) : Prop where
  len : s.1.length = s.2.length
  le : s.2.length ≤ k
  good : ∀ x ∈ s.2, GoodE x
  idx : ∀ (j : Nat) (i : Int), s.1[j]? = some i → ∃ n : Nat, i = (n : Int) ∧ l[n]? = s.2[j]?
  fits : s.2 = [] ∨ ∃ p, impl_ledgerLoss s.2 = some p ∧ p.2 = true ∧ within b p.1 = true

theorem acc_step {b : impl_Loss} {l : List impl_Entry} {k : Nat} {x : impl_Entry} {s s' : List Int × List impl_Entry} (hx : l[k]? = some x) (gx : GoodE x) (ha : Acc b l k s) (h : stepA b k x s = some (.inl s')) : Acc b l (k + 1) s' := by
  unfold stepA at h
  split at h
  · cases h
  · rename_i p hp
    simp only [Option.some.injEq, Sum.inl.injEq] at h
    subst h
    split
    · rename_i hc
      simp only [Bool.and_eq_true] at hc
      refine ⟨by simp [ha.len], by have := ha.le; simp; omega, fun y hy => ?_, fun j i hj => ?_, .inr ⟨p, hp, hc.1, hc.2⟩⟩
      · rcases List.mem_append.1 hy with hy | hy
        · exact ha.good y hy
        · simp at hy; subst hy; exact gx
      · simp only at hj ⊢
        by_cases hjl : j < s.1.length
        · rw [List.getElem?_append_left hjl] at hj
          obtain ⟨n, h1, h2⟩ := ha.idx j i hj
          exact ⟨n, h1, by rw [h2, List.getElem?_append_left (by rw [← ha.len]; exact hjl)]⟩
        · have hjj : j = s.1.length := by
            have := (List.getElem?_eq_some_iff.1 hj).1
            simp at this
            omega
          subst hjj
          rw [List.getElem?_append_right (Nat.le_refl _)] at hj
          simp at hj
          subst hj
          exact ⟨k, rfl, by rw [hx, ha.len, List.getElem?_append_right (Nat.le_refl _)]; simp⟩
    · exact ⟨ha.len, by have := ha.le; omega, ha.good, ha.idx, ha.fits⟩

theorem acc_all {b : impl_Loss} {l : List impl_Entry} : ∀ (r pre : List impl_Entry) (s : List Int × List impl_Entry) (q : List Int), l = pre ++ r → (∀ x ∈ r, GoodE x) → Acc b l pre.length s → lfold (stepA b) (fun s => some s.1) pre.length r s = some q → ∃ K, Acc b l l.length (q, K)
  | [], pre, s, q, h, _, ha, hq => by
    simp only [lfold, Option.some.injEq] at hq
    subst hq
    have : l.length = pre.length := by rw [h]; simp
    exact ⟨s.2, by rw [this]; exact ha⟩
  | x :: r, pre, s, q, h, hr, ha, hq => by
    have hx : l[pre.length]? = some x := by rw [h]; simp
    simp only [lfold] at hq
    split at hq
    · cases hq
    · rename_i s' hs
      exact acc_all r (pre ++ [x]) s' q (by simp [h]) (fun y hy => hr y (by simp [hy])) (by simpa using acc_step hx (hr x (by simp)) ha hs) (by simpa using hq)
    · rename_i o hs
      unfold stepA at hs
      split at hs <;> simp at hs

theorem accepts_acc {b : impl_Loss} {l : List impl_Entry} (hl : l.length ≤ 1048576) : ∃ p, spec_AcceptEntries b l = some p ∧ impl_AcceptEntries b l = some p ∧ p.1.length ≤ 1048576 ∧ (p.2 = true → GoodL b ∧ l.length ≤ 30 ∧ ∃ K, Acc b l l.length (p.1, K)) := by
  unfold spec_AcceptEntries impl_AcceptEntries
  rw [spec_pGood_eq, impl_IsLoss_eq]
  simp only [Option.bind_some, spec_pEntries_eq hl, impl_areEntries_eq hl]
  by_cases hb : GoodL b
  · cases hg : goodEs l with
    | false => exact ⟨([], false), by simp [hb], by simp [hb], by simp, fun h => by cases h⟩
    | true =>
      have hm := goodEs_mem hg
      have h30 := goodEs_len hg
      obtain ⟨r, h1, h2, h3⟩ := accepts hb h30 hm
      refine ⟨(r, true), by simp [hb, h1], by simp [hb, h2], by simp only; omega, fun _ => ⟨hb, h30, ?_⟩⟩
      -- the loop again, as a fold
      have s2 := loop_list (fun k (s : List Int × List impl_Entry) => (s.2, s.1, k)) l (impl_AcceptEntries_l1 b l) (stepA b) (fun s => some s.1) (fun k s => Acc b l k s) (fun k x s hx hs => ?_) (fun s _ => ?_) (fun k x s s' hx hs h => acc_step hx (hm x (List.mem_of_getElem? hx)) hs h) (s := ([], [])) ⟨rfl, by simp, by simp, by simp, .inl rfl⟩
      · rw [h2] at s2
        exact acc_all l [] ([], []) r rfl hm ⟨rfl, by simp, by simp, by simp, .inl rfl⟩ s2.symm
      · have hlt := (List.getElem?_eq_some_iff.1 hx).1
        have hle2 := hs.le
        have hle1 := hs.len
        have hg' : ∀ y ∈ s.2 ++ [x], GoodE y := fun y hy => by
          rcases List.mem_append.1 hy with hy | hy
          · exact hs.good y hy
          · simp at hy; subst hy; exact hm _ (List.mem_of_getElem? hx)
        have hle : (s.2 ++ [x]).length ≤ 1048576 := by simp; omega
        obtain ⟨p, hp⟩ := ledger_some hle hg'
        have a0 : goSub3 s.2 0 (goLen s.2) (goLen s.2) = some s.2 := by simp [goSub3, goLen]
        have a1 : goApp 40 s.2 [x] = some (s.2 ++ [x]) := goApp_ok (by simp; omega)
        have a2 : goApp 8 s.1 [(k : Int)] = some (s.1 ++ [(k : Int)]) := goApp_ok (by simp; omega)
        simp only [impl_AcceptEntries_l1, lt_ok hx, cond_true, at_ok hx, Option.bind_some, a0, a1, a2, hp, nx_ok hx (by omega), stepA]
        cases hq : p.2 with
        | false => simp [nxt]
        | true =>
          simp only [cond_true, impl_isWithin_eq hb (ledger_good hle hg' hp hq), Option.bind_some]
          cases within b p.1 <;> simp [nxt]
      · simp only [impl_AcceptEntries_l1, lt_end, cond_false]; rfl
  · exact ⟨([], false), by simp [hb], by simp [hb], by simp, fun h => by cases h⟩

theorem mapO_get {α β : Type} (Kl : List β) : ∀ (r : List α) (k : Nat), k + r.length = Kl.length → mapO (fun j _ => Kl[j]?) k r = some (Kl.drop k)
  | [], k, h => by simp only [mapO]; rw [List.drop_of_length_le (by simp at h; omega)]
  | x :: r, k, h => by
    simp only [List.length_cons] at h
    have hlt : k < Kl.length := by omega
    have e : Kl[k]? = some Kl[k] := by simp [hlt]
    simp only [mapO, e, mapO_get Kl r (k + 1) (by omega)]
    rw [List.drop_eq_getElem_cons hlt]

theorem kept_loop {b : impl_Loss} {l : List impl_Entry} {q : List Int} {Kl : List impl_Entry} {ok : Bool} (h30 : l.length ≤ 30) (ha : Acc b l l.length (q, Kl)) : loopC (laws_FnLedgers_l1 (b, l) (q, ok)) ([], 0) = some Kl := by
  have hlen : q.length = Kl.length := ha.len
  have hle : Kl.length ≤ l.length := ha.le
  have h := loop_app (fun k out => (out, k)) q (fun j _ => Kl[j]?) [] (fun r => r) (laws_FnLedgers_l1 (b, l) (q, ok)) (fun k x out hx ho => ?_) (fun out _ => ?_)
  · rw [h, mapO_get Kl q 0 (by omega)]
    rfl
  · have hlt := (List.getElem?_eq_some_iff.1 hx).1
    obtain ⟨n, rfl, hn⟩ := ha.idx k x hx
    simp only at hn
    have hk : k < Kl.length := by omega
    have e : Kl[k]? = some Kl[k] := by simp [hk]
    rw [e] at hn
    simp only [laws_FnLedgers_l1, lt_ok hx, cond_true, at_ok hx, Option.bind_some, at_ok hn, goApp_ok (show (out.length + [Kl[k]].length) * 40 ≤ 140737488355328 by simp; omega), nx_ok hx (by omega), e]
    rfl
  · simp only [laws_FnLedgers_l1, lt_end, cond_false]

theorem laws_qInts_self {l : List Int} (h : l.length ≤ 1048576) : laws_qInts l l = some true := by
  unfold laws_qInts
  rw [loop_all (l := l) (fun _ => true) _ (fun k x hx => ?_) (fun _ => ?_)]
  · simp
  · simp only [laws_qInts_l1, lt_ok hx, cond_true, at_ok hx, Option.bind_some, bne_self_eq_false, cond_false, nx_ok hx (by omega), if_true]
  · simp only [laws_qInts_l1, lt_end, cond_false]

/-! what is drawn -/
theorem entries_loop {k : Int} (h0 : 0 ≤ k) (h1 : k ≤ 7) {c : spec_l1Cur} (hc : CurOk 1000 c) : ∃ r, loopC spec_DrawLedgerLoss_l1 ([], k, c) = some r ∧ r.1.length ≤ 7 ∧ CurOk 500 r.2 := by
  refine loopC_inv (fun s => 0 ≤ s.2.1 ∧ s.2.1 ≤ 7 ∧ (s.1.length : Int) + s.2.1 ≤ 7 ∧ CurOk (500 + 10 * s.2.1.toNat) s.2.2) (fun s => s.2.1.toNat) _ (fun s hs => ?_) ([], k, c) ⟨h0, h1, by simp; omega, hc.le (by simp only; omega)⟩
  obtain ⟨l, k, c⟩ := s
  obtain ⟨a1, a2, a3, a4⟩ := hs
  simp only at a1 a2 a3 a4
  by_cases hk : 0 < k
  · right
    obtain ⟨z, c0, e0, _, k0⟩ := among_ok (n := 500 + 10 * (k - 1).toNat + 8) (a4.le (by omega)) [-1, 0, 1, 1, 29] (by simp) (by simp)
    obtain ⟨x, c1, e1, k1⟩ := loss_ok (n := 500 + 10 * (k - 1).toNat) k0
    have e : spec_DrawLedgerLoss_l1 (l, k, c) = some (.next (l ++ [⟨z, x⟩], k - 1, c1)) := by
      simp only [spec_DrawLedgerLoss_l1, decide_eq_true hk, cond_true, e0, e1, Option.bind_some, goApp_ok (show (l.length + [(⟨z, x⟩ : impl_Entry)].length) * 40 ≤ 140737488355328 by simp; omega), w64_small (show -1000000000000 ≤ k - 1 by omega) (by omega)]
    exact ⟨_, e, ⟨by simp only; omega, by simp only; omega, by simp; omega, k1⟩, by simp only; omega⟩
  · left
    exact ⟨(l, c), by simp only [spec_DrawLedgerLoss_l1, decide_eq_false hk, cond_false], by simp only; omega, a4.le (by omega)⟩

theorem fillE_loop {l : List impl_Entry} (hl : l.length ≤ 7) {c : spec_l1Cur} (hc : CurOk 400 c) : ∃ r, loopC spec_DrawLedgerLoss_l2 (l, c) = some r ∧ r.length ≤ 40 := by
  refine loopC_inv (fun s => s.1.length ≤ 31 ∧ CurOk (100 + 2 * (40 - s.1.length)) s.2) (fun s => 40 - s.1.length) _ (fun s hs => ?_) (l, c) ⟨by simp only; omega, hc.le (by simp only; omega)⟩
  obtain ⟨l, c⟩ := s
  obtain ⟨a1, a2⟩ := hs
  simp only at a1 a2
  obtain ⟨x, c1, e1, x0, x1, _, k1⟩ := pick_ok (n := 100 + 2 * (40 - (l.length + 1))) (a2.le (by omega)) 2 (by omega)
  have hx := x1 (by omega)
  have en : spec_pNone = some ⟨⟨1, 1⟩, ⟨0, 1⟩⟩ := rfl
  by_cases hk : goLen l < 30 + x
  · right
    have e : spec_DrawLedgerLoss_l2 (l, c) = some (.next (l ++ [⟨0, ⟨⟨1, 1⟩, ⟨0, 1⟩⟩⟩], c1)) := by
      simp only [spec_DrawLedgerLoss_l2, e1, Option.bind_some, w64_small (show -1000000000000 ≤ 30 + x by omega) (by omega), decide_eq_true hk, cond_true, en, goApp_ok (show (l.length + [(⟨0, ⟨⟨1, 1⟩, ⟨0, 1⟩⟩⟩ : impl_Entry)].length) * 40 ≤ 140737488355328 by simp; omega)]
    refine ⟨_, e, ⟨?_, ?_⟩, ?_⟩
    · simp only [goLen] at hk; simp; omega
    · simpa using k1
    · simp only [goLen] at hk; simp; omega
  · left
    exact ⟨l, by simp only [spec_DrawLedgerLoss_l2, e1, Option.bind_some, w64_small (show -1000000000000 ≤ 30 + x by omega) (by omega), decide_eq_false hk, cond_false], by omega⟩

theorem DrawLedgerLoss_ok {code : List (K .u8)} (ho : ∀ x ∈ code, Rng.ok x) : ∃ l, spec_DrawLedgerLoss code = some l ∧ l.length ≤ 40 := by
  obtain ⟨x, c1, e1, x0, x1, _, k1⟩ := pick_ok (n := 1000) ((cur_start ho).le (by omega)) 7 (by omega)
  have hx := x1 (by omega)
  obtain ⟨⟨l, c2⟩, e2, l2, k2⟩ := entries_loop x0 (by omega) k1
  simp only at l2 k2
  obtain ⟨y, c3, e3, _, _, _, k3⟩ := pick_ok (n := 400) (k2.le (by omega)) 16 (by omega)
  unfold spec_DrawLedgerLoss
  simp only [e1, e2, e3, Option.bind_some]
  cases h0 : (y == 0) with
  | true =>
    obtain ⟨w, c4, e4, _, k4⟩ := among_ok (n := 100) (k3.le (by omega)) [-2, 30, 3] (by simp) (by simp)
    obtain ⟨z, c5, e5, k5⟩ := anyLoss_ok (n := 10) (k4.le (by omega))
    exact ⟨l ++ [⟨w, z⟩], by simp only [cond_true, e4, e5, Option.bind_some, goApp_ok (show (l.length + [(⟨w, z⟩ : impl_Entry)].length) * 40 ≤ 140737488355328 by simp; omega)], by simp; omega⟩
  | false =>
    cases h1 : (y == 1) with
    | true =>
      obtain ⟨r, e4, hr⟩ := fillE_loop l2 k3
      exact ⟨r, by simp only [cond_true, cond_false, e4, Option.bind_some], hr⟩
    | false => exact ⟨l, by simp only [cond_false, Option.bind_some], by omega⟩

theorem DrawAcceptEntries_ok {code : List (K .u8)} (ho : ∀ x ∈ code, Rng.ok x) : ∃ p, spec_DrawAcceptEntries code = some p ∧ p.2.length ≤ 40 := by
  obtain ⟨b, c1, e1, k1⟩ := budget_ok (n := 100) ((cur_start ho).le (by omega))
  obtain ⟨l, e2, hl⟩ := DrawLedgerLoss_ok ho
  exact ⟨(b, l), by simp only [spec_DrawAcceptEntries, e1, e2, Option.bind_some], hl⟩

theorem none_within {b : impl_Loss} (hb : GoodL b) : within b ⟨⟨1, 1⟩, ⟨0, 1⟩⟩ = true := by
  rw [within_iff]
  refine ⟨?_, ?_⟩
  · rw [cmp_le]; have := hb.2.2.1; simp only; omega
  · rw [cmp_le]; have := hb.2.2.2; simp only; omega

theorem ledger_nil : impl_ledgerLoss [] = some (⟨⟨1, 1⟩, ⟨0, 1⟩⟩, true) := by
  rw [impl_ledgerLoss_eq (by simp) (by simp)]
  simp [ofs, lossesOf, compL, news, goS]

theorem laws_FnLedgers_true (code more : List (K .u8)) (o1 : Rng.ok code) (o2 : Rng.ok more) : laws_FnLedgers code more = some true := by
  unfold laws_FnLedgers
  cases hb : decide (1048576 < w64 (goLen code + goLen more)) with
  | true => rfl
  | false =>
    obtain ⟨⟨b, l⟩, d1, hl⟩ := DrawAcceptEntries_ok o1.2
    simp only at hl
    obtain ⟨e, d2, he⟩ := DrawLedgerLoss_ok o2.2
    obtain ⟨p, p1, p2, p3, p4⟩ := accepts_acc (b := b) (l := l) (by omega)
    obtain ⟨y, y1, y2, y3⟩ := ledR_ex (l := e) (by omega)
    simp only [cond_false, d1, d2, p1, p2, y1, y2, Option.bind_some, bne_self_eq_false, cond_false, beq_self_eq_true, Bool.and_self, Bool.not_true, laws_qInts_self p3]
    -- what is kept
    have last : (cond (!p.2) (some true) ((loopC (laws_FnLedgers_l1 (b, l) p) (([] : List impl_Entry), 0)).bind fun kept_45 => ((impl_LedgerLoss kept_45).bind fun t_47 => ((impl_IsWithin b t_47.1).bind fun t_50 => (((cond t_47.2 (cond t_50.2 (some t_50.1) (some false)) (some false)) : Option (Bool)).bind fun t_51 => some t_51)))) : Option Bool) = some true := by
      obtain ⟨q, ok⟩ := p
      cases ok with
      | false => rfl
      | true =>
        obtain ⟨gb, h30, Kl, ha⟩ := p4 rfl
        have hKl : Kl.length ≤ 30 := by have : Kl.length ≤ l.length := ha.le; omega
        have hKg : ∀ x ∈ Kl, GoodE x := ha.good
        obtain ⟨z, z1, z2, z3⟩ : ∃ z, impl_LedgerLoss Kl = some z ∧ z.2 = true ∧ (GoodL z.1 ∧ within b z.1 = true) := by
          unfold impl_LedgerLoss
          rw [impl_areEntries_eq (by omega), goodEs_of hKl hKg]
          rcases ha.fits with hn | ⟨z, f1, f2, f3⟩
          · simp only at hn
            subst hn
            exact ⟨(⟨⟨1, 1⟩, ⟨0, 1⟩⟩, true), by simp [ledger_nil], rfl, good_none, none_within gb⟩
          · simp only at f1
            exact ⟨z, by simp [f1], f2, ledger_good (by omega) hKg f1 f2, f3⟩
        simp only [Bool.not_true, cond_false, kept_loop h30 ha, Option.bind_some, z1, z2, impl_IsWithin_eq, gb, z3.1, z3.2, and_self, if_true, cond_true]
    cases hy : y.2 with
    | false => simp only [cond_false, Option.bind_some]; exact last
    | true =>
      by_cases hne : 0 < goLen e
      · simp only [cond_true, decide_eq_true hne, Option.bind_some]
        obtain ⟨gy, ly⟩ := y3 hy
        obtain ⟨pre, x, hpx⟩ : ∃ pre x, e = pre ++ [x] := by
          refine ⟨e.dropLast, e.getLast (fun h => by subst h; simp [goLen] at hne), ?_⟩
          rw [List.dropLast_concat_getLast]
        have hw : w64 (goLen e - 1) = (pre.length : Int) := by
          subst hpx
          have hpl : (pre ++ [x]).length = pre.length + 1 := by simp
          have hgl : goLen (pre ++ [x]) = ((pre ++ [x]).length : Int) := rfl
          rw [w64_in (by omega) (by omega)]
          omega
        have hsub : goSub e 0 (pre.length : Int) = some pre := by
          subst hpx
          unfold goSub
          rw [show (decide ((0 : Int) ≤ 0) && decide (0 ≤ (pre.length : Int)) && decide ((pre.length : Int) ≤ ((pre ++ [x]).length : Int))) = true by simp; omega]
          simp
        have hpl : pre.length ≤ 40 := by subst hpx; simp at he; omega
        obtain ⟨z, z1, z2, z3⟩ := ledR_ex (l := pre) (by omega)
        rw [hw, hsub]
        simp only [Option.bind_some, z1]
        rw [impl_IsWithin_eq y.1 z.1]
        simp only [Option.bind_some]
        cases hz : z.2 with
        | false => simp only [cond_false, Option.bind_some]; exact last
        | true =>
          obtain ⟨gz, lz⟩ := z3 hz
          subst hpx
          have gx : GoodE x := gy x (by simp)
          have m := ledger_mono (l := pre) (x := x) (by omega) gz gx lz hz ly hy
          have gy1 := ledger_good (by omega) gy ly hy
          have gz1 := ledger_good (by omega) gz lz hz
          simp only [gy1, gz1, and_self, if_true, cond_true, Bool.not_true, cond_false, within_iff.2 m, Option.bind_some]
          exact last
      · simp only [cond_true, decide_eq_false hne, cond_false, Option.bind_some]
        exact last
end Go.Gx.F

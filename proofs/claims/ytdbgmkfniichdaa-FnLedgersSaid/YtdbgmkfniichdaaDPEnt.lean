/- Plain laws: the entries that are accepted. -/
import Derived.Test.YtdbgmkfniichdaaDPLed
import Derived.Test.YtdbgmkfniichdaaDPMark
namespace Go.Gx.F
open Go.Gx
set_option linter.all false

theorem ledger_good {l : List impl_Entry} (hl : l.length ≤ 1048576) (hg : ∀ x ∈ l, GoodE x) {p : impl_Loss × Bool} (h : impl_ledgerLoss l = some p) (hp : p.2 = true) : GoodL p.1 := by
  rw [impl_ledgerLoss_eq hl hg] at h
  have gF := fun h => ofs_good hg (s := -1) good_none h
  generalize ofs l (-1) ⟨⟨1, 1⟩, ⟨0, 1⟩⟩ = F at gF h
  obtain ⟨f, b⟩ := F
  cases b with
  | false =>
    simp only [Bool.false_eq_true, if_false, Option.some.injEq] at h
    subst h
    cases hp
  | true =>
    have gf : GoodL f := gF rfl
    simp only [if_true, goS_eq, Option.some.injEq] at h
    by_cases ha : (news [] l).all (fun s => (ofs l s f).2) = true
    · rw [if_pos ha] at h
      subst h
      refine foldl_lgr_good _ _ gf (fun x hx => ?_)
      obtain ⟨s, hs, rfl⟩ := List.mem_map.1 hx
      exact ofs_good hg gf (List.all_eq_true.1 ha s hs)
    · rw [if_neg ha] at h
      subst h
      cases hp

theorem glen {α : Type} {b : List α} {i : Int} {v : α} : (goSet b i v).length = b.length := by simp [goSet]

theorem gset {α : Type} {b : List α} {n : Nat} {v : α} (h : n < b.length) : goAt (goSet b (n : Int) v) (n : Int) = some v := at_ok (by simp [goSet, h])

/-- one entry more -/
noncomputable def stepA (b : impl_Loss) (k : Nat) (e : impl_Entry) (s : List Int × List impl_Entry) : Option ((List Int × List impl_Entry) ⊕ List Int) :=
  match impl_ledgerLoss (s.2 ++ [e]) with
  | none => none
  | some p => some (.inl (if (p.2 && within b p.1) = true then (s.1 ++ [(k : Int)], s.2 ++ [e]) else s))

theorem accepts {b : impl_Loss} (hb : GoodL b) {l : List impl_Entry} (hl : l.length ≤ 30) (hg : ∀ x ∈ l, GoodE x) :
    ∃ r, loopC (spec_AcceptEntries_l1 b l) ([], [], 0) = some r ∧ loopC (impl_AcceptEntries_l1 b l) ([], [], 0) = some r ∧ r.length ≤ 30 := by
  have pres : ∀ (k : Nat) (x : impl_Entry) (s s' : List Int × List impl_Entry), l[k]? = some x → (s.1.length ≤ k ∧ s.2.length ≤ k ∧ ∀ x ∈ s.2, GoodE x) → stepA b k x s = some (.inl s') → (s'.1.length ≤ k + 1 ∧ s'.2.length ≤ k + 1 ∧ ∀ x ∈ s'.2, GoodE x) := by
    intro k x s s' hx hs h
    unfold stepA at h
    split at h
    · cases h
    · simp only [Option.some.injEq, Sum.inl.injEq] at h
      subst h
      obtain ⟨h1, h2, h3⟩ := hs
      split
      · refine ⟨by simp; omega, by simp; omega, fun y hy => ?_⟩
        rcases List.mem_append.1 hy with hy | hy
        · exact h3 y hy
        · simp at hy; subst hy; exact hg _ (List.mem_of_getElem? hx)
      · exact ⟨by omega, by omega, h3⟩
  have s1 := loop_list (fun k (s : List Int × List impl_Entry) => (s.1, s.2, k)) l (spec_AcceptEntries_l1 b l) (stepA b) (fun s => some s.1) (fun k s => s.1.length ≤ k ∧ s.2.length ≤ k ∧ ∀ x ∈ s.2, GoodE x) (fun k x s hx hs => ?_) (fun s _ => ?_) pres (s := ([], [])) ⟨by simp, by simp, by simp⟩
  have s2 := loop_list (fun k (s : List Int × List impl_Entry) => (s.2, s.1, k)) l (impl_AcceptEntries_l1 b l) (stepA b) (fun s => some s.1) (fun k s => s.1.length ≤ k ∧ s.2.length ≤ k ∧ ∀ x ∈ s.2, GoodE x) (fun k x s hx hs => ?_) (fun s _ => ?_) pres (s := ([], [])) ⟨by simp, by simp, by simp⟩
  · -- it comes to an end
    have tot : ∀ (r : List impl_Entry) (k : Nat) (s : List Int × List impl_Entry), (∀ x ∈ r, GoodE x) → k + r.length ≤ 30 → s.1.length ≤ k → s.2.length ≤ k → (∀ x ∈ s.2, GoodE x) → ∃ q, lfold (stepA b) (fun s => some s.1) k r s = some q ∧ q.length ≤ 30 := by
      intro r
      induction r with
      | nil => intro k s _ hk h1 _ _; exact ⟨s.1, rfl, by simp at hk; omega⟩
      | cons x r ih =>
        intro k s hr hk h1 h2 h3
        simp only [List.length_cons] at hk
        have hg' : ∀ y ∈ s.2 ++ [x], GoodE y := fun y hy => by
          rcases List.mem_append.1 hy with hy | hy
          · exact h3 y hy
          · simp at hy; subst hy; exact hr _ (by simp)
        obtain ⟨p, hp⟩ := ledger_some (l := s.2 ++ [x]) (by simp; omega) hg'
        simp only [lfold, stepA, hp]
        split
        · exact ih (k + 1) _ (fun y hy => hr y (by simp [hy])) (by omega) (by simp; omega) (by simp; omega) hg'
        · exact ih (k + 1) _ (fun y hy => hr y (by simp [hy])) (by omega) (by omega) (by omega) h3
    obtain ⟨q, h1, h2⟩ := tot l 0 ([], []) hg (by omega) (by simp) (by simp) (by simp)
    exact ⟨q, s1.trans h1, s2.trans h1, h2⟩
  · obtain ⟨h1, h2, h3⟩ := hs
    have hlt := (List.getElem?_eq_some_iff.1 hx).1
    have hg' : ∀ y ∈ s.2 ++ [x], GoodE y := fun y hy => by
      rcases List.mem_append.1 hy with hy | hy
      · exact h3 y hy
      · simp at hy; subst hy; exact hg _ (List.mem_of_getElem? hx)
    have hle : (s.2 ++ [x]).length ≤ 1048576 := by simp; omega
    obtain ⟨p, hp⟩ := ledger_some hle hg'
    have a0 : goSub3 s.2 0 (goLen s.2) (goLen s.2) = some s.2 := by simp [goSub3, goLen]
    have a1 : goApp 40 s.2 [x] = some (s.2 ++ [x]) := goApp_ok (by simp; omega)
    have a2 : goApp 8 s.1 [(k : Int)] = some (s.1 ++ [(k : Int)]) := goApp_ok (by simp; omega)
    simp only [impl_AcceptEntries_l1, lt_ok hx, cond_true, at_ok hx, Option.bind_some, a0, a1, a2, hp, nx_ok hx (by omega), stepA]
    cases hq : p.2 with
    | false => simp [nxt]
    | true =>
      simp only [cond_true, impl_isWithin_eq hb (ledger_good hle hg' hp hq), Option.bind_some]
      cases within b p.1 <;> simp [nxt]
  · simp only [impl_AcceptEntries_l1, lt_end, cond_false]; rfl
  · obtain ⟨h1, h2, h3⟩ := hs
    have hlt := (List.getElem?_eq_some_iff.1 hx).1
    have hg' : ∀ y ∈ s.2 ++ [x], GoodE y := fun y hy => by
      rcases List.mem_append.1 hy with hy | hy
      · exact h3 y hy
      · simp at hy; subst hy; exact hg _ (List.mem_of_getElem? hx)
    have hle : (s.2 ++ [x]).length ≤ 1048576 := by simp; omega
    obtain ⟨p, hp⟩ := ledger_some hle hg'
    have hsp : spec_pLedger (s.2 ++ [x]) = some p := by rw [ledgers hle hg', hp]
    have a0 : goApp 40 ([] : List impl_Entry) s.2 = some s.2 := by rw [goApp_ok (by simp; omega)]; simp
    have a1 : goApp 40 s.2 [x] = some (s.2 ++ [x]) := goApp_ok (by simp; omega)
    have a2 : goApp 8 s.1 [(k : Int)] = some (s.1 ++ [(k : Int)]) := goApp_ok (by simp; omega)
    simp only [spec_AcceptEntries_l1, lt_ok hx, cond_true, at_ok hx, Option.bind_some, a0, a1, a2, hp, hsp, nx_ok hx (by omega), stepA]
    cases hq : p.2 with
    | false => simp [nxt]
    | true =>
      simp only [cond_true, spec_pWithin_eq hb (ledger_good hle hg' hp hq), Option.bind_some]
      cases within b p.1 <;> simp [nxt]
  · simp only [spec_AcceptEntries_l1, lt_end, cond_false]; rfl

theorem accepts_same (b : impl_Loss) {l : List impl_Entry} (hl : l.length ≤ 1048576) : ∃ p, spec_AcceptEntries b l = some p ∧ impl_AcceptEntries b l = some p ∧ p.1.length ≤ 1048576 := by
  unfold spec_AcceptEntries impl_AcceptEntries
  rw [spec_pGood_eq, impl_IsLoss_eq]
  simp only [Option.bind_some, spec_pEntries_eq hl, impl_areEntries_eq hl]
  by_cases hb : GoodL b
  · cases hg : goodEs l with
    | false => exact ⟨([], false), by simp [hb], by simp [hb], by simp⟩
    | true =>
      obtain ⟨r, h1, h2, h3⟩ := accepts hb (goodEs_len hg) (goodEs_mem hg)
      exact ⟨(r, true), by simp [hb, h1], by simp [hb, h2], by simp only; omega⟩
  · exact ⟨([], false), by simp [hb], by simp [hb], by simp⟩

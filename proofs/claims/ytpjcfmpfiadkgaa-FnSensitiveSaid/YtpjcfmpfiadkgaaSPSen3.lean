/- Plain laws: amounts from the greatest to the least. -/
import Derived.Test.YtpjcfmpfiadkgaaSPSen2
namespace Go.Gx.F
open Go.Gx
set_option linter.all false

def gv (l : List Int) (m : Nat) : Int := l.getD m 0

theorem gv_at {l : List Int} {k : Nat} (h : k < l.length) : goAt l (k : Int) = some (gv l k) := by
  rw [at_ok (x := gv l k)]
  simp [gv, h]

theorem gv_set {l : List Int} {k j : Nat} {x : Int} (h : k < l.length) : gv (l.set k x) j = if j = k then x else gv l j := by
  unfold gv
  by_cases hj : j = k
  · subst hj; simp [h]
  · rw [if_neg hj]
    simp only [List.getD_eq_getElem?_getD]
    rw [List.getElem?_set_ne (by omega)]

theorem gv_ext {a b : List Int} (h : a.length = b.length) (e : ∀ j, j < a.length → gv a j = gv b j) : a = b := by
  apply List.ext_getElem h
  intro j h1 h2
  have := e j h1
  simpa [gv, h1, h2] using this

theorem swap_perm {l : List Int} {i j : Nat} (hi : i < l.length) (hj : j < l.length) : ((l.set i (gv l j)).set j (gv l i)).Perm l := by
  have h := List.set_set_perm (as := l) hi hj
  simpa [gv, hi, hj] using h

/-- from the greatest to the least -/
def Fall (l : List Int) : Prop := l.Pairwise fun x y => y ≤ x

theorem fall_of {l : List Int} (h : ∀ a b, a < b → b < l.length → gv l b ≤ gv l a) : Fall l := by
  unfold Fall
  rw [List.pairwise_iff_getElem]
  intro i j hi hj hij
  have := h i j hij hj
  simpa [gv, hi, hj] using this

theorem fall_eq {a b : List Int} (ha : Fall a) (hb : Fall b) (h : a.Perm b) : a = b :=
  List.Perm.eq_of_pairwise (le := fun x y => y ≤ x) (fun x y _ _ h1 h2 => by omega) ha hb h

theorem reverse_eq {l : List Int} (hl : l.length ≤ 1000) : slices_Reverse_int_int l = some l.reverse := by
  unfold slices_Reverse_int_int
  have key : loopC slices_Reverse_int_int_l1 (l, 0, w64 ((goLen l) - 1)) = some l.reverse := by
    refine tot_eq (tot_loop (fun s => s.1.length = l.length ∧ ∃ k : Nat, s.2.1 = (k : Int) ∧ s.2.2 = (l.length : Int) - 1 - (k : Int) ∧ 2 * k ≤ l.length + 1 ∧ ∀ m, m < l.length → gv s.1 m = if m < k ∨ l.length ≤ m + k then gv l (l.length - 1 - m) else gv l m)
      (fun s => 2000 - s.2.1.toNat) ⟨rfl, 0, rfl, by simp only [goLen]; rw [wid (by omega) (by omega)]; omega, by omega, fun m hm => by rw [if_neg (by omega)]⟩ ?_)
    rintro ⟨s, i, j⟩ ⟨hs, k, hi, hj, hk, hg⟩
    simp only at hs hi hj hg
    subst hi
    subst hj
    simp only [slices_Reverse_int_int_l1]
    by_cases hc : (k : Int) < (l.length : Int) - 1 - (k : Int)
    · rw [decide_eq_true hc, cond_true]
      have hn : (l.length : Int) - 1 - (k : Int) = ((l.length - 1 - k : Nat) : Int) := by omega
      rw [hn]
      have h1 : l.length - 1 - k < s.length := by omega
      have h2 : k < s.length := by omega
      rw [gv_at h1, Option.bind_some, gv_at h2, Option.bind_some, Option.bind_some]
      simp only [goSet, Int.toNat_natCast]
      rw [gv_at (by simpa using h1), Option.bind_some]
      refine tot_some ⟨⟨by simp only [List.length_set]; exact hs, k + 1, ?_, ?_, by omega, fun m hm => ?_⟩, ?_⟩
      · simp only; rw [wid (by omega) (by omega)]; omega
      · simp only; rw [wid (by omega) (by omega)]; omega
      · simp only
        rw [gv_set (by simpa using h1), gv_set h2]
        have e1 := hg k (by omega)
        have e2 := hg (l.length - 1 - k) (by omega)
        rw [if_neg (by omega)] at e1 e2
        by_cases c1 : m = l.length - 1 - k
        · rw [if_pos c1, if_pos (by omega), e1]; congr 1; omega
        · rw [if_neg c1]
          by_cases c2 : m = k
          · rw [if_pos c2, if_pos (by omega), e2]; congr 1; omega
          · rw [if_neg c2, hg m hm]
            by_cases c3 : m < k ∨ l.length ≤ m + k
            · rw [if_pos c3, if_pos (by omega)]
            · rw [if_neg c3, if_neg (by omega)]
      · simp only; rw [wid (by omega) (by omega)]; omega
    · rw [decide_eq_false hc, cond_false]
      refine tot_some ?_
      simp only
      refine gv_ext (by simp [hs]) fun m hm => ?_
      rw [hg m (by omega)]
      have hr : gv l.reverse m = gv l (l.length - 1 - m) := by
        unfold gv
        have h3 : m < l.length := by omega
        have h4 : l.length - 1 - m < l.length := by omega
        simp [h3, h4]
      rw [hr]
      by_cases c3 : m < k ∨ l.length ≤ m + k
      · rw [if_pos c3]
      · rw [if_neg c3]; congr 1; omega
  rw [key, Option.bind_some]

def des (l : List Int) : List Int := (l.mergeSort fun x y => decide (x ≤ y)).reverse

theorem des_fall (l : List Int) : Fall (des l) := by
  unfold Fall des
  rw [List.pairwise_reverse]
  have := List.pairwise_mergeSort (le := fun x y : Int => decide (x ≤ y)) (fun a b c h1 h2 => by simp only [decide_eq_true_eq] at *; omega) (fun a b => by simp only [Bool.or_eq_true, decide_eq_true_eq]; omega) l
  exact this.imp fun h => by simpa using h

theorem des_perm (l : List Int) : (des l).Perm l := (List.reverse_perm _).trans (List.mergeSort_perm _ _)

theorem des_len (l : List Int) : (des l).length = l.length := (des_perm l).length_eq

def Am (l : List Int) : Prop := l.length ≤ 40 ∧ ∀ v ∈ l, 0 ≤ v ∧ v ≤ 1000000

theorem descending_eq {l : List Int} (hl : l.length ≤ 50) : ∃ b : Bool, (b = true ↔ Am l) ∧ impl_descending l = some (cond b (des l) [], b) := by
  unfold impl_descending
  by_cases h1 : l.length ≤ 40
  · rw [decide_eq_false (show ¬ 40 < goLen l by simp only [goLen]; omega), cond_false]
    obtain ⟨b, hb, e⟩ := loop_find (l := l) (fun _ v => v < 0 ∨ 1000000 < v) (([] : List Int), false) (body := impl_descending_l1 l) (fun j v hv => ⟨decide (v < 0) || decide (1000000 < v), by simp, by
      simp only [impl_descending_l1, lt_ok hv, at_ok hv, cond_true, Option.bind_some, nx_ok hv (show l.length ≤ 9223372036854775807 by omega)]
      by_cases h1 : v < 0 <;> by_cases h2 : 1000000 < v <;> simp [h1, h2]⟩) (by simp only [impl_descending_l1, lt_end, cond_false])
    rw [e]
    refine ⟨!b, ?_, ?_⟩
    · rw [Bool.not_eq_true', ← Bool.not_eq_true, hb]
      constructor
      · intro h
        refine ⟨h1, fun v hv => ?_⟩
        obtain ⟨j, hj⟩ := List.getElem?_of_mem hv
        have : ¬ (v < 0 ∨ 1000000 < v) := fun hc => h ⟨j, v, hj, hc⟩
        omega
      · rintro h ⟨j, v, hj, hc⟩
        have := h.2 v (List.mem_of_getElem? hj)
        omega
    · cases b with
      | true => rfl
      | false =>
        simp only [cond_false, Option.bind_some, Bool.not_false, cond_true]
        rw [clone_eq (by omega), Option.bind_some]
        unfold slices_Sort_int_int
        rw [decide_eq_true (show l.length < 4611686018427387904 by omega), cond_true, Option.bind_some, reverse_eq (by rw [List.length_mergeSort]; omega)]
        rfl
  · rw [decide_eq_true (show 40 < goLen l by simp only [goLen]; omega), cond_true]
    exact ⟨false, by simp [Am, h1], rfl⟩

/-- all stand in order but what stands at k -/
def Ins (l : List Int) (i k : Nat) : Prop := (∀ a b, a < b → b ≤ i → a ≠ k → b ≠ k → gv l b ≤ gv l a) ∧ ∀ b, k < b → b ≤ i → gv l b ≤ gv l k

theorem falling_eq {l : List Int} (hl : l.length ≤ 50) : spec_qFalling l = some (des l) := by
  unfold spec_qFalling
  rw [own_eq (by omega), Option.bind_some]
  have key : Tot (loopC (spec_qFalling_l1 l) (l, 0)) fun r => r.Perm l ∧ Fall r := by
    refine tot_loop (fun s => ∃ i : Nat, i ≤ l.length ∧ s.2 = (i : Int) ∧ s.1.Perm l ∧ ∀ a b, a < b → b < i → gv s.1 b ≤ gv s.1 a) (fun s => l.length - s.2.toNat) ⟨0, by omega, rfl, List.Perm.refl _, fun a b h1 h2 => by omega⟩ ?_
    rintro ⟨s, i'⟩ ⟨i, hi, h2, hp, hs⟩
    simp only at h2 hp hs
    subst h2
    have hsl := hp.length_eq
    simp only [spec_qFalling_l1]
    refine tot_cond (fun hc => ?_) fun hc => tot_some ?_
    · have hc' : (i : Int) < goLen l := by simpa using hc
      simp only [goLen] at hc'
      refine tot_bind (Q := fun r => r.Perm l ∧ ∀ a b, a < b → b ≤ i → gv r b ≤ gv r a) (tot_loop (fun t => ∃ k : Nat, k ≤ i ∧ t.2 = (k : Int) ∧ t.1.Perm l ∧ Ins t.1 i k) (fun t => t.2.toNat) ⟨i, by omega, rfl, hp, fun a b h1 h2 h3 h4 => hs a b h1 (by omega), fun b h1 h2 => by omega⟩ ?_) fun r ⟨hr, hrs⟩ => tot_some ⟨⟨i + 1, by omega, ?_, hr, fun a b h1 h2 => hrs a b h1 (by omega)⟩, ?_⟩
      · rintro ⟨t, k'⟩ ⟨k, hk, h2, hq, h3, h4⟩
        simp only at h2 hq h3 h4
        subst h2
        have htl := hq.length_eq
        have hkl : k < t.length := by omega
        simp only [spec_qFalling_l2]
        by_cases hk0 : k = 0
        · subst hk0
          simp only [Int.ofNat_zero, Int.natCast_zero, Int.lt_irrefl, decide_false, cond_false, Option.bind_some]
          refine tot_some ⟨hq, fun a b h1 h2 => ?_⟩
          by_cases ha : a = 0
          · subst ha; exact h4 b h1 h2
          · exact h3 a b h1 h2 ha (by omega)
        · have e1 : w64 ((k : Int) - 1) = ((k - 1 : Nat) : Int) := by rw [wid (by omega) (by omega)]; omega
          have hk1 : k - 1 < t.length := by omega
          rw [decide_eq_true (show (0 : Int) < (k : Int) by omega), cond_true, e1]
          simp only [gv_at hk1, gv_at hkl, Option.bind_some, goSet, Int.toNat_natCast]
          by_cases hlt : gv t (k - 1) < gv t k
          · rw [decide_eq_true hlt, cond_true, gv_at (by simpa using hk1), Option.bind_some]
            have hperm : ((t.set k (gv t (k - 1))).set (k - 1) (gv t k)).Perm l := (swap_perm hkl hk1).trans hq
            have hg : ∀ m, gv ((t.set k (gv t (k - 1))).set (k - 1) (gv t k)) m = if m = k - 1 then gv t k else if m = k then gv t (k - 1) else gv t m := fun m => by
              rw [gv_set (by simpa using hk1), gv_set hkl]
            refine tot_some ⟨⟨k - 1, by omega, rfl, hperm, fun a b h1 h2 h5 h6 => ?_, fun b h1 h2 => ?_⟩, by simp only; omega⟩
            · rw [hg, hg, if_neg h6, if_neg h5]
              by_cases c1 : b = k
              · rw [if_pos c1, if_neg (by omega)]
                exact h3 a (k - 1) (by omega) (by omega) (by omega) (by omega)
              · rw [if_neg c1]
                by_cases c2 : a = k
                · rw [if_pos c2]
                  exact h3 (k - 1) b (by omega) h2 (by omega) c1
                · rw [if_neg c2]
                  exact h3 a b h1 h2 c2 c1
            · rw [hg, hg, if_neg (by omega), if_pos rfl]
              by_cases c1 : b = k
              · rw [if_pos c1]; omega
              · rw [if_neg c1]
                exact h4 b (by omega) h2
          · rw [decide_eq_false hlt, cond_false]
            refine tot_some ⟨hq, fun a b h1 h2 => ?_⟩
            by_cases c1 : a = k
            · subst c1; exact h4 b h1 h2
            · by_cases c2 : b = k
              · subst c2
                by_cases c3 : a = b - 1
                · subst c3; omega
                · have := h3 a (b - 1) (by omega) (by omega) c1 (by omega)
                  omega
              · exact h3 a b h1 h2 c1 c2
      · simp only; rw [wid (by omega) (by omega)]; omega
      · simp only; rw [wid (by omega) (by omega)]; omega
    · have hc' : ¬ (i : Int) < goLen l := by simpa using hc
      simp only [goLen] at hc'
      refine ⟨hp, fall_of fun a b h1 h2 => hs a b h1 (by omega)⟩
  obtain ⟨r, e, hp, hf⟩ := key
  rw [e, Option.bind_some, fall_eq hf (des_fall l) (hp.trans (des_perm l).symm)]

/-! sums -/
def sm (l : List Int) : Int := l.foldr (· + ·) 0

theorem sm_cons (x : Int) (l : List Int) : sm (x :: l) = x + sm l := rfl
theorem sm_append (a b : List Int) : sm (a ++ b) = sm a + sm b := by
  induction a with
  | nil => simp [sm]
  | cons x a ih => rw [List.cons_append, sm_cons, sm_cons, ih]; omega
theorem sm_perm {a b : List Int} (h : a.Perm b) : sm a = sm b := by
  induction h with
  | nil => rfl
  | cons x _ ih => rw [sm_cons, sm_cons, ih]
  | swap x y l => simp only [sm_cons]; omega
  | trans _ _ h1 h2 => rw [h1, h2]

theorem sm_bound : ∀ {l : List Int}, (∀ v ∈ l, 0 ≤ v ∧ v ≤ 1000000) → 0 ≤ sm l ∧ sm l ≤ 1000000 * l.length
  | [], _ => by simp [sm]
  | x :: l, h => by
    have h1 := h x (by simp)
    have h2 := sm_bound (l := l) fun v hv => h v (by simp [hv])
    rw [sm_cons, List.length_cons]
    omega

theorem sm_take {l : List Int} {k : Nat} {x : Int} (h : l[k]? = some x) : sm (l.take (k + 1)) = sm (l.take k) + x := by
  rw [List.take_succ, h, sm_append]
  simp [sm]

theorem am_take {l : List Int} (h : ∀ v ∈ l, 0 ≤ v ∧ v ≤ 1000000) (k : Nat) (hl : l.length ≤ 50) : 0 ≤ sm (l.take k) ∧ sm (l.take k) ≤ 50000000 := by
  have h1 := sm_bound (l := l.take k) fun v hv => h v (List.mem_of_mem_take hv)
  have h2 : (l.take k).length ≤ 50 := by rw [List.length_take]; omega
  omega

theorem sum_loop {l : List Int} {body : Int × Int → Option (Stp (Int × Int) Int)} (g : Nat → Int → Int → Int) (S : Nat → Int) (h0 : S 0 = 0) (hl : l.length ≤ 50)
    (h1 : ∀ (k : Nat) (x : Int), l[k]? = some x → body (S k, (k : Int)) = some (.next (S (k + 1), w64 ((k : Int) + 1)))) (h2 : ∀ s, body (s, (l.length : Int)) = some (.done s)) : loopC body (0, 0) = some (S l.length) := by
  refine tot_eq (tot_loop (fun s => ∃ k : Nat, k ≤ l.length ∧ s = (S k, (k : Int))) (fun s => l.length - s.2.toNat) ⟨0, by omega, by rw [h0]; rfl⟩ ?_)
  rintro s ⟨k, hk, rfl⟩
  by_cases hlt : k < l.length
  · have hx : l[k]? = some l[k] := by simp [hlt]
    rw [h1 k _ hx, nx_ok hx (by omega)]
    exact tot_some ⟨⟨k + 1, by omega, rfl⟩, by simp only; omega⟩
  · obtain rfl : k = l.length := by omega
    rw [h2]
    exact tot_some rfl

theorem total_eq {l : List Int} (hl : l.length ≤ 50) (h : ∀ v ∈ l, 0 ≤ v ∧ v ≤ 1000000) : impl_total l = some (sm l) := by
  unfold impl_total
  rw [sum_loop (l := l) (fun _ _ _ => 0) (fun k => sm (l.take k)) (by simp [sm]) hl (fun k x hx => by
    simp only [impl_total_l1, lt_ok hx, at_ok hx, cond_true, Option.bind_some]
    have h1 := am_take h k hl
    have h2 := h x (List.mem_of_getElem? hx)
    rw [wid (n := sm (l.take k) + x) (by omega) (by omega), sm_take hx]) (fun s => by simp only [impl_total_l1, lt_end, cond_false])]
  simp

theorem tSum_eq {l : List Int} (hl : l.length ≤ 50) (h : ∀ v ∈ l, 0 ≤ v ∧ v ≤ 1000000) : spec_tSum l = some (sm l) := by
  unfold spec_tSum
  rw [sum_loop (l := l) (fun _ _ _ => 0) (fun k => sm (l.take k)) (by simp [sm]) hl (fun k x hx => by
    simp only [spec_tSum_l1, lt_ok hx, at_ok hx, cond_true, Option.bind_some]
    have h1 := am_take h k hl
    have h2 := h x (List.mem_of_getElem? hx)
    rw [wid (n := sm (l.take k) + x) (by omega) (by omega), sm_take hx]) (fun s => by simp only [spec_tSum_l1, lt_end, cond_false])]
  simp

theorem des_mem {l : List Int} (h : Am l) : ∀ v ∈ des l, 0 ≤ v ∧ v ≤ 1000000 := fun v hv => h.2 v ((des_perm l).mem_iff.1 hv)

theorem dominated_same {l : List Int} (n p : Int) (hl : l.length ≤ 50) (hp : -10 ≤ p ∧ p ≤ 1000) (hn : -10 ≤ n ∧ n ≤ 1000) : ∃ r, impl_IsDominated l n p = some r ∧ spec_IsDominated l n p = some r := by
  obtain ⟨b, hb, e⟩ := descending_eq hl
  have hq : spec_qAmounts l = some b := by
    unfold spec_qAmounts
    by_cases h1 : l.length ≤ 40
    · obtain ⟨c, e2, hc⟩ := lAll_bis (l := l) (lo := 0) (hi := 1000000) (by omega)
      rw [decide_eq_true (show goLen l ≤ 40 by simp only [goLen]; omega), cond_true, e2]
      have : b = c := by
        have : (b = true ↔ c = true) := by rw [hb, hc]; simp [Am, h1]
        cases b <;> cases c <;> simp_all
      rw [this]; rfl
    · rw [decide_eq_false (show ¬ goLen l ≤ 40 by simp only [goLen]; omega)]
      have : b = false := by
        cases b with
        | false => rfl
        | true => exact absurd (hb.1 rfl).1 h1
      rw [this]; rfl
  unfold impl_IsDominated spec_IsDominated
  rw [e, hq]
  simp only [Option.bind_some, lIn_eq]
  cases b with
  | false => exact ⟨_, rfl, rfl⟩
  | true =>
    have hA := hb.1 rfl
    simp only [Bool.not_true, cond_false, cond_true]
    by_cases h1 : 1 ≤ n ∧ n ≤ 10
    · rw [decide_eq_true h1, decide_eq_false (show ¬ n < 1 by omega), decide_eq_false (show ¬ 10 < n by omega)]
      simp only [Bool.not_true, cond_false, Option.bind_some]
      by_cases h2 : 0 ≤ p ∧ p ≤ 100
      · rw [decide_eq_true h2, decide_eq_false (show ¬ p < 0 by omega), decide_eq_false (show ¬ 100 < p by omega)]
        simp only [Bool.not_true, cond_false, Option.bind_some, falling_eq hl]
        have hd := des_len l
        have hdm := des_mem hA
        have hloop : loopC (spec_IsDominated_l1 n (des l)) (0, 0) = some (sm ((des l).take n.toNat)) := by
          rw [sum_loop (l := des l) (fun _ _ _ => 0) (fun k => sm ((des l).take (min k n.toNat))) (by simp [sm]) (by omega) (fun k x hx => by
            simp only [spec_IsDominated_l1, lt_ok hx, at_ok hx, cond_true, Option.bind_some]
            have h3 := am_take hdm (min k n.toNat) (by omega)
            have h4 := hdm x (List.mem_of_getElem? hx)
            by_cases hc : (k : Int) < n
            · rw [decide_eq_true hc, cond_true, Option.bind_some, wid (n := sm ((des l).take (min k n.toNat)) + x) (by omega) (by omega), Nat.min_eq_left (by omega), Nat.min_eq_left (by omega), sm_take hx]
            · rw [decide_eq_false hc, cond_false, Option.bind_some, Nat.min_eq_right (by omega), Nat.min_eq_right (by omega)]) (fun s => by simp only [spec_IsDominated_l1, lt_end, cond_false])]
          congr 2
          by_cases hc : n.toNat ≤ (des l).length
          · rw [Nat.min_eq_right hc]
          · rw [Nat.min_eq_left (by omega), List.take_length, List.take_of_length_le (by omega)]
        have hsub : goSub (des l) 0 (min n (goLen (des l))) = some ((des l).take n.toNat) := by
          refine tot_eq (tot_sub (by omega) (by simp only [goLen]; omega) (by simp only [goLen]; omega) ?_)
          simp only [goLen, Int.toNat_zero, List.drop_zero, Nat.sub_zero]
          by_cases hc : n.toNat ≤ (des l).length
          · congr 1; omega
          · rw [List.take_of_length_le (by omega), List.take_of_length_le (by omega)]
        rw [hsub, hloop]
        simp only [Option.bind_some]
        rw [total_eq (by rw [List.length_take]; omega) (fun v hv => hdm v (List.mem_of_mem_take hv)), total_eq (by omega) hdm, tSum_eq hl hA.2, sm_perm (des_perm l)]
        simp only [Option.bind_some]
        rw [Int.mul_comm 100]
        exact ⟨_, rfl, rfl⟩
      · rw [decide_eq_false h2]
        by_cases h3 : p < 0
        · rw [decide_eq_true h3]; exact ⟨_, rfl, rfl⟩
        · rw [decide_eq_false h3, decide_eq_true (show 100 < p by omega)]; exact ⟨_, rfl, rfl⟩
    · rw [decide_eq_false h1]
      by_cases h3 : n < 1
      · rw [decide_eq_true h3]; exact ⟨_, rfl, rfl⟩
      · rw [decide_eq_false h3, decide_eq_true (show 10 < n by omega)]; exact ⟨_, rfl, rfl⟩

theorem qAm_eq {l : List Int} {b : Bool} (hb : b = true ↔ Am l) (hl : l.length ≤ 50) : spec_qAmounts l = some b := by
  unfold spec_qAmounts
  by_cases h1 : l.length ≤ 40
  · obtain ⟨c, e2, hc⟩ := lAll_bis (l := l) (lo := 0) (hi := 1000000) (by omega)
    rw [decide_eq_true (show goLen l ≤ 40 by simp only [goLen]; omega), cond_true, e2]
    have : b = c := by
      have : (b = true ↔ c = true) := by rw [hb, hc]; simp [Am, h1]
      cases b <;> cases c <;> simp_all
    rw [this]; rfl
  · rw [decide_eq_false (show ¬ goLen l ≤ 40 by simp only [goLen]; omega)]
    have : b = false := by
      cases b with
      | false => rfl
      | true => exact absurd (hb.1 rfl).1 h1
    rw [this]; rfl

theorem exposed_same {l : List Int} (p : Int) (hl : l.length ≤ 50) (hp : -10 ≤ p ∧ p ≤ 1000) : ∃ r, impl_IsExposedShare l p = some r ∧ spec_IsExposedShare l p = some r := by
  obtain ⟨b, hb, e⟩ := descending_eq hl
  have hq := qAm_eq hb hl
  unfold impl_IsExposedShare spec_IsExposedShare
  rw [e, hq]
  simp only [Option.bind_some, lIn_eq]
  cases b with
  | false => exact ⟨_, rfl, rfl⟩
  | true =>
    have hA := hb.1 rfl
    simp only [Bool.not_true, cond_false, cond_true]
    by_cases h2 : 0 ≤ p ∧ p ≤ 100
    · rw [decide_eq_true h2, decide_eq_false (show ¬ p < 0 by omega), decide_eq_false (show ¬ 100 < p by omega)]
      simp only [Bool.not_true, cond_false, Option.bind_some, falling_eq hl]
      have hd := des_len l
      have hdm := des_mem hA
      by_cases h0 : (des l).length = 0
      · rw [show (goLen (des l) == 0) = true by simp [goLen, h0]]
        exact ⟨_, rfl, rfl⟩
      · rw [show (goLen (des l) == 0) = false by simp only [goLen, beq_eq_false_iff_ne, ne_eq]; omega]
        simp only [cond_false]
        have hloop : loopC (spec_IsExposedShare_l1 (des l)) (0, 0) = some (sm ((des l).drop 2)) := by
          rw [sum_loop (l := des l) (fun _ _ _ => 0) (fun k => sm (((des l).take k).drop 2)) (by simp [sm]) (by omega) (fun k x hx => by
            simp only [spec_IsExposedShare_l1, lt_ok hx, at_ok hx, cond_true, Option.bind_some]
            have h3 : 0 ≤ sm (((des l).take k).drop 2) ∧ sm (((des l).take k).drop 2) ≤ 50000000 := by
              have h1 := sm_bound (l := ((des l).take k).drop 2) fun v hv => hdm v (List.mem_of_mem_take (List.mem_of_mem_drop hv))
              have h2 : (((des l).take k).drop 2).length ≤ 50 := by rw [List.length_drop, List.length_take]; omega
              omega
            have h4 := hdm x (List.mem_of_getElem? hx)
            have hk := (List.getElem?_eq_some_iff.1 hx).1
            by_cases hc : (1 : Int) < k
            · rw [decide_eq_true hc, cond_true, Option.bind_some, wid (n := sm (((des l).take k).drop 2) + x) (by omega) (by omega), List.take_succ, hx, List.drop_append_of_le_length (by rw [List.length_take]; omega), sm_append]
              simp [sm]
            · rw [decide_eq_false hc, cond_false, Option.bind_some, List.drop_eq_nil_of_le (as := (des l).take k) (by rw [List.length_take]; omega), List.drop_eq_nil_of_le (as := (des l).take (k + 1)) (by rw [List.length_take]; omega)]) (fun s => by simp only [spec_IsExposedShare_l1, lt_end, cond_false])]
          rw [List.take_length]
        have hsub : goSub (des l) (min 2 (goLen (des l))) (goLen (des l)) = some ((des l).drop 2) := by
          refine tot_eq (tot_sub (by simp only [goLen]; omega) (by simp only [goLen]; omega) (by simp only [goLen]; omega) ?_)
          simp only [goLen]
          rw [List.take_of_length_le (by rw [List.length_drop]; omega)]
          by_cases hc : 2 ≤ (des l).length
          · congr 1; omega
          · rw [List.drop_eq_nil_of_le (by omega), List.drop_eq_nil_of_le (by omega)]
        have h00 : goAt (des l) 0 = some (gv (des l) 0) := gv_at (k := 0) (by omega)
        rw [hsub, hloop, h00]
        simp only [Option.bind_some]
        rw [total_eq (by rw [List.length_drop]; omega) (fun v hv => hdm v (List.mem_of_mem_drop hv))]
        simp only [Option.bind_some]
        rw [Int.mul_comm 100]
        exact ⟨_, rfl, rfl⟩
    · rw [decide_eq_false h2]
      by_cases h3 : p < 0
      · rw [decide_eq_true h3]; exact ⟨_, rfl, rfl⟩
      · rw [decide_eq_false h3, decide_eq_true (show 100 < p by omega)]; exact ⟨_, rfl, rfl⟩

end Go.Gx.F

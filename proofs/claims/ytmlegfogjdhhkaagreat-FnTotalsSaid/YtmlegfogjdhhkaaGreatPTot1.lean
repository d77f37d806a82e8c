/- Plain laws: how many base cells a cube has; differences and parts of cubes,alike. -/
import Derived.Test.YtmlegfogjdhhkaaGreatPCub4
import Derived.Test.YtmlegfogjdhhkaaGreatPSlc

namespace Go.Gx.F

open Go.Gx

set_option linter.all false

def prodN : List Nat→Nat
 | []=>1
 | s :: S=>s * prodN S

theorem bB_cons {s : Nat} {S : List Nat} {x j : Nat} (hj : j < cnt S) : bB (s :: S) (x * cnt S + j) = (decide (x < s) && bB S j):=by
 have hc:=cnt_pos S
 unfold bB
 simp only [dig,isB]
 rw [show (x * cnt S + j) / cnt S = x by rw [Nat.mul_comm,Nat.mul_add_div hc,Nat.div_eq_of_lt hj,Nat.add_zero],show (x * cnt S + j) % cnt S = j by rw [Nat.mul_comm,Nat.mul_add_mod,Nat.mod_eq_of_lt hj]]

theorem rk_block {s : Nat} {S : List Nat} {x : Nat} : ∀ j,j ≤ cnt S→rk (s :: S) (x * cnt S + j) = rk (s :: S) (x * cnt S) + (if x < s then rk S j else 0)
 | 0,_=>by simp [rk,bs]
 | j + 1,h=>by
  have ih:=rk_block (s:=s) (S:=S) (x:=x) j (by omega)
  rw [← Nat.add_assoc,rk_succ,bB_cons (S:=S) (x:=x) (show j < cnt S by omega),ih,rk_succ]
  by_cases hx : x < s
  ·simp only [hx,decide_true,Bool.true_and,if_true]
   split <;> omega
  ·simp [hx]

theorem rk_rows {s : Nat} {S : List Nat} : ∀ x,x ≤ s→rk (s :: S) (x * cnt S) = x * rk S (cnt S)
 | 0,_=>by simp [rk,bs]
 | x + 1,h=>by
  have ih:=rk_rows (s:=s) (S:=S) x (by omega)
  have hb:=rk_block (s:=s) (S:=S) (x:=x) (cnt S) (Nat.le_refl _)
  rw [if_pos (by omega),ih] at hb
  rw [Nat.add_mul,Nat.one_mul,hb,Nat.add_mul,Nat.one_mul]

theorem rk_all : ∀ S : List Nat,rk S (cnt S) = prodN S
 | []=>by decide
 | s :: S=>by
  have hb:=rk_block (s:=s) (S:=S) (x:=s) (cnt S) (Nat.le_refl _)
  rw [if_neg (by omega),rk_rows s (Nat.le_refl _),rk_all S] at hb
  have e : cnt (s :: S) = s * cnt S + cnt S:=by simp only [cnt]; rw [Nat.add_mul,Nat.one_mul]
  rw [e,hb]
  rfl

theorem diff_good {S : List Nat} {a b : impl_Cube} (ha : GoodC S a) (hb : GoodC S b) (hB : Bnd (diffC S (ce a.Cells) (ce b.Cells)).Cells) : GoodC S (diffC S (ce a.Cells) (ce b.Cells)):=by
 have hce : ∀ j,j < cnt S→ce (diffC S (ce a.Cells) (ce b.Cells)).Cells j = ce a.Cells j - ce b.Cells j:=fun j hj=>by
  simp only [diffC]
  exact ce_tab hj
 refine ⟨⟨ha.vc,rfl,by simp only [diffC,tab_len],hB⟩,fun i hi=>?_⟩
 rintro ⟨d,s,hs,hd,hne⟩
 have h1 : parts S (ce a.Cells) i d s = ce a.Cells i:=Classical.byContradiction fun h=>ha.ok i hi ⟨d,s,hs,hd,h⟩
 have h2 : parts S (ce b.Cells) i d s = ce b.Cells i:=Classical.byContradiction fun h=>hb.ok i hi ⟨d,s,hs,hd,h⟩
 apply hne
 rw [hce i hi,← h1,← h2]
 unfold parts
 have e : sg (fun k=>ce (diffC S (ce a.Cells) (ce b.Cells)).Cells (ix S ((dig S i).set d k))) s = sg (fun k=>ce a.Cells (ix S ((dig S i).set d k)) + -(ce b.Cells (ix S ((dig S i).set d k)))) s:=sg_congr fun k hk=>by
  rw [hce _ (part_lt hi hs (by omega))]
  omega
 have hneg : ∀ n,sg (fun k=>-(ce b.Cells (ix S ((dig S i).set d k)))) n = -(sg (fun k=>ce b.Cells (ix S ((dig S i).set d k))) n):=by
  intro n
  induction n with
  | zero=>simp [sg]
  | succ n ih=>rw [sg,sg,ih]; omega
 rw [e,sg_add,hneg]
 omega

end Go.Gx.F

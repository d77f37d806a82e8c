/- Plain laws: what is drawn from bytes. -/
import Derived.Test.YtpjcfmpfiadkgaaGreatSDefs

namespace Go.Gx.F

open Go.Gx

set_option linter.all false

theorem wid {n : Int} (h1 : -9223372036854775808 ≤ n) (h2 : n ≤ 9223372036854775807) : w64 n = n:=Go.IntWalk.i64_in n ⟨h1,h2⟩

structure Cur (B : Nat) (c : spec_l1Cur) : Prop where
 bytes : ∀ x ∈ c.code,0 ≤ x.v∧x.v ≤ 255
 at0 : 0 ≤ c.at_
 atB : c.at_ ≤ B

theorem Cur.le {B B' : Nat} {c : spec_l1Cur} (h : Cur B c) (hB : B ≤ B') : Cur B' c:=⟨h.bytes,h.at0,by have:=h.atB; omega⟩

theorem cur0 {code : List (K .u8)} (ho : ∀ x ∈ code,Rng.ok x) : Cur 0 ⟨code,0,⟨0⟩⟩:=by
 refine ⟨fun x hx=>?_,by simp,by simp⟩
 have h : (Lit.int .u8 x.v).wf = true:=ho x hx
 simp only [Lit.wf,Bool.and_eq_true,decide_eq_true_eq] at h
 exact h

theorem bits255' (t : Int) : 0 ≤ goBits .and .u64 t 255∧goBits .and .u64 t 255 ≤ 255:=by
 have h : (BitVec.ofInt IntKind.u64.bits t &&& BitVec.ofInt IntKind.u64.bits 255).toNat ≤ 255:=by
  rw [BitVec.toNat_and]
  exact Nat.and_le_right
 have e : goBits .and .u64 t 255 = IntKind.wrap .u64 ((BitVec.ofInt IntKind.u64.bits t &&& BitVec.ofInt IntKind.u64.bits 255).toNat):=rfl
 rw [e,Go.IntWalk.u64_in _ ⟨by omega,by omega⟩]
 omega

theorem tnext {B : Nat} {c : spec_l1Cur} (h : Cur B c) (hB : B ≤ 4611686018427387904:=by omega) : Tot (spec_l1Cur_next c) fun r=>0 ≤ r.1∧r.1 ≤ 255∧Cur (B + 1) r.2:=by
 obtain ⟨h2,h3,h4⟩:=h
 have wat : w64 (c.at_ + 1) = c.at_ + 1:=wid (by omega) (by omega)
 unfold spec_l1Cur_next
 refine tot_bind (Q:=fun b=>0 ≤ b∧b ≤ 255) (tot_cond (fun hc=>?_) fun _=>tot_some ⟨by omega,by omega⟩) fun b hb=>?_
 ·have hc' : c.at_ < goLen c.code:=by simpa using hc
  refine tot_bind (tot_at (Q:=fun e=>0 ≤ e.v∧e.v ≤ 255) h3 (by simpa [goLen] using hc') fun e _ he=>h2 e he) fun e he=>tot_some ?_
  rw [wid (by omega) (by omega)]
  exact he
 ·rw [wat]
  refine tot_cond (fun _=>tot_some ⟨hb.1,hb.2,h2,by simp only; omega,by simp only; omega⟩) fun _=>?_
  refine tot_bind (Q:=fun _=>True) ⟨_,rfl,trivial⟩ fun t _=>tot_some ?_
  have hbits:=bits255' t
  simp only
  rw [wid (by omega) (by omega)]
  exact ⟨hbits.1,hbits.2,h2,by simp only; omega,by simp only; omega⟩

theorem tpick {B : Nat} {c : spec_l1Cur} {k : Int} (h : Cur B c) (hB : B ≤ 4000000000000000000:=by omega) (hk : k ≤ 1000000000:=by omega) : Tot (spec_l1Cur_pick c k) fun r=>0 ≤ r.1∧(1 ≤ k→r.1 < k)∧(k ≤ 1→r.1 = 0)∧Cur (B + 2) r.2:=by
 unfold spec_l1Cur_pick
 refine tot_cond (fun h1=>tot_some ⟨by simp,fun h=>by simp only; omega,fun _=>rfl,h.le (by omega)⟩) fun h1=>?_
 have h1' : ¬ k ≤ 1:=by simpa using h1
 refine tot_bind (tnext h) fun ⟨x,c1⟩ ⟨x0,x1,k1⟩=>?_
 refine tot_bind (Q:=fun r=>0 ≤ r.1∧r.1 ≤ 65535∧Cur (B + 2) r.2) (tot_cond (fun h2=>?_) fun _=>tot_some ⟨x0,by simp only at x1 ⊢; omega,k1.le (by omega)⟩) fun ⟨y,c2⟩ ⟨y0,y1,k2⟩=>?_
 ·refine tot_bind (tnext k1) fun ⟨y,c2⟩ ⟨y0,y1,k2⟩=>tot_some ?_
  simp only at x0 x1 y0 y1 ⊢
  rw [wid (n:=x * 256) (by omega) (by omega),wid (by omega) (by omega)]
  exact ⟨by omega,by omega,k2⟩
 ·refine tot_bind (tot_rem (Q:=fun z=>0 ≤ z∧z < k) (by omega) ⟨Int.tmod_nonneg _ y0,Int.tmod_lt_of_pos _ (by omega)⟩) fun z hz=>tot_some ⟨hz.1,fun _=>hz.2,fun hh=>absurd hh h1',k2⟩

theorem tone {B : Nat} {c : spec_l1Cur} {k : Int} (h : Cur B c) (hB : B ≤ 4000000000000000000:=by omega) (hk : k ≤ 1000000000:=by omega) : Tot (spec_l1Cur_one c k) fun r=>Cur (B + 2) r.2:=by
 unfold spec_l1Cur_one
 exact tot_bind (tpick h hB hk) fun r hr=>tot_some hr.2.2.2

theorem tamong {B : Nat} {c : spec_l1Cur} {l : List Int} (h : Cur B c) (hB : B ≤ 4000000000000000000:=by omega) (h1 : 1 ≤ l.length:=by simp) (h2 : l.length ≤ 1000000000:=by simp) : Tot (spec_l1Cur_among c l) fun r=>r.1 ∈ l∧Cur (B + 2) r.2:=by
 unfold spec_l1Cur_among
 refine tot_bind (tpick h hB (by simp only [goLen]; omega)) fun ⟨x,c1⟩ ⟨x0,x1,_,k1⟩=>?_
 have hx:=x1 (by simp only [goLen]; omega)
 simp only [goLen] at x0 hx
 exact tot_bind (tot_at (Q:=fun e=>e ∈ l) x0 hx fun e _ he=>he) fun e he=>tot_some ⟨he,k1⟩

end Go.Gx.F

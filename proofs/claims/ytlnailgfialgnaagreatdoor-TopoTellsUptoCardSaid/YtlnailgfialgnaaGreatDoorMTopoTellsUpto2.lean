/- qk reckoning: the reference's text of a number; machine numbers, both ways. -/
import Derived.Test.YtlnailgfialgnaaGreatDoorMTopoTellsUpto1
import Derived.Lib.IndexLaws

set_option linter.unusedVariables false
set_option linter.unusedSimpArgs false
set_option maxRecDepth 10000
namespace Go.Proofs.YtlnailgfialgnaaGreatDoor.Am
open Go

theorem qlD (k:Nat) (x0 a0:Bool):∀(d n:Nat) (u:Int) (l:List Int),0≤u∧u<U^d→u<18446744073709551616→d<n→l.length≤1000-d→d≤100→Dg U l→(u=0→Cn U l)→
  ∃l',qaM k n u x0 0 a0 l.length [] l=some (x0,0,a0,l'.length,[],l')∧Cn U l'∧V U l'=V U l+U^l.length*u∧l'.length≤l.length+d:=by
 intro d
 induction d with
 | zero=>
  intro n u l hu hub hn hl hd9 hd hc
  obtain⟨n,rfl⟩:∃m,n=m+1:=⟨n-1,by omega⟩
  have hu0:u=0:=by simp at hu;omega
  subst hu0
  refine⟨l,?_,hc rfl,by simp,by omega⟩
  show qbg k (qaM k n) _ _ _ _ _ _ _=_
  unfold qbg
  simp -implicitDefEqProofs (maxSteps:=2000000) (disch:=omega) only [ps,↓reduceIte,reduceCtorEq,Int.reduceLT,Int.reduceLE,Int.reduceEq,Nat.reduceLT,Nat.reduceLeDiff,Nat.reduceEqDiff,Int.reduceNeg,qc]
 | succ d ih=>
  intro n u l hu hub hn hl hd9 hd hc
  obtain⟨n,rfl⟩:∃m,n=m+1:=⟨n-1,by omega⟩
  by_cases hu0:u=0
  ·subst hu0
   refine⟨l,?_,hc rfl,by simp,by omega⟩
   show qbg k (qaM k n) _ _ _ _ _ _ _=_
   unfold qbg
   simp -implicitDefEqProofs (maxSteps:=2000000) (disch:=omega) only [ps,↓reduceIte,reduceCtorEq,Int.reduceLT,Int.reduceLE,Int.reduceEq,Nat.reduceLT,Nat.reduceLeDiff,Nat.reduceEqDiff,Int.reduceNeg,qc]
  ·have hu2:u / 65536<U^d:=by
    have:=hu.2
    rw [Int.pow_succ] at this
    unfold U at this ⊢
    omega
   have hdm:=Int.emod_add_mul_ediv u 65536
   have hlen:(l++ [u % 65536]).length=l.length+1:=by simp
   have hdl:Dg U (l++ [u % 65536]):=hd.snoc (by unfold U;omega)
   obtain⟨l',q1,q2,q3,q4⟩:=ih n (u / 65536) (l++ [u % 65536]) ⟨by omega,hu2⟩ (by omega) (by omega) (by rw [hlen];omega) (by omega) hdl (fun h=>⟨hdl,(Cn.last hdl).2 (.inr ⟨l,u % 65536,rfl,by omega⟩)⟩)
   refine⟨l',?_,q2,?_,by rw [hlen] at q4;omega⟩
   ·rw [hlen] at q1
    rw [←q1]
    show qbg k (qaM k n) _ _ _ _ _ _ _=_
    unfold qbg
    have ht:l.take l.length=l:=List.take_length
    simp -implicitDefEqProofs (maxSteps:=2000000) (disch:=omega) only [ps,↓reduceIte,reduceCtorEq,Int.reduceLT,Int.reduceLE,Int.reduceEq,Nat.reduceLT,Nat.reduceLeDiff,Nat.reduceEqDiff,Int.reduceNeg,qc,qc2,qc3,ht,List.take_succ_cons,List.length_cons]
   ·rw [q3,qg5,hlen,Int.pow_succ]
    unfold U
    grind
theorem qtc (v:Int) (hv: -9223372036854775808≤v∧v≤9223372036854775807):∃l,Rn (fun k=>qdu k v) (decide (v<0),l)∧Nm U (decide (v<0)) l v∧l.length≤4:=by
 have main:∀(x0:Bool) (u:Int),0≤u∧u<18446744073709551616→∃l,Cn U l∧V U l=u∧l.length≤4∧∀k,5≤k→qaM k k u false 0 x0 0 [] []=some (false,0,x0,l.length,[],l):=by
  intro x0 u hu
  have h4:u<U^4:=by unfold U;simpa using hu.2
  obtain⟨l,q1,q2,q3,q4⟩:=qlD 5 false x0 4 5 u [] ⟨hu.1,h4⟩ hu.2 (by omega) (by simp) (by omega) Dg.nil (fun _=>Cn.nil)
  refine⟨l,q2,by rw [q3];simp [V],by simpa using q4,fun k hk=> ?_⟩
  obtain⟨l',r1,r2,r3,r4⟩:=qlD k false x0 4 k u [] ⟨hu.1,h4⟩ hu.2 (by omega) (by simp) (by omega) Dg.nil (fun _=>Cn.nil)
  have:l'=l:=Cn.ext (by decide) r2 q2 (by rw [r3,q3])
  subst this
  exact r1
 by_cases h:v<0
 ·obtain⟨l,h1,h2,h3,h4⟩:=main true (-v) (by omega)
  refine⟨l,?_,Nm.of (by decide) h1 (by omega),h3⟩
  refine Rn.up (f:=fun k=>qdu k v) (Rn.eq 5 fun k hk=> ?_)
  show qdt k v=_
  unfold qdt
  have e1:IntKind.u64.wrap (0-IntKind.u64.wrap v)= -v:=by rw [qgJ,qgJ];omega
  have hh:=h4 k hk
  rw [if_pos (by simpa using h),e1]
  simp -implicitDefEqProofs (maxSteps:=2000000) (disch:=omega) only [ps,↓reduceIte,reduceCtorEq,Int.reduceLT,Int.reduceLE,Int.reduceEq,Nat.reduceLT,Nat.reduceLeDiff,Nat.reduceEqDiff,Int.reduceNeg,qc,hh,List.take_length,h,decide_true,decide_false]
 ·obtain⟨l,h1,h2,h3,h4⟩:=main false v (by omega)
  refine⟨l,?_,Nm.of (by decide) h1 (by omega),h3⟩
  refine Rn.up (f:=fun k=>qdu k v) (Rn.eq 5 fun k hk=> ?_)
  show qdt k v=_
  unfold qdt
  have hh:=h4 k hk
  have e1:IntKind.u64.wrap v=v:=qbG (by omega)
  rw [if_neg (by simpa using h),e1]
  simp -implicitDefEqProofs (maxSteps:=2000000) (disch:=omega) only [ps,↓reduceIte,reduceCtorEq,Int.reduceLT,Int.reduceLE,Int.reduceEq,Nat.reduceLT,Nat.reduceLeDiff,Nat.reduceEqDiff,Int.reduceNeg,qc,hh,List.take_length,h,decide_true,decide_false]
end Go.Proofs.YtlnailgfialgnaaGreatDoor.Am
set_option linter.unusedSectionVars false
namespace Go.Proofs.YtlnailgfialgnaaGreatDoor.Am
open Go

def RT.d (r:RT):Nat:=(Zv W r.2.1 r.2.2).toNat
theorem RT.pos {r:RT} (hg:r.good) (h:r.f=0):0<r.d∧r.2.2.length≤72∧Nm W r.2.1 r.2.2 (r.d:Int):=by
 obtain⟨q,h1,h2,h3⟩:=qtb hg.1.2 hg.2.2 h
 have e:Zv W r.2.1 r.2.2=q.den:=h1.2.z
 have p:=Rat.den_pos' q
 have ed:r.d=q.den:=by unfold RT.d;rw [e];rfl
 rw [ed]
 exact⟨by omega,h3,h1.2⟩

def FrU (n0:Bool) (n1:List Int) (d0:Bool) (d1:List Int) (q:Rat):Prop:=Nm U n0 n1 q.num∧Nm U d0 d1 (q.den:Int)
theorem FrU.cast {n0:Bool} {n1:List Int} {d0:Bool} {d1:List Int} {q q':Rat} (h:FrU n0 n1 d0 d1 q) (e:q=q'):FrU n0 n1 d0 d1 q':=e▸h
theorem qrs {a0:Bool} {a1:List Int} {x:Int} (h:Nm U a0 a1 x) (h0:x≠0):a1≠ []:=by
 intro e
 rw [e] at h
 have:=h.z
 cases a0<;>simp [V] at this<;>omega
theorem qpZ (n0 d0:Bool) (n1 d1:List Int) {x y:Int} (nx:Nm U n0 n1 x) (ny:Nm U d0 d1 y) (hx:n1.length≤100000) (hy:d1.length≤100000) (hy0:y≠0):
  ∃s p t r,Rn (fun k=>qcT k n0 n1 d0 d1) (s,p,t,r)∧FrU s p t r (Rat.divInt x y)∧p.length≤n1.length∧r.length≤d1.length:=by
 have ex:=qns x hy0
 have ey:=qnt x hy0
 have hgp:(Int.gcd x y:Int)≠0:=by
  have:=Int.gcd_pos_of_ne_zero_right x hy0
  omega
 have hs:=qoI d0 d1 ny
 obtain⟨c,hc,hcc⟩:=qfl y 0
 rw [hc] at hs
 by_cases hneg:y<0
 ·rw [if_pos hneg,Int.tdiv_neg,←Int.neg_tdiv] at ex ey
  obtain⟨s1,l1,a1,a2,a3⟩:=qkc n0 n1 nx
  obtain⟨s2,l2,b1,b2,b3⟩:=qkc d0 d1 ny
  obtain⟨g,g1,g2,g3⟩:=qlC s1 s2 l1 l2 a2 b2 (by omega) (by omega)
  have eg:(Int.gcd (-x) (-y):Int)=Int.gcd x y:=by rw [Int.gcd_neg,Int.neg_gcd]
  rw [eg] at g2
  have hgn:=qrs g2 hgp
  obtain⟨s3,q3,t3,r3,c1,c2,c3,c4,c5⟩:=qg8 s1 false l1 g a2 g2 (by omega) (by omega) hgn
  obtain⟨s4,q4,t4,r4,d1',d2,d3,d4,d5⟩:=qg8 s2 false l2 g b2 g2 (by omega) (by omega) hgn
  rw [←ex] at c2
  rw [←ey] at d2
  refine⟨s3,q3,s4,q4,Rn.up (f:=fun k=>qcT k n0 n1 d0 d1) ?_,⟨c2,d2⟩,by omega,by omega⟩
  show Rn (fun k=>qcS k n0 n1 d0 d1) _
  unfold qcS
  refine Rn.bind hs ?_
  (first | (refine Rn.t ?hc ?_;case hc=>simp -implicitDefEqProofs (maxSteps:=2000000) (disch:=omega) only [ps,↓reduceIte,reduceCtorEq,Int.reduceLT,Int.reduceLE,Int.reduceEq,Nat.reduceLT,Nat.reduceLeDiff,Nat.reduceEqDiff,Int.reduceNeg,qc]) | (refine Rn.f ?hc ?_;case hc=>simp -implicitDefEqProofs (maxSteps:=2000000) (disch:=omega) only [ps,↓reduceIte,reduceCtorEq,Int.reduceLT,Int.reduceLE,Int.reduceEq,Nat.reduceLT,Nat.reduceLeDiff,Nat.reduceEqDiff,Int.reduceNeg,qc]))
  exact Rn.bind a1 (Rn.bind b1 (Rn.bind g1 (Rn.bind c1 (Rn.bind d1' (Rn.pure _)))))
 ·rw [if_neg hneg] at ex ey
  obtain⟨g,g1,g2,g3⟩:=qlC n0 d0 n1 d1 nx ny (by omega) (by omega)
  have hgn:=qrs g2 hgp
  obtain⟨s3,q3,t3,r3,c1,c2,c3,c4,c5⟩:=qg8 n0 false n1 g nx g2 (by omega) (by omega) hgn
  obtain⟨s4,q4,t4,r4,d1',d2,d3,d4,d5⟩:=qg8 d0 false d1 g ny g2 (by omega) (by omega) hgn
  rw [←ex] at c2
  rw [←ey] at d2
  refine⟨s3,q3,s4,q4,Rn.up (f:=fun k=>qcT k n0 n1 d0 d1) ?_,⟨c2,d2⟩,by omega,by omega⟩
  show Rn (fun k=>qcS k n0 n1 d0 d1) _
  unfold qcS
  refine Rn.bind hs ?_
  (first | (refine Rn.t ?hc ?_;case hc=>simp -implicitDefEqProofs (maxSteps:=2000000) (disch:=omega) only [ps,↓reduceIte,reduceCtorEq,Int.reduceLT,Int.reduceLE,Int.reduceEq,Nat.reduceLT,Nat.reduceLeDiff,Nat.reduceEqDiff,Int.reduceNeg,qc]) | (refine Rn.f ?hc ?_;case hc=>simp -implicitDefEqProofs (maxSteps:=2000000) (disch:=omega) only [ps,↓reduceIte,reduceCtorEq,Int.reduceLT,Int.reduceLE,Int.reduceEq,Nat.reduceLT,Nat.reduceLeDiff,Nat.reduceEqDiff,Int.reduceNeg,qc]))
  exact Rn.bind g1 (Rn.bind c1 (Rn.bind d1' (Rn.pure _)))
section
variable {n0 d0 : Bool} {n1 d1 : List Int} (la : n1.length ≤ 9223372036854775807) (lb : d1.length ≤ 9223372036854775807) (da : Dg W n1) (db : Dg W d1)
include la lb da db
end

def okN (m e:Int):Bool:=decide (m=0∧e=0∨m.tmod 10≠0∧ -999999999≤m∧m≤999999999∧ -18≤e∧e≤9)
theorem qoK {m e:Int}:okN m e=true↔(m=0∧e=0∨m.tmod 10≠0∧ -999999999≤m∧m≤999999999∧ -18≤e∧e≤9):=by unfold okN;exact decide_eq_true_iff
theorem qoL {m e:Int} (h:okN m e=true): -999999999≤m∧m≤999999999∧ -18≤e∧e≤9:=by
 rcases qoK.1 h with h | h<;>omega
theorem qrt (m e:Int) (b:Bool) (h:b=true↔(m=0∧e=0∨m.tmod 10≠0∧ -999999999≤m∧m≤999999999∧ -18≤e∧e≤9)):b=okN m e:=Bool.eq_iff_iff.2 (h.trans qoK.symm)
theorem qdl (m e:Int):Rn (fun k=>qY k m e) (okN m e):=by
 refine Rn.up (f:=fun k=>qY k m e) (Rn.eq 0 fun k _=> ?_)
 show qiB k m e=_
 unfold qiB
 have t:m=0→m.tmod 10=0:=fun h=>by rw [h];rfl
 simp only [beq_iff_eq,decide_eq_true_eq,bne_iff_ne,ne_eq]
 repeat' split
 all_goals refine congrArg some (qrt m e _ ?_)
 all_goals simp only [beq_iff_eq,decide_eq_true_eq,Bool.false_eq_true,false_iff]
 all_goals grind
theorem qdm (m e:Int):Rn (fun k=>qaD k m e) (okN m e):=by
 refine Rn.up (f:=fun k=>qaD k m e) (Rn.eq 0 fun k _=> ?_)
 show qfu k m e=_
 unfold qfu
 have t:m=0→m.tmod 10=0:=fun h=>by rw [h];rfl
 simp only [beq_iff_eq,decide_eq_true_eq,bne_iff_ne,ne_eq,beq_eq_false_iff_ne]
 repeat' split
 all_goals refine congrArg some (qrt m e _ ?_)
 all_goals simp only [beq_iff_eq,decide_eq_true_eq,Bool.false_eq_true,false_iff]
 all_goals grind

def qiL (m e:Int):Rat:=if e<0 then Rat.divInt m ((10^(-e).toNat:Nat):Int)else Rat.divInt (((10^e.toNat:Nat):Int)*m) 1
theorem qru {s:Bool} {l:List Int} {x:Int} (h:Nm W s l x) (n:Nat) (hx:(x.natAbs:Int)<W^n):l.length≤n:=
 (h.c.len_le (B:=W) (by decide) n).2 (by rw [h.abs (B:=W) (by decide)];exact hx)
theorem W2:(W^2:Int)=18446744073709551616:=by decide
theorem qtd (c:Int) (hc:c≤20) {t:Bool} {u:List Int} (nu:Nm W t u 10) (hu:u.length≤2):∀(n:Nat) (i:Int) (s:Bool) (z:List Int) (p:Int),0≤i→i+n=c→Nm W s z p→(z.length:Int)≤100+2*i→
  ∃s' z',Rl (fun k m=>qej k m c i s z t u) (s',z',t,u)∧Nm W s' z' (p*((10^n:Nat):Int))∧z'.length≤200:=by
 intro n
 induction n with
 | zero=>
  intro i s z p h0 hi nz hz
  refine⟨s,z,Rl.up (f:=fun k m=>qej k m c i s z t u) (Rl.of 0 fun k m _=> ?_),nz.cast (by simp),by omega⟩
  show qfM k (qej k m) c i s z t u=_
  unfold qfM
  exact if_neg (by simp;omega)
 | succ n ih=>
  intro i s z p h0 hi nz hz
  obtain⟨s1,p1,a1,a2,a3⟩:=qoF s t z u nz nu (by omega) (by omega)
  obtain⟨s',z',b1,b2,b3⟩:=ih (i+1) s1 p1 (p*10) (by omega) (by omega) a2 (by omega)
  refine⟨s',z',Rl.up (f:=fun k m=>qej k m c i s z t u) ?_,b2.cast (by rw [Nat.pow_succ];grind),b3⟩
  show Rl (fun k m=>qfM k (qej k m) c i s z t u) _
  unfold qfM
  refine Rl.t (decide_eq_true (by omega)) (Rl.bind a1 ?_)
  rw [qe (by omega)]
  exact b1
theorem qyV (c:Int) (h:0≤c∧c≤18):∃s z,Rn (fun k=>qiE k c) (s,z)∧Nm W s z ((10^c.toNat:Nat):Int)∧z.length≤2:=by
 obtain⟨l,a1,a2,a3⟩:=qhT 1 (by omega)
 obtain⟨u,b1,b2,b3⟩:=qhT 10 (by omega)
 obtain⟨s,z,c1,c2,c3⟩:=qtd c (by omega) b2 b3 c.toNat 0 _ l 1 (by omega) (by omega) a2 (by omega)
 have hp:(10^c.toNat:Nat)≤10^18:=Nat.pow_le_pow_right (by decide) (by omega)
 have e18:(10^18:Nat)=1000000000000000000:=by decide
 refine⟨s,z,Rn.up (f:=fun k=>qiE k c) (Rn.bind a1 (Rn.bind b1 (Rn.bind c1.diag (Rn.pure _)))),c2.cast (by simp),qru c2 2 (by rw [W2,Int.one_mul,Int.natAbs_natCast];omega)⟩
theorem qlE (n:Nat):(0:Int)<((10^n:Nat):Int):=by have:=Nat.pow_pos (a:=10) (n:=n) (by decide);omega
theorem qlF {m e:Int} (h:okN m e=true):∃s p t r,Rn (fun k=>qgk k m e) (s,p,t,r)∧Fr s p t r (qiL m e)∧p.length≤2∧r.length≤2:=by
 have hr:=qoL h
 have hw:IntKind.i64.wrap (0-e)= -e:=by rw [qe (by omega)];omega
 have hm:(if e<0 then -e else e)=max e (-e):=by omega
 obtain⟨s1,z1,a1,a2,a3⟩:=qyV (max e (-e)) (by omega)
 obtain⟨l,b1,b2,b3⟩:=qhT m (by omega)
 have hpos:=qlE (max e (-e)).toNat
 by_cases he:e<0
 ·have e1:max e (-e)= -e:=by omega
  rw [e1] at a1 a2 hpos
  obtain⟨s,p,t,r,c1,c2,c3,c4⟩:=qoH _ _ l z1 b2 a2 (by omega) (by omega) (by omega)
  refine⟨s,p,t,r,Rn.up (f:=fun k=>qgk k m e) ?_,c2.cast (by rw [qiL,if_pos he]),by omega,by omega⟩
  show Rn (fun k=>qg7 k m e) _
  unfold qg7
  rw [hw,e1]
  refine Rn.bind a1 (Rn.t (decide_eq_true (by omega)) (Rn.bind b1 (Rn.bind c1 (Rn.pure _))))
 ·have e1:max e (-e)=e:=by omega
  rw [e1] at a1 a2 hpos
  obtain⟨s2,p2,d1,d2,d3⟩:=qoF s1 _ z1 l a2 b2 (by omega) (by omega)
  obtain⟨o,o1,o2,o3⟩:=qhT 1 (by omega)
  have hp:(10^e.toNat:Nat)≤10^9:=Nat.pow_le_pow_right (by decide) (by omega)
  have e9:(10^9:Nat)=1000000000:=by decide
  have hlen:p2.length≤2:=qru d2 2 (by
   rw [W2,Int.natAbs_mul]
   have h1:((10^e.toNat:Nat):Int).natAbs≤1000000000:=by omega
   have h2:m.natAbs≤1000000000:=by omega
   have:=Nat.mul_le_mul h1 h2
   omega)
  obtain⟨s,p,t,r,c1,c2,c3,c4⟩:=qoH _ _ p2 o d2 o2 (by omega) (by omega) (by omega)
  refine⟨s,p,t,r,Rn.up (f:=fun k=>qgk k m e) ?_,c2.cast (by rw [qiL,if_neg he]),by omega,by omega⟩
  show Rn (fun k=>qg7 k m e) _
  unfold qg7
  rw [hw,e1]
  refine Rn.bind a1 (Rn.f (by rw [decide_eq_true_eq];omega) (Rn.bind b1 (Rn.bind d1 (Rn.bind o1 (Rn.bind c1 (Rn.pure _))))))
section
variable {x0 x2 y0 y2 : Bool} {x1 x3 y1 y3 : List Int} {x y : Rat} (hx : Fr x0 x1 x2 x3 x) (hy : Fr y0 y1 y2 y3 y) (l1 : x1.length ≤ 100000) (l3 : x3.length ≤ 100000) (m1 : y1.length ≤ 100000) (m3 : y3.length ≤ 100000)
include hx hy l1 l3 m1 m3
end
theorem qrv (a b c d:Int):Rn (fun k=>qhE k a b c d) (if okN a b=true∧okN c d=true then(qj9 (qiL a b) (qiL c d),0)else(0,30)):=by
 refine Rn.up (f:=fun k=>qhE k a b c d) ?_
 show Rn (fun k=>qj4 k a b c d) _
 unfold qj4
 refine Rn.bind (qdl a b) ?_
 by_cases h:okN a b=true
 ·refine Rn.t (by simp [h]) (Rn.bind (qdl c d) ?_)
  by_cases h':okN c d=true
  ·rw [if_pos ⟨h,h'⟩]
   refine Rn.f (by simp [h']) ?_
   obtain⟨s,p,t,r,a1,a2,a3,a4⟩:=qlF h
   obtain⟨s1,p1,t1,r1,b1,b2,b3,b4⟩:=qlF h'
   exact Rn.bind a1 (Rn.bind b1 (Rn.bind (qu3 a2 b2 (show p.length≤100000 by omega) (show r.length≤100000 by omega) (show p1.length≤100000 by omega) (show r1.length≤100000 by omega)) (Rn.pure _)))
  ·rw [if_neg (fun x=>h' x.2)]
   exact Rn.t (by simp [h']) (Rn.pure _)
 ·rw [if_neg (fun x=>h x.1)]
  exact Rn.f (by simp [h]) (Rn.pure _)
section
variable {x0 x2 y0 y2 : Bool} {x1 x3 y1 y3 : List Int} {x y : Rat} (hx : FrU x0 x1 x2 x3 x) (hy : FrU y0 y1 y2 y3 y) (l1 : x1.length ≤ 10000) (l3 : x3.length ≤ 10000) (m1 : y1.length ≤ 10000) (m3 : y3.length ≤ 10000)
include hx hy l1 l3 m1 m3
end
theorem qu9 {s t:Bool} {p r:List Int} {z:Int} (h:Nm U s p z) (h1:Nm U t r 1):FrU s p t r (Rat.divInt z 1):=by
 have e:Rat.divInt z 1=(z:Rat):=Rat.num_divInt_den (z:Rat)
 rw [e]
 exact⟨h,h1⟩

structure OkW (w0:Int) (w1:List (Int×Int)) (w2:List Int):Prop where
 vals:∀j,0≤j→j<w1.length→okN (w1.getD j (0,0)).1 (w1.getD j (0,0)).2=true
 steps:∀j,0≤j→j<w2.length→0≤w2.getD j 0∧w2.getD j 0≤1000000000
 kind:w0=1∧w1.length=1∧w2.length=0∨w0=2∧w1.length=2∧w2.length=5∧1≤w2.getD 4 0∧w2.getD 1 0+w2.getD 2 0+w2.getD 3 0≤w2.getD 4 0∨
  w0=3∧w1.length=w2.length∧1≤w1.length∧w1.length≤16∧(∀j,1≤j→j<w2.length→w2.getD (j-1) 0<w2.getD j 0)∨w0=4∧1≤w1.length∧w1.length≤16∧w2.length=0
noncomputable def okW (w0:Int) (w1:List (Int×Int)) (w2:List Int):Bool:= @decide (OkW w0 w1 w2) (Classical.propDecidable _)
theorem qva {w0:Int} {w1:List (Int×Int)} {w2:List Int}:okW w0 w1 w2=true↔OkW w0 w1 w2:= @decide_eq_true_iff _ (Classical.propDecidable _)
theorem qjz {w0:Int} {w1:List (Int×Int)} {w2:List Int}:okW w0 w1 w2=false↔¬OkW w0 w1 w2:= @decide_eq_false_iff_not _ (Classical.propDecidable _)
section
variable (w0 : Int) (w1 : List (Int × Int)) (w2 : List Int) (h1 : w1.length ≤ 1000000000000000000) (h2 : w2.length ≤ 1000000000000000000)
include h1 h2
theorem qvb:∃o,Rl (fun k n=>qbI k n w1 w1.length 0 w0 w1 w2) o∧((∀j,0≤j→j<w1.length→okN (w1.getD j (0,0)).1 (w1.getD j (0,0)).2=true)∧o= .inr (w0,w1,w2)∨(¬ ∀j,0≤j→j<w1.length→okN (w1.getD j (0,0)).1 (w1.getD j (0,0)).2=true)∧∃a:Bool×Int×List (Int×Int)×List Int×Int×Int,a.1=false∧o= .inl a):=by
 refine qdG w1.length 0 (fun k n i=>qbI k n w1 w1.length i w0 w1 w2) (w0,w1,w2) (fun a=>a.1=false) (fun j=>okN (w1.getD j (0,0)).1 (w1.getD j (0,0)).2=true) ?_ ?_ ?_ w1.length 0 (by omega) (by omega)
 ·refine Rl.up (f:=fun k n=>qbI k n w1 w1.length w1.length w0 w1 w2) (Rl.of 0 fun k n _=> ?_)
  show qcD k (qbI k n) _ _ _ _ _ _=_
  unfold qcD
  exact if_neg (by simp)
 ·intro i hs hi hok o ho
  refine Rl.up (f:=fun k n=>qbI k n w1 w1.length i w0 w1 w2) ?_
  show Rl (fun k n=>qcD k (qbI k n) _ _ _ _ _ _) _
  unfold qcD
  refine Rl.t (decide_eq_true (by omega)) (Rl.t (by omega) (Rl.at (getD_some (0,0) (by omega)) (Rl.bind (qdl _ _) (Rl.f (by rw [Int.toNat_natCast,hok];decide) ?_))))
  rw [qe (by omega)]
  exact ho
 ·intro i hs hi hok
  refine⟨(false,w0,w1,w2,(w1.getD i (0,0)).1,(w1.getD i (0,0)).2),rfl,Rl.up (f:=fun k n=>qbI k n w1 w1.length i w0 w1 w2) ?_⟩
  show Rl (fun k n=>qcD k (qbI k n) _ _ _ _ _ _) _
  unfold qcD
  refine Rl.t (decide_eq_true (by omega)) (Rl.t (by omega) (Rl.at (getD_some (0,0) (by omega)) (Rl.bind (qdl _ _) (Rl.t (by rw [Int.toNat_natCast,Bool.eq_false_iff.2 hok];rfl) (Rl.pure _)))))
theorem qvc:∃o,Rl (fun k n=>qa9 k n w2 w2.length 0 w0 w1 w2) o∧((∀j,0≤j→j<w2.length→0≤w2.getD j 0∧w2.getD j 0≤1000000000)∧o= .inr (w0,w1,w2)∨(¬ ∀j,0≤j→j<w2.length→0≤w2.getD j 0∧w2.getD j 0≤1000000000)∧∃a:Bool×Int×List (Int×Int)×List Int,a.1=false∧o= .inl a):=by
 refine qdG w2.length 0 (fun k n i=>qa9 k n w2 w2.length i w0 w1 w2) (w0,w1,w2) (fun a=>a.1=false) (fun j=>0≤w2.getD j 0∧w2.getD j 0≤1000000000) ?_ ?_ ?_ w2.length 0 (by omega) (by omega)
 ·refine Rl.up (f:=fun k n=>qa9 k n w2 w2.length w2.length w0 w1 w2) (Rl.of 0 fun k n _=> ?_)
  show qcE k (qa9 k n) _ _ _ _ _ _=_
  unfold qcE
  exact if_neg (by simp)
 ·intro i hs hi hok o ho
  refine Rl.up (f:=fun k n=>qa9 k n w2 w2.length i w0 w1 w2) ?_
  show Rl (fun k n=>qcE k (qa9 k n) _ _ _ _ _ _) _
  unfold qcE
  refine Rl.t (decide_eq_true (by omega)) (Rl.t (by omega) (Rl.at (getD_some 0 (by omega)) (Rl.t (decide_eq_false (by rw [Int.toNat_natCast];omega)) (Rl.f (by rw [decide_eq_true_eq,Int.toNat_natCast];omega) ?_))))
  rw [qe (by omega)]
  exact ho
 ·intro i hs hi hok
  refine⟨(false,w0,w1,w2),rfl,Rl.up (f:=fun k n=>qa9 k n w2 w2.length i w0 w1 w2) ?_⟩
  show Rl (fun k n=>qcE k (qa9 k n) _ _ _ _ _ _) _
  unfold qcE
  refine Rl.t (decide_eq_true (by omega)) (Rl.t (by omega) (Rl.at (getD_some 0 (by omega)) ?_))
  rw [Int.toNat_natCast]
  by_cases h0:w2.getD i 0<0
  ·exact Rl.f (by rw [decide_eq_false_iff_not];omega) (Rl.pure _)
  ·exact Rl.t (decide_eq_false h0) (Rl.t (decide_eq_true (by omega)) (Rl.pure _))
theorem qvd (hlen:1≤w2.length):∃o,Rl (fun k n=>qaE k n 1 w0 w1 w2) o∧((∀j,1≤j→j<w2.length→w2.getD (j-1) 0<w2.getD j 0)∧o= .inr (w0,w1,w2)∨(¬ ∀j,1≤j→j<w2.length→w2.getD (j-1) 0<w2.getD j 0)∧∃a:Bool×Int×List (Int×Int)×List Int,a.1=false∧o= .inl a):=by
 refine qdG w2.length 1 (fun k n i=>qaE k n i w0 w1 w2) (w0,w1,w2) (fun a=>a.1=false) (fun j=>w2.getD (j-1) 0<w2.getD j 0) ?_ ?_ ?_ (w2.length-1) 1 (by omega) (by omega)
 ·refine Rl.up (f:=fun k n=>qaE k n w2.length w0 w1 w2) (Rl.of 0 fun k n _=> ?_)
  show qbL k (qaE k n) _ _ _ _=_
  unfold qbL
  exact if_neg (by simp)
 ·intro i hs hi hok o ho
  refine Rl.up (f:=fun k n=>qaE k n i w0 w1 w2) ?_
  show Rl (fun k n=>qbL k (qaE k n) _ _ _ _) _
  unfold qbL
  have e1:(IntKind.i64.wrap ((i:Int)-1))=((i-1:Nat):Int):=by rw [qe (by omega)];omega
  rw [e1]
  refine Rl.t (decide_eq_true (by omega)) (Rl.t (by omega) (Rl.at (getD_some 0 (by omega)) (Rl.t (by omega) (Rl.at (getD_some 0 (by omega)) (Rl.f (by rw [decide_eq_true_eq,Int.toNat_natCast,Int.toNat_natCast];omega) ?_)))))
  rw [qe (by omega)]
  exact ho
 ·intro i hs hi hok
  refine⟨(false,w0,w1,w2),rfl,Rl.up (f:=fun k n=>qaE k n i w0 w1 w2) ?_⟩
  show Rl (fun k n=>qbL k (qaE k n) _ _ _ _) _
  unfold qbL
  have e1:(IntKind.i64.wrap ((i:Int)-1))=((i-1:Nat):Int):=by rw [qe (by omega)];omega
  rw [e1]
  exact Rl.t (decide_eq_true (by omega)) (Rl.t (by omega) (Rl.at (getD_some 0 (by omega)) (Rl.t (by omega) (Rl.at (getD_some 0 (by omega)) (Rl.t (decide_eq_true (by rw [Int.toNat_natCast,Int.toNat_natCast];omega)) (Rl.pure _))))))
theorem qve:∃o,Rl (fun k n=>qR k n 0 w0 w1 w2) o∧((∀j,0≤j→j<w1.length→okN (w1.getD j (0,0)).1 (w1.getD j (0,0)).2=true)∧o= .inr (w0,w1,w2)∨(¬ ∀j,0≤j→j<w1.length→okN (w1.getD j (0,0)).1 (w1.getD j (0,0)).2=true)∧∃a:Bool×Int×List (Int×Int)×List Int,a.1=false∧o= .inl a):=by
 refine qdG w1.length 0 (fun k n i=>qR k n i w0 w1 w2) (w0,w1,w2) (fun a=>a.1=false) (fun j=>okN (w1.getD j (0,0)).1 (w1.getD j (0,0)).2=true) ?_ ?_ ?_ w1.length 0 (by omega) (by omega)
 ·refine Rl.up (f:=fun k n=>qR k n w1.length w0 w1 w2) (Rl.of 0 fun k n _=> ?_)
  show qaT k (qR k n) _ _ _ _=_
  unfold qaT
  exact if_neg (by simp)
 ·intro i hs hi hok o ho
  refine Rl.up (f:=fun k n=>qR k n i w0 w1 w2) ?_
  show Rl (fun k n=>qaT k (qR k n) _ _ _ _) _
  unfold qaT
  refine Rl.t (decide_eq_true (by omega)) (Rl.t (by omega) (Rl.at (getD_some (0,0) (by omega)) (Rl.bind (qdm _ _) (Rl.f (by rw [Int.toNat_natCast,hok];decide) ?_))))
  rw [qe (by omega)]
  exact ho
 ·intro i hs hi hok
  refine⟨(false,w0,w1,w2),rfl,Rl.up (f:=fun k n=>qR k n i w0 w1 w2) ?_⟩
  show Rl (fun k n=>qaT k (qR k n) _ _ _ _) _
  unfold qaT
  refine Rl.t (decide_eq_true (by omega)) (Rl.t (by omega) (Rl.at (getD_some (0,0) (by omega)) (Rl.bind (qdm _ _) (Rl.t (by rw [Int.toNat_natCast,Bool.eq_false_iff.2 hok];rfl) (Rl.pure _)))))
theorem qvf:∃o,Rl (fun k n=>qK k n 0 w0 w1 w2) o∧((∀j,0≤j→j<w2.length→0≤w2.getD j 0∧w2.getD j 0≤1000000000)∧o= .inr (w0,w1,w2)∨(¬ ∀j,0≤j→j<w2.length→0≤w2.getD j 0∧w2.getD j 0≤1000000000)∧∃a:Bool×Int×List (Int×Int)×List Int,a.1=false∧o= .inl a):=by
 refine qdG w2.length 0 (fun k n i=>qK k n i w0 w1 w2) (w0,w1,w2) (fun a=>a.1=false) (fun j=>0≤w2.getD j 0∧w2.getD j 0≤1000000000) ?_ ?_ ?_ w2.length 0 (by omega) (by omega)
 ·refine Rl.up (f:=fun k n=>qK k n w2.length w0 w1 w2) (Rl.of 0 fun k n _=> ?_)
  show qaU k (qK k n) _ _ _ _=_
  unfold qaU
  exact if_neg (by simp)
 ·intro i hs hi hok o ho
  refine Rl.up (f:=fun k n=>qK k n i w0 w1 w2) ?_
  show Rl (fun k n=>qaU k (qK k n) _ _ _ _) _
  unfold qaU
  refine Rl.t (decide_eq_true (by omega)) (Rl.t (by omega) (Rl.at (getD_some 0 (by omega)) (Rl.t (decide_eq_false (by rw [Int.toNat_natCast];omega)) (Rl.t (by omega) (Rl.at (getD_some 0 (by omega)) (Rl.f (by rw [decide_eq_true_eq,Int.toNat_natCast];omega) ?_))))))
  rw [qe (by omega)]
  exact ho
 ·intro i hs hi hok
  refine⟨(false,w0,w1,w2),rfl,Rl.up (f:=fun k n=>qK k n i w0 w1 w2) ?_⟩
  show Rl (fun k n=>qaU k (qK k n) _ _ _ _) _
  unfold qaU
  refine Rl.t (decide_eq_true (by omega)) (Rl.t (by omega) (Rl.at (getD_some 0 (by omega)) ?_))
  rw [Int.toNat_natCast]
  by_cases h0:w2.getD i 0<0
  ·exact Rl.f (by rw [decide_eq_false_iff_not];omega) (Rl.pure _)
  ·exact Rl.t (decide_eq_false h0) (Rl.t (by omega) (Rl.at (getD_some 0 (by omega)) (Rl.t (decide_eq_true (by omega)) (Rl.pure _))))
end
theorem qrw (w2:List Int) (h2:w2.length≤1000000000000000000) (hlen:1≤w2.length):∃b,Rn (fun k=>qcU k w2) b∧(b=true↔∀j,1≤j→j<w2.length→w2.getD (j-1) 0<w2.getD j 0):=by
 obtain⟨o,ho,h⟩:∃o,Rl (fun k n=>qN k n w2 1) o∧((∀j,1≤j→j<w2.length→w2.getD (j-1) 0<w2.getD j 0)∧o= .inr ()∨(¬ ∀j,1≤j→j<w2.length→w2.getD (j-1) 0<w2.getD j 0)∧∃a:Bool,a=false∧o= .inl a):=by
  refine qdG w2.length 1 (fun k n i=>qN k n w2 i) () (fun a=>a=false) (fun j=>w2.getD (j-1) 0<w2.getD j 0) ?_ ?_ ?_ (w2.length-1) 1 (by omega) (by omega)
  ·refine Rl.up (f:=fun k n=>qN k n w2 w2.length) (Rl.of 0 fun k n _=> ?_)
   show qaJ k (qN k n) _ _=_
   unfold qaJ
   exact if_neg (by simp)
  ·intro i hs hi hok o ho
   refine Rl.up (f:=fun k n=>qN k n w2 i) ?_
   show Rl (fun k n=>qaJ k (qN k n) _ _) _
   unfold qaJ
   have e1:(IntKind.i64.wrap ((i:Int)-1))=((i-1:Nat):Int):=by rw [qe (by omega)];omega
   rw [e1]
   refine Rl.t (decide_eq_true (by omega)) (Rl.t (by omega) (Rl.at (getD_some 0 (by omega)) (Rl.t (by omega) (Rl.at (getD_some 0 (by omega)) (Rl.f (by rw [decide_eq_true_eq,Int.toNat_natCast,Int.toNat_natCast];omega) ?_)))))
   rw [qe (by omega)]
   exact ho
  ·intro i hs hi hok
   refine⟨false,rfl,Rl.up (f:=fun k n=>qN k n w2 i) ?_⟩
   show Rl (fun k n=>qaJ k (qN k n) _ _) _
   unfold qaJ
   have e1:(IntKind.i64.wrap ((i:Int)-1))=((i-1:Nat):Int):=by rw [qe (by omega)];omega
   rw [e1]
   exact Rl.t (decide_eq_true (by omega)) (Rl.t (by omega) (Rl.at (getD_some 0 (by omega)) (Rl.t (by omega) (Rl.at (getD_some 0 (by omega)) (Rl.t (decide_eq_true (by rw [Int.toNat_natCast,Int.toNat_natCast];omega)) (Rl.pure _))))))
 rcases h with ⟨h,rfl⟩ | ⟨h,a,ha,rfl⟩
 ·exact⟨true,Rn.up (f:=fun k=>qcU k w2) (Rn.bind ho.diag (Rn.pure _)),by simp only [true_iff];exact h⟩
 ·subst ha
  exact⟨false,Rn.up (f:=fun k=>qcU k w2) (Rn.bind ho.diag (Rn.pure _)),by simp only [Bool.false_eq_true,false_iff];exact h⟩

theorem qcW {w0:Int} {w1:List (Int×Int)} {w2:List Int} {b:Bool} (h:b=true↔OkW w0 w1 w2):b=okW w0 w1 w2:=Bool.eq_iff_iff.2 (h.trans qva.symm)
section
variable (w0 : Int) (w1 : List (Int × Int)) (w2 : List Int) (h1 : w1.length ≤ 1000000000000000000) (h2 : w2.length ≤ 1000000000000000000)
include h1 h2
theorem qny:Rn (fun k=>qeE k w0 w1 w2) (okW w0 w1 w2):=by
 refine Rn.up (f:=fun k=>qeE k w0 w1 w2) ?_
 show Rn (fun k=>qh1 k w0 w1 w2) _
 unfold qh1
 obtain⟨o,ho,hv⟩:=qvb w0 w1 w2 h1 h2
 refine Rn.bind ho.diag ?_
 rcases hv with ⟨hv,rfl⟩ | ⟨hv,a,ha,rfl⟩
 case inr=>
  have:okW w0 w1 w2=false:=qjz.2 fun h=>hv h.vals
  rw [this,←ha]
  exact Rn.pure _
 show Rn (fun k=>Option.bind (qa9 k k w2 w2.length 0 w0 w1 w2) _) _
 obtain⟨o,ho,hs⟩:=qvc w0 w1 w2 h1 h2
 refine Rn.bind ho.diag ?_
 rcases hs with ⟨hs,rfl⟩ | ⟨hs,a,ha,rfl⟩
 case inr=>
  have:okW w0 w1 w2=false:=qjz.2 fun h=>hs h.steps
  rw [this,←ha]
  exact Rn.pure _
 have hk:OkW w0 w1 w2↔_:=⟨fun h=>h.kind,fun h=>⟨hv,hs,h⟩⟩
 by_cases k1:w0=1
 ·refine Rn.t (by simp [k1]) (Rn.eq 0 fun k _=> ?_)
  dsimp only
  repeat' split
  all_goals refine congrArg some (qcW (Iff.trans ?_ hk.symm))
  all_goals simp only [beq_iff_eq,decide_eq_true_eq,Bool.false_eq_true,false_iff,Bool.not_eq_true] at*
  all_goals omega
 refine Rn.f (by simpa using k1) ?_
 by_cases k2:w0=2
 ·refine Rn.t (by simp [k2]) ?_
  by_cases l1:w1.length=2
  ·refine Rn.t (by simp [l1]) ?_
   by_cases l2:w2.length=5
   ·refine Rn.t (by simp [l2]) ?_
    refine Rn.at (getD_some 0 (by show 4<w2.length;omega)) ?_
    by_cases l3:w2.getD 4 0≥1
    ·refine Rn.t (decide_eq_true l3) (Rn.at (getD_some 0 (by show 1<w2.length;omega)) (Rn.at (getD_some 0 (by show 2<w2.length;omega)) (Rn.at (getD_some 0 (by show 3<w2.length;omega)) (Rn.at (getD_some 0 (by show 4<w2.length;omega)) (Rn.const (congrArg some (qcW (Iff.trans ?_ hk.symm))))))))
     have s1:=hs 1 (by omega) (by omega)
     have s2:=hs 2 (by omega) (by omega)
     have s3:=hs 3 (by omega) (by omega)
     dsimp only
     rw [qe (x:=w2.getD 1 0+w2.getD 2 0) (by omega),qe (by omega),decide_eq_true_eq]
     constructor
     ·intro h;exact .inr (.inl ⟨k2,l1,l2,l3,h⟩)
     ·rintro(⟨a,_⟩ | ⟨_,_,_,_,h⟩ | ⟨a,_⟩ | ⟨a,_⟩)<;>omega
    ·refine Rn.f (by rw [decide_eq_true_eq];exact l3) (Rn.const (congrArg some (qcW (Iff.trans ?_ hk.symm))))
     simp only [Bool.false_eq_true,false_iff]
     omega
   ·refine Rn.f (by simpa using (by omega:¬(w2.length:Int)=5)) (Rn.const (congrArg some (qcW (Iff.trans ?_ hk.symm))))
    simp only [Bool.false_eq_true,false_iff]
    omega
  ·refine Rn.f (by simpa using (by omega:¬(w1.length:Int)=2)) (Rn.const (congrArg some (qcW (Iff.trans ?_ hk.symm))))
   simp only [Bool.false_eq_true,false_iff]
   omega
 refine Rn.f (by simpa using k2) ?_
 by_cases k3:w0=3
 ·refine Rn.t (by simp [k3]) ?_
  by_cases l0:w2.length=0
  ·have e5:Rn (fun k=>qaE k k 1 w0 w1 w2) (.inr (w0,w1,w2)):=Rn.eq 1 fun k hk=>by
    obtain⟨k,rfl⟩:∃m,k=m+1:=⟨k-1,by omega⟩
    show qbL (k+1) (qaE (k+1) k) _ _ _ _=_
    unfold qbL
    exact if_neg (by rw [l0];decide)
   refine Rn.bind e5 (Rn.eq 0 fun k _=> ?_)
   show(if _ then _ else _)=_
   dsimp only
   repeat' split
   all_goals refine congrArg some (qcW (Iff.trans ?_ hk.symm))
   all_goals simp only [beq_iff_eq,decide_eq_true_eq,Bool.false_eq_true,false_iff,Bool.not_eq_true] at*
   all_goals omega
  obtain⟨o,ho,h5⟩:=qvd w0 w1 w2 h1 h2 (by omega)
  refine Rn.bind ho.diag ?_
  rcases h5 with ⟨h5,rfl⟩ | ⟨h5,a,ha,rfl⟩
  case inr=>
   have:okW w0 w1 w2=false:=qjz.2 fun h=>by
    rcases h.kind with g | g | g | g
    ·omega
    ·omega
    ·exact h5 g.2.2.2.2
    ·omega
   rw [this,←ha]
   exact Rn.pure _
  refine Rn.eq 0 fun k _=> ?_
  show(if _ then _ else _)=_
  dsimp only
  have hk3:OkW w0 w1 w2↔(w1.length=w2.length∧1≤w1.length∧w1.length≤16):=hk.trans ⟨fun g=>by
   rcases g with g | g | g | g
   ·omega
   ·omega
   ·exact⟨g.2.1,g.2.2.1,g.2.2.2.1⟩
   ·omega,fun g=> .inr (.inr (.inl ⟨k3,g.1,g.2.1,g.2.2,h5⟩))⟩
  repeat' split
  all_goals refine congrArg some (qcW (Iff.trans ?_ hk3.symm))
  all_goals simp only [beq_iff_eq,decide_eq_true_eq,Bool.false_eq_true,false_iff,Bool.not_eq_true] at*
  all_goals omega
 refine Rn.f (by simpa using k3) ?_
 by_cases k4:w0=4
 ·refine Rn.t (by simp [k4]) (Rn.eq 0 fun k _=> ?_)
  dsimp only
  repeat' split
  all_goals refine congrArg some (qcW (Iff.trans ?_ hk.symm))
  all_goals simp only [beq_iff_eq,decide_eq_true_eq,Bool.false_eq_true,false_iff,Bool.not_eq_true] at*
  all_goals omega
 refine Rn.f (by simpa using k4) (Rn.const (congrArg some (qcW (Iff.trans ?_ hk.symm))))
 simp only [Bool.false_eq_true,false_iff]
 omega
theorem qp0:Rn (fun k=>qX k w0 w1 w2) (okW w0 w1 w2):=by
 refine Rn.up (f:=fun k=>qX k w0 w1 w2) ?_
 show Rn (fun k=>qfv k w0 w1 w2) _
 unfold qfv
 obtain⟨o,ho,hv⟩:=qve w0 w1 w2 h1 h2
 refine Rn.bind ho.diag ?_
 rcases hv with ⟨hv,rfl⟩ | ⟨hv,a,ha,rfl⟩
 case inr=>
  have:okW w0 w1 w2=false:=qjz.2 fun h=>hv h.vals
  rw [this,←ha]
  exact Rn.pure _
 show Rn (fun k=>Option.bind (qK k k 0 w0 w1 w2) _) _
 obtain⟨o,ho,hs⟩:=qvf w0 w1 w2 h1 h2
 refine Rn.bind ho.diag ?_
 rcases hs with ⟨hs,rfl⟩ | ⟨hs,a,ha,rfl⟩
 case inr=>
  have:okW w0 w1 w2=false:=qjz.2 fun h=>hs h.steps
  rw [this,←ha]
  exact Rn.pure _
 have hk:OkW w0 w1 w2↔_:=⟨fun h=>h.kind,fun h=>⟨hv,hs,h⟩⟩
 by_cases k1:w0=1
 ·refine Rn.t (by simp [k1]) (Rn.eq 0 fun k _=> ?_)
  dsimp only
  repeat' split
  all_goals refine congrArg some (qcW (Iff.trans ?_ hk.symm))
  all_goals simp only [beq_iff_eq,decide_eq_true_eq,Bool.false_eq_true,false_iff,Bool.not_eq_true] at*
  all_goals omega
 refine Rn.f (by simpa using k1) ?_
 by_cases k2:w0=2
 ·refine Rn.t (by simp [k2]) ?_
  by_cases l1:w1.length=2
  ·refine Rn.t (by simp [l1]) ?_
   by_cases l2:w2.length=5
   ·refine Rn.t (by simp [l2]) ?_
    refine Rn.at (getD_some 0 (by show 4<w2.length;omega)) ?_
    by_cases l3:w2.getD 4 0>0
    ·refine Rn.t (decide_eq_true l3) (Rn.at (getD_some 0 (by show 1<w2.length;omega)) (Rn.at (getD_some 0 (by show 2<w2.length;omega)) (Rn.at (getD_some 0 (by show 3<w2.length;omega)) (Rn.at (getD_some 0 (by show 4<w2.length;omega)) (Rn.const (congrArg some (qcW (Iff.trans ?_ hk.symm))))))))
     have s1:=hs 1 (by omega) (by omega)
     have s2:=hs 2 (by omega) (by omega)
     have s3:=hs 3 (by omega) (by omega)
     dsimp only
     rw [qe (x:=w2.getD 1 0+w2.getD 2 0) (by omega),qe (by omega),decide_eq_true_eq]
     constructor
     ·intro h;exact .inr (.inl ⟨k2,l1,l2,l3,h⟩)
     ·rintro(⟨a,_⟩ | ⟨_,_,_,_,h⟩ | ⟨a,_⟩ | ⟨a,_⟩)<;>omega
    ·refine Rn.f (by rw [decide_eq_true_eq];exact l3) (Rn.const (congrArg some (qcW (Iff.trans ?_ hk.symm))))
     simp only [Bool.false_eq_true,false_iff]
     omega
   ·refine Rn.f (by simpa using (by omega:¬(w2.length:Int)=5)) (Rn.const (congrArg some (qcW (Iff.trans ?_ hk.symm))))
    simp only [Bool.false_eq_true,false_iff]
    omega
  ·refine Rn.f (by simpa using (by omega:¬(w1.length:Int)=2)) (Rn.const (congrArg some (qcW (Iff.trans ?_ hk.symm))))
   simp only [Bool.false_eq_true,false_iff]
   omega
 refine Rn.f (by simpa using k2) ?_
 by_cases k3:w0=3
 ·refine Rn.t (by simp [k3]) ?_
  by_cases l0:w1.length=w2.length∧1≤w1.length∧w1.length≤16
  ·refine Rn.t (by rw [beq_iff_eq];show(w1.length:Int)=w2.length;omega) (Rn.t (decide_eq_true (by show(w1.length:Int)≥1;omega)) (Rn.t (decide_eq_true (by show(w1.length:Int)≤16;omega)) ?_))
   obtain⟨b,hb,h5⟩:=qrw w2 h2 (by omega)
   have:b=okW w0 w1 w2:=qcW (h5.trans (Iff.trans ⟨fun g=> .inr (.inr (.inl ⟨k3,l0.1,l0.2.1,l0.2.2,g⟩)),fun g=>by
    rcases g with g | g | g | g
    ·omega
    ·omega
    ·exact g.2.2.2.2
    ·omega⟩ hk.symm))
   rw [←this]
   exact Rn.bind hb (Rn.pure _)
  ·have:okW w0 w1 w2=false:=qjz.2 fun h=>by have:=h.kind;omega
   rw [this]
   by_cases c1:w1.length=w2.length
   ·refine Rn.t (by rw [beq_iff_eq];show(w1.length:Int)=w2.length;omega) ?_
    by_cases c2:1≤w1.length
    ·refine Rn.t (decide_eq_true (by show(w1.length:Int)≥1;omega)) (Rn.f (by rw [decide_eq_true_eq];show ¬(w1.length:Int)≤16;omega) (Rn.pure _))
    ·exact Rn.f (by rw [decide_eq_true_eq];show ¬(w1.length:Int)≥1;omega) (Rn.pure _)
   ·exact Rn.f (by rw [beq_iff_eq];show ¬(w1.length:Int)=w2.length;omega) (Rn.pure _)
 refine Rn.f (by simpa using k3) ?_
 by_cases k4:w0=4
 ·refine Rn.t (by simp [k4]) (Rn.eq 0 fun k _=> ?_)
  dsimp only
  repeat' split
  all_goals refine congrArg some (qcW (Iff.trans ?_ hk.symm))
  all_goals simp only [beq_iff_eq,decide_eq_true_eq,Bool.false_eq_true,false_iff,Bool.not_eq_true] at*
  all_goals omega
 refine Rn.f (by simpa using k4) (Rn.const (congrArg some (qcW (Iff.trans ?_ hk.symm))))
 simp only [Bool.false_eq_true,false_iff]
 omega
end

def qed (w1:List (Int×Int)) (j:Nat):Rat:=qiL (w1.getD j (0,0)).1 (w1.getD j (0,0)).2
section
variable {w0 : Int} {w1 : List (Int × Int)} {w2 : List Int} (hw : OkW w0 w1 w2) {step : Int} (h0 : 0 ≤ step) (h1 : step ≤ 1000000000)
include hw h0 h1
end
theorem qp1 (c:Int) (hc:c≤18) (x0:Bool) (x1:Nat) (ms:List Int):∀(n:Nat) (i:Int) (s:Bool) (z:List Int) (p:Int),0≤i→i+n=c→Nm U s z p→(z.length:Int)≤4+4*i→
  ∃s' z',Rl (fun k m=>qbn k m c i x0 x1 s z ms) (x0,x1,s',z',ms)∧Nm U s' z' (p*((10^n:Nat):Int))∧z'.length≤80:=by
 intro n
 induction n with
 | zero=>
  intro i s z p h0 hi nz hz
  refine⟨s,z,Rl.up (f:=fun k m=>qbn k m c i x0 x1 s z ms) (Rl.of 0 fun k m _=> ?_),nz.cast (by simp),by omega⟩
  show qco k (qbn k m) _ _ _ _ _ _ _=_
  unfold qco
  exact if_neg (by simp;omega)
 | succ n ih=>
  intro i s z p h0 hi nz hz
  obtain⟨t,t1,t2,t3⟩:=qhG 10 (by decide)
  obtain⟨s1,p1,a1,a2,a3⟩:=qgR s _ z t nz t2 (by omega) (by omega)
  obtain⟨s',z',b1,b2,b3⟩:=ih (i+1) s1 p1 (p*10) (by omega) (by omega) a2 (by omega)
  refine⟨s',z',Rl.up (f:=fun k m=>qbn k m c i x0 x1 s z ms) ?_,b2.cast (by rw [Nat.pow_succ];grind),b3⟩
  show Rl (fun k m=>qco k (qbn k m) _ _ _ _ _ _ _) _
  unfold qco
  refine Rl.t (decide_eq_true (by omega)) (Rl.bind t1 (Rl.bind a1 ?_))
  rw [qe (by omega)]
  exact b1
theorem qnz (c:Int) (h:0≤c∧c≤18):∃s z,Rn (fun k=>qdb k c) (s,z)∧Nm U s z ((10^c.toNat:Nat):Int)∧z.length≤80:=by
 obtain⟨l,a1,a2,a3⟩:=qhG 1 (by decide)
 obtain⟨s,z,c1,c2,c3⟩:=qp1 c (by omega) false 0 [] c.toNat 0 _ l 1 (by omega) (by omega) a2 (by omega)
 exact⟨s,z,Rn.up (f:=fun k=>qdb k c) (Rn.bind a1 (Rn.bind c1.diag (Rn.pure _))),c2.cast (by simp),c3⟩
theorem qoM {m e:Int} (h:okN m e=true):∃s p t r,Rn (fun k=>qcb k m e) (s,p,t,r)∧FrU s p t r (qiL m e)∧p.length≤90∧r.length≤90:=by
 have hr:=qoL h
 obtain⟨l,b1,b2,b3⟩:=qtc m (by omega)
 have up:∀ {q},Rn (fun k=>qic k m e) q→Rn (fun k=>qcb k m e) q:=fun h=>Rn.up (f:=fun k=>qcb k m e) h
 by_cases he:e<0
 ·obtain⟨s1,z1,a1,a2,a3⟩:=qnz (-e) (by omega)
  have hpos:=qlE (-e).toNat
  obtain⟨s,p,t,r,c1,c2,c3,c4⟩:=qpZ _ _ l z1 b2 a2 (by omega) (by omega) (by omega)
  refine⟨s,p,t,r,up (Rn.bind b1 (Rn.t (decide_eq_true he) ?_)),c2.cast (by rw [qiL,if_pos he]),by omega,by omega⟩
  rw [qe (by omega),show 0-e= -e by omega]
  exact Rn.bind a1 (Rn.bind c1 (Rn.pure _))
 ·obtain⟨s1,z1,a1,a2,a3⟩:=qnz e (by omega)
  obtain⟨s2,p2,d1,d2,d3⟩:=qgR _ s1 l z1 b2 a2 (by omega) (by omega)
  obtain⟨o,o1,o2,o3⟩:=qhG 1 (by decide)
  refine⟨s2,p2,_,o,up (Rn.bind b1 (Rn.f (by rw [decide_eq_true_eq];exact he) (Rn.bind a1 (Rn.bind d1 (Rn.bind o1 (Rn.pure _)))))),(qu9 d2 o2).cast (by rw [qiL,if_neg he,Int.mul_comm]),by omega,by omega⟩
section
variable {w0 : Int} {w1 : List (Int × Int)} {w2 : List Int} {step : Int} {x0 x2 : Bool} {x1 x3 : Nat} {m m1 : List Int} (hl : w2.length ≤ 16)
include hl
end
def nmB (x:Int):Bool:=decide (97≤x∧x≤122∨48≤x∧x≤57∨x=95)
def byL (s:ByteArray):List Int:=s.data.toList.map fun b:UInt8=>((b.toNat:Nat):Int)
theorem qoN (s:ByteArray):(byL s).length=s.size:=by unfold byL;rw [List.length_map];exact Array.length_toList
def qdP (s:ByteArray):Bool:=(byL s).all nmB && decide (1≤s.size∧s.size≤16)
theorem qgf {l:List Int} {p:Int→Bool}:l.all p=true↔∀j,0≤j→j<l.length→p (l.getD j 0)=true:=by
 rw [List.all_eq_true]
 constructor
 ·intro h j _ hj
  have:=h (l[j]'hj) (List.getElem_mem hj)
  simpa [List.getD,hj] using this
 ·intro h x hx
  obtain⟨j,hj,rfl⟩:=List.mem_iff_getElem.1 hx
  have:=h j (Nat.zero_le _) hj
  simpa [List.getD,hj] using this
theorem qrx (l:List Int) (hl:l.length≤1000000000000000000):∃o,Rl (fun k n=>qbH k n l l.length 0) o∧((∀j,0≤j→j<l.length→nmB (l.getD j 0)=true)∧o= .inr ()∨(¬ ∀j,0≤j→j<l.length→nmB (l.getD j 0)=true)∧∃a:Bool,a=false∧o= .inl a):=by
 have key:∀(k:Nat) (rec:List Int→Int→Int→Option (Bool ⊕ Unit)) (i:Nat),i<l.length→qcC k rec l l.length i=if nmB (l.getD i 0)=true then rec l l.length ((i:Int)+1)else some (.inl false):=by
  intro k rec i hi
  unfold qcC nmB
  rw [if_pos (decide_eq_true (by omega)),if_pos (by omega),Int.toNat_natCast,getD_some 0 hi,qe (by omega)]
  simp only [Option.bind_some,decide_eq_true_eq,decide_eq_false_iff_not,Bool.not_eq_true',beq_eq_false_iff_ne]
  repeat' split
  all_goals first | rfl | (exfalso;omega)
 refine qdG l.length 0 (fun k n i=>qbH k n l l.length i) () (fun a=>a=false) (fun j=>nmB (l.getD j 0)=true) ?_ ?_ ?_ l.length 0 (by omega) (by omega)
 ·refine Rl.up (f:=fun k n=>qbH k n l l.length l.length) (Rl.of 0 fun k n _=> ?_)
  show qcC k (qbH k n) _ _ _=_
  unfold qcC
  exact if_neg (by simp)
 ·intro i hs hi hok o ho
  refine Rl.up (f:=fun k n=>qbH k n l l.length i) ?_
  show Rl (fun k n=>qcC k (qbH k n) _ _ _) _
  simp only [key _ _ i hi,hok,if_true]
  exact ho
 ·intro i hs hi hok
  refine⟨false,rfl,Rl.up (f:=fun k n=>qbH k n l l.length i) ?_⟩
  show Rl (fun k n=>qcC k (qbH k n) _ _ _) _
  simp only [key _ _ i hi,hok]
  exact Rl.pure _
theorem qoO (s:ByteArray) (hs:s.size≤1000000000000000000):Rn (fun k=>qfK k s) (qdP s):=by
 refine Rn.up (f:=fun k=>qfK k s) ?_
 show Rn (fun k=>qh0 k s) _
 unfold qh0 qdP
 by_cases h1:s.size<1
 ·refine Rn.f (by rw [decide_eq_false_iff_not];omega) ?_
  rw [show decide (1≤s.size∧s.size≤16)=false from decide_eq_false (by omega),Bool.and_false]
  exact Rn.pure _
 refine Rn.t (by rw [decide_eq_false_iff_not];omega) ?_
 by_cases h2:s.size>16
 ·refine Rn.t (decide_eq_true (by omega)) ?_
  rw [show decide (1≤s.size∧s.size≤16)=false from decide_eq_false (by omega),Bool.and_false]
  exact Rn.pure _
 refine Rn.f (by rw [decide_eq_true_eq];omega) ?_
 rw [show decide (1≤s.size∧s.size≤16)=true from decide_eq_true (by omega),Bool.and_true]
 obtain⟨o,h3,h4⟩:=qrx (byL s) (by rw [qoN];exact hs)
 refine Rn.bind h3.diag ?_
 rcases h4 with ⟨h4,rfl⟩ | ⟨h4,a,rfl,rfl⟩
 ·rw [qgf.2 h4];exact Rn.pure _
 ·rw [Bool.eq_false_iff.2 fun h=>h4 (qgf.1 h)];exact Rn.pure _
theorem qup {s:ByteArray} {i:Nat} (hi:i<s.size):∃b:UInt8,s.data[i]? =some b∧(byL s).getD i 0=(b.toNat:Int):=by
 have hi':i<s.data.size:=hi
 refine⟨s.data[i],Array.getElem?_eq_getElem hi',?_⟩
 unfold byL
 rw [List.getD_eq_getElem?_getD,List.getElem?_map,Array.getElem?_toList,Array.getElem?_eq_getElem hi']
 rfl
theorem qp2 (s:ByteArray) (hs:s.size≤1000000000000000000):∃o,Rl (fun k n=>qac k n s 0) o∧((∀j,0≤j→j<(byL s).length→nmB ((byL s).getD j 0)=true)∧o= .inr s∨(¬ ∀j,0≤j→j<(byL s).length→nmB ((byL s).getD j 0)=true)∧∃a:Bool,a=false∧o= .inl a):=by
 have hl:=qoN s
 have key:∀(k:Nat) (rec:ByteArray→Int→Option (Bool ⊕ ByteArray)) (i:Nat),i<s.size→qbj k rec s i=if nmB ((byL s).getD i 0)=true then rec s ((i:Int)+1)else some (.inl false):=by
  intro k rec i hi
  obtain⟨b,h1,h2⟩:=qup hi
  unfold qbj nmB
  rw [if_pos (decide_eq_true (by omega)),if_pos (by omega),Int.toNat_natCast,h1,h2,qe (by omega)]
  simp only [Option.bind_some,decide_eq_true_eq,decide_eq_false_iff_not,bne_iff_ne,ne_eq]
  repeat' split
  all_goals first | rfl | (exfalso;omega)
 refine qdG (byL s).length 0 (fun k n i=>qac k n s i) s (fun a=>a=false) (fun j=>nmB ((byL s).getD j 0)=true) ?_ ?_ ?_ (byL s).length 0 (by omega) (by omega)
 ·refine Rl.up (f:=fun k n=>qac k n s (byL s).length) (Rl.of 0 fun k n _=> ?_)
  show qbj k (qac k n) _ _=_
  unfold qbj
  exact if_neg (by rw [decide_eq_true_eq];omega)
 ·intro i hs hi hok o ho
  refine Rl.up (f:=fun k n=>qac k n s i) ?_
  show Rl (fun k n=>qbj k (qac k n) _ _) _
  simp only [key _ _ i (by omega),hok,if_true]
  exact ho
 ·intro i hs hi hok
  refine⟨false,rfl,Rl.up (f:=fun k n=>qac k n s i) ?_⟩
  show Rl (fun k n=>qbj k (qac k n) _ _) _
  simp only [key _ _ i (by omega),hok]
  exact Rl.pure _
theorem qkd (s:ByteArray) (hs:s.size≤1000000000000000000):Rn (fun k=>qcJ k s) (qdP s):=by
 refine Rn.up (f:=fun k=>qcJ k s) ?_
 show Rn (fun k=>qf4 k s) _
 unfold qf4 qdP
 obtain⟨o,h3,h4⟩:=qp2 s hs
 refine Rn.bind h3.diag ?_
 rcases h4 with ⟨h4,rfl⟩ | ⟨h4,a,rfl,rfl⟩
 ·rw [qgf.2 h4,Bool.true_and]
  by_cases h1:1≤s.size
  ·refine Rn.t (decide_eq_true (by omega)) ?_
   rw [show decide (((s.size:Nat):Int)≤16)=decide (1≤s.size∧s.size≤16)from decide_eq_decide.2 (by omega)]
   exact Rn.pure _
  ·refine Rn.f (by rw [decide_eq_true_eq];omega) ?_
   rw [show decide (1≤s.size∧s.size≤16)=false from decide_eq_false (by omega)]
   exact Rn.pure _
 ·rw [Bool.eq_false_iff.2 fun h=>h4 (qgf.1 h)];exact Rn.pure _
def pcs (c:UInt8):List UInt8→List (List UInt8)
 | []=> [[]]
 | x::r=>if x=c then []::pcs c r else((x::(pcs c r).headD [])::(pcs c r).drop 1)
theorem qyW (c:UInt8):∀l,pcs c l≠ []
 | []=>by simp [pcs]
 | x::r=>by unfold pcs;split<;>simp
theorem qoP (c:UInt8):∀l,(pcs c l).length=Go.Lib.countByte l c+1
 | []=>rfl
 | x::r=>by
  have ih:=qoP c r
  unfold Go.Lib.countByte at ih ⊢
  unfold pcs
  by_cases h:x=c
  ·subst h
   rw [if_pos rfl,List.length_cons,ih,List.count_cons_self]
  ·rw [if_neg h,List.length_cons,List.length_drop,ih,List.count_cons_of_ne h]
   omega
theorem qnA (c:UInt8):∀l,Go.Lib.countByte l c=0→pcs c l= [l]
 | [],_=>rfl
 | x::r,h=>by
  unfold Go.Lib.countByte at h
  by_cases e:x=c
  ·subst e;rw [List.count_cons_self] at h;omega
  ·rw [List.count_cons_of_ne e] at h
   unfold pcs
   rw [if_neg e,qnA c r h]
   rfl
theorem qoQ (c:UInt8):∀(l:List UInt8),0<Go.Lib.countByte l c→∃o:Nat,Go.Lib.indexByte l c=(o:Int)∧o<l.length∧pcs c l=l.take o::pcs c (l.drop (o+1))∧Go.Lib.countByte l c=Go.Lib.countByte (l.drop (o+1)) c+1
 | [],h=>by simp [Go.Lib.countByte] at h
 | x::r,h=>by
  unfold Go.Lib.countByte at h
  by_cases e:x=c
  ·subst e
   refine⟨0,?_,by simp,?_,?_⟩
   ·unfold Go.Lib.indexByte;simp
   ·rw [pcs,if_pos rfl];simp
   ·unfold Go.Lib.countByte;rw [List.count_cons_self];simp
  ·rw [List.count_cons_of_ne e] at h
   obtain⟨o,h1,h2,h3,h4⟩:=qoQ c r h
   refine⟨o+1,?_,by simp;omega,?_,?_⟩
   ·unfold Go.Lib.indexByte
    have e1:(x == c)=false:=by simpa using e
    have e2:((o:Int) == -1)=false:=by rw [beq_eq_false_iff_ne];omega
    rw [h1,e1,e2]
    simp
   ·rw [pcs,if_neg e,h3];simp
   ·unfold Go.Lib.countByte at h4 ⊢
    rw [List.count_cons_of_ne e,h4];simp
abbrev dl (s:ByteArray):List UInt8:=s.data.toList
theorem qcX (s:ByteArray):(dl s).length=s.size:=by rw [Array.length_toList];rfl
theorem qkS (s:ByteArray) (a b:Nat):dl (s.extract a b)=((dl s).take b).drop a:=by
 unfold dl
 rw [ByteArray.data_extract,Array.toList_extract,List.extract_eq_take_drop,List.take_drop]
 by_cases h:a≤b
 ·rw [show a+(b-a)=b by omega]
 ·rw [List.drop_eq_nil_of_le (by rw [List.length_take];omega),List.drop_eq_nil_of_le (by rw [List.length_take];omega)]
def qfa (c:UInt8):ByteArray:=ByteArray.mk (List.toArray (c:: []))
theorem qry (c:UInt8):(qfa c).size=1:=rfl
theorem qrz (s:ByteArray) (c:UInt8):Rn (fun k=>qdp k s (qfa c)) (Go.Lib.indexByte (dl s) c):=by
 refine Rn.up (f:=fun k=>qdp k s (qfa c)) ?_
 show Rn (fun k=>qgP k s (qfa c)) _
 unfold qgP
 exact Rn.t rfl (Rn.pure _)
theorem qrA (s:ByteArray) (c:UInt8):Rn (fun k=>qdo k s (qfa c)) ((Go.Lib.countByte (dl s) c:Nat):Int):=by
 refine Rn.up (f:=fun k=>qdo k s (qfa c)) ?_
 show Rn (fun k=>qgO k s (qfa c)) _
 unfold qgO
 exact Rn.t rfl (Rn.pure _)
theorem qp3 (c:UInt8):∀(d:Nat) (s:ByteArray) (i:Nat) (as1:List ByteArray),Go.Lib.countByte (dl s) c=d→s.size≤1000000000000000→as1.length=i+d+1→i+d+1≤1000000000000000→
  ∃s' as',Rl (fun k q=>qaz k q s (qfa c) 0 ((i+d:Nat):Int) (i+d+1) (i:Int) as1) (s',i+d+1,((i+d:Nat):Int),as')∧as'.length=i+d+1∧(as'.take (i+d)).map dl++ [dl s']=(as1.take i).map dl++pcs c (dl s):=by
 intro d
 induction d with
 | zero=>
  intro s i as1 hc hs ha hi
  refine⟨s,as1,Rl.up (f:=fun k q=>qaz k q s (qfa c) 0 ((i+0:Nat):Int) (i+0+1) (i:Int) as1) ?_,ha,by rw [qnA c _ hc];rfl⟩
  show Rl (fun k q=>qcj k (qaz k q) _ _ _ _ _ _ _) _
  unfold qcj
  exact Rl.f (by rw [decide_eq_true_eq];omega) (Rl.pure _)
 | succ d ih=>
  intro s i as1 hc hs ha hi
  obtain⟨o,h1,h2,h3,h4⟩:=qoQ c (dl s) (by omega)
  rw [qcX] at h2
  have e1:dl (s.extract (o+1) s.size)=(dl s).drop (o+1):=by rw [qkS,List.take_of_length_le (by rw [qcX];omega)]
  have e2:dl (s.extract 0 o)=(dl s).take o:=by rw [qkS];rfl
  have e3:(s.extract (o+1) s.size).size≤s.size:=by rw [←qcX,e1,List.length_drop,qcX];omega
  obtain⟨s',as',b1,b2,b3⟩:=ih (s.extract (o+1) s.size) (i+1) (as1.set i (s.extract 0 o)) (by rw [e1];omega) (by omega) (by rw [List.length_set];omega) (by omega)
  rw [show i+1+d=i+(d+1) by omega] at b1 b2 b3
  refine⟨s',as',Rl.up (f:=fun k q=>qaz k q s (qfa c) 0 ((i+(d+1):Nat):Int) (i+(d+1)+1) (i:Int) as1) ?_,b2,?_⟩
  ·show Rl (fun k q=>qcj k (qaz k q) _ _ _ _ _ _ _) _
   unfold qcj
   have w1:IntKind.i64.wrap ((o:Int)+0)=(o:Int):=by rw [qe (by omega)];omega
   have w2:IntKind.i64.wrap ((o:Int)+(((qfa c).size:Nat):Int))=((o+1:Nat):Int):=by rw [qry,qe (by omega)];omega
   have hi1:=qrz s c
   rw [h1] at hi1
   refine Rl.t (by rw [decide_eq_true_eq];omega) (Rl.bind hi1 (Rl.f (by rw [decide_eq_true_eq];omega) ?_))
   rw [w1,w2,Nat.zero_add,Int.toNat_natCast,Int.toNat_natCast,Int.toNat_natCast,qe (x:=(i:Int)+1) (by omega)]
   exact Rl.t (by omega) (Rl.t (by omega) (Rl.at (x:=as1[i]'(by omega)) (List.getElem?_eq_getElem (by omega)) (Rl.t (by omega) b1)))
  ·rw [b3,e1,h3,List.take_set]
   rw [show(List.take (i+1) as1).set i (s.extract 0 o)=List.take i as1++ [s.extract 0 o] by
    rw [List.take_add_one,List.getElem?_eq_getElem (show i<as1.length by omega),List.set_append_right _ _ (by rw [List.length_take];omega),List.length_take]
    rw [show i-min i as1.length=0 by omega]
    rfl]
   rw [List.map_append,List.map_singleton,e2,List.append_assoc]
   rfl
theorem qnB (s:ByteArray) (c:UInt8):Go.Lib.countByte (dl s) c≤s.size:=by
 rw [←qcX];exact List.count_le_length
theorem qrB (s:ByteArray) (c:UInt8) (hs:s.size≤1000000000000):∃l:List ByteArray,Rn (fun k=>qfj k s (qfa c)) l∧l.map dl=pcs c (dl s):=by
 have hcl:=qnB s c
 obtain⟨s',as',b1,b2,b3⟩:=qp3 c (Go.Lib.countByte (dl s) c) s 0 (List.replicate (Go.Lib.countByte (dl s) c+1) (ByteArray.mk (List.toArray []))) rfl (by omega) (by simp) (by omega)
 rw [Nat.zero_add] at b1 b2 b3
 generalize hn:Go.Lib.countByte (dl s) c=n at b1 b2 b3 hcl
 refine⟨as'.take n++ [s'],?_,by rw [List.map_append,List.map_singleton,b3];rfl⟩
 refine Rn.up (f:=fun k=>qfj k s (qfa c)) ?_
 show Rn (fun k=>qgQ k s (qfa c)) _
 unfold qgQ
 refine Rn.bind ?_ (Rn.pure _)
 refine Rn.up (f:=fun k=>qfq k s (qfa c) 0 (-1)) ?_
 show Rn (fun k=>qfp k s (qfa c) 0 (-1)) _
 unfold qfp
 have hc:=qrA s c
 rw [hn] at hc
 refine Rn.f (by decide) (Rn.f (by simp [qfa]) (Rn.t (by decide) (Rn.bind hc ?_)))
 have w1:min (IntKind.i64.wrap ((n:Int)+1)) (IntKind.i64.wrap (((s.size:Nat):Int)+1))=((n+1:Nat):Int):=by
  rw [qe (by omega),qe (by omega)];omega
 have w2:IntKind.i64.wrap (((n+1:Nat):Int)-1)=(n:Int):=by rw [qe (by omega)];omega
 have w3:IntKind.i64.wrap ((n:Int)+1)=((n+1:Nat):Int):=by rw [qe (by omega)];omega
 rw [w1,w2,Int.toNat_natCast]
 refine Rn.t (by omega) (Rn.bind b1.diag ?_)
 show Rn (fun k=>if(((0:Int)≤(n:Int))∧((n:Int)<((n+1:Nat):Int)))then _ else _) _
 refine Rn.t (by omega) ?_
 have es:(as'.set n s')=as'.take n++ [s']:=by
  rw [List.set_eq_take_append_cons_drop,if_pos (by omega),List.drop_eq_nil_of_le (by omega)]
 have el:(as'.take n++ [s']).length=n+1:=by rw [List.length_append,List.length_take];simp;omega
 simp only [Int.toNat_natCast,Nat.zero_add,w3,es,el]
 refine Rn.at (x:=as'[n]'(by omega)) (List.getElem?_eq_getElem (by omega)) (Rn.t (by omega) (Rn.t (by omega) (Rn.const (congrArg some ?_))))
 exact List.take_of_length_le (by omega)
theorem qnC (F:Nat→Nat→List ByteArray→Int→Int→Option (Int ⊕ Unit)) (G:Nat→ByteArray→Option Bool) (ok:ByteArray→Bool) (s:List ByteArray) (hs:s.length≤1000000000000000000)
  (hF:∀k q x x1,F k (q+1) s x x1=if((decide (x1<x))=true)then(if((0:Int)≤x1)then Option.bind s[x1.toNat]? (fun x4=>Option.bind (G k x4) (fun r4=>if r4=true then some (Sum.inl x1)else F k q s x (IntKind.i64.wrap (x1+1))))else none)else some (Sum.inr ()))
  (hG:∀p∈s,Rn (fun k=>G k p) (!ok p)):∃o,Rl (fun k q=>F k q s s.length 0) o∧(s.all ok=true∧o= .inr ()∨s.all ok=false∧∃a:Int,0≤a∧o= .inl a):=by
 obtain⟨o,h1,h2⟩:=qdG s.length 0 (fun k q i=>F k q s s.length i) () (fun a=>0≤a) (fun j=>∀p,s[j]? =some p→ok p=true) (by
   refine Rl.up (f:=fun k q=>F k q s s.length s.length) ?_
   simp only [hF]
   exact Rl.f (by simp) (Rl.pure _)) (by
   intro i hs0 hi hok o ho
   refine Rl.up (f:=fun k q=>F k q s s.length (i:Int)) ?_
   simp only [hF]
   have eg:=List.getElem?_eq_getElem hi
   have hg:=hG _ (List.getElem_mem hi)
   rw [hok _ eg] at hg
   refine Rl.t (by rw [decide_eq_true_eq];omega) (Rl.t (by omega) (Rl.at (by rw [Int.toNat_natCast];exact eg) (Rl.bind hg (Rl.f (by decide) ?_))))
   rw [qe (x:=(i:Int)+1) (by omega)]
   exact ho) (by
   intro i hs0 hi hok
   refine⟨(i:Int),by omega,Rl.up (f:=fun k q=>F k q s s.length (i:Int)) ?_⟩
   simp only [hF]
   have eg:=List.getElem?_eq_getElem hi
   have hg:=hG _ (List.getElem_mem hi)
   have hb:ok (s[i]'hi)=false:=by
    cases hb:ok (s[i]'hi)with
    | false=>rfl
    | true=>exact absurd (fun p hp=>by rw [eg] at hp;cases hp;exact hb) hok
   rw [hb] at hg
   exact Rl.t (by rw [decide_eq_true_eq];omega) (Rl.t (by omega) (Rl.at (by rw [Int.toNat_natCast];exact eg) (Rl.bind hg (Rl.t (by decide) (Rl.pure _)))))) s.length 0 (by omega) (by omega)
 have hall:s.all ok=true↔∀j,0≤j→j<s.length→∀p,s[j]? =some p→ok p=true:=by
  rw [List.all_eq_true]
  constructor
  ·intro h j _ hj p hp;exact h p (List.mem_of_getElem? hp)
  ·intro h p hp
   obtain⟨j,hj,e⟩:=List.mem_iff_getElem.1 hp
   exact h j (Nat.zero_le _) hj p (by rw [List.getElem?_eq_getElem hj,e])
 refine⟨o,h1,?_⟩
 rcases h2 with ⟨h2,rfl⟩ | ⟨h2,a,ha,rfl⟩
 ·exact .inl ⟨hall.2 h2,rfl⟩
 ·exact .inr ⟨by rw [←Bool.not_eq_true,hall];exact h2,a,ha,rfl⟩
def qhn (l:List UInt8):Bool:=(l.map fun b:UInt8=>((b.toNat:Nat):Int)).all nmB && decide (1≤l.length∧l.length≤16)
theorem qlG (s:ByteArray):qdP s=qhn (dl s):=by
 unfold qdP qhn byL
 rw [qcX]
def qte (l:List UInt8):Bool:=decide ((pcs 46 l).length≤9) && (pcs 46 l).all qhn
def qb0 (s:ByteArray):Bool:=qte (dl s)
theorem qrC (l:List ByteArray) (m:List (List UInt8)) (h:l.map dl=m):l.all qdP=m.all qhn:=by
 subst h
 rw [List.all_map]
 congr 1
theorem qn6 (s:ByteArray) (hs:s.size≤1000000000000000000):Rn (fun k=>qhm k s) (qdP s):=by
 refine Rn.up (f:=fun k=>qhm k s) ?_
 show Rn (fun k=>qiC k s) _
 unfold qiC
 exact Rn.bind (qoO s hs) (Rn.pure _)
theorem qnD (c:UInt8) (n:Nat):∀l:List UInt8,l.length≤n→∀p∈pcs c l,p.length≤n
 | [],_,p,hp=>by simp [pcs] at hp;subst hp;simp
 | x::r,hl,p,hp=>by
  have ih:=qnD c (n-1) r (by simp at hl;omega)
  simp only [List.length_cons] at hl
  unfold pcs at hp
  split at hp
  ·rcases List.mem_cons.1 hp with rfl | hp
   ·simp
   ·have:=ih p hp;omega
  ·rcases List.mem_cons.1 hp with rfl | hp
   ·have h1:(pcs c r).headD []∈pcs c r:=by
     cases h:pcs c r with
     | nil=>exact absurd h (qyW c r)
     | cons a b=>simp
    have:=ih _ h1
    simp only [List.length_cons];omega
   ·have:=ih p (List.mem_of_mem_drop hp);omega
theorem qp4 {s:ByteArray} {l:List ByteArray} {c:UInt8} (h:l.map dl=pcs c (dl s)):∀p∈l,p.size≤s.size:=by
 intro p hp
 have:dl p∈pcs c (dl s):=by rw [←h];exact List.mem_map_of_mem hp
 have:=qnD c s.size (dl s) (by rw [qcX];exact Nat.le_refl _) _ this
 rwa [qcX] at this
theorem qp5 {s:ByteArray} {l:List ByteArray} {c:UInt8} (h:l.map dl=pcs c (dl s)):l.length=(pcs c (dl s)).length∧l.length≤s.size+1:=by
 have e:l.length=(pcs c (dl s)).length:=by rw [←h,List.length_map]
 refine⟨e,?_⟩
 rw [e,qoP]
 have:=qnB s c
 omega
theorem qke (s:ByteArray) (hs:s.size≤1000000000000):Rn (fun k=>qfk k s) (qb0 s):=by
 obtain⟨l,h1,h2⟩:=qrB s 46 hs
 obtain⟨h3,h4⟩:=qp5 h2
 refine Rn.up (f:=fun k=>qfk k s) ?_
 show Rn (fun k=>qiD k s) _
 unfold qiD qb0 qte
 refine Rn.bind h1 ?_
 by_cases c:l.length≤9
 ·obtain⟨o,b1,b2⟩:=qnC qbf qgz qdP l (by omega) (fun _ _ _ _=>rfl) (fun p hp=>by
   have:=qp4 h2 p hp
   refine Rn.up (f:=fun k=>qgz k p) ?_
   show Rn (fun k=>qhB k p) _
   unfold qhB
   exact Rn.bind (qn6 p (by omega)) (Rn.pure _))
  rw [qrC l _ h2] at b2
  refine Rn.t (by rw [decide_eq_true_eq];omega) (Rn.bind (x:= !(pcs 46 (dl s)).all qhn) ?_ (Rn.const (congrArg some ?_)))
  ·refine Rn.up (f:=fun k=>qa8 k l) ?_
   show Rn (fun k=>qa7 k l) _
   unfold qa7
   have key:∀a,Rn (fun k=>qc o (fun r4=>some r4) (fun r4=>some (-1))) a→Rn (fun k=>qar k l) a:=by
    intro a h
    refine Rn.up (f:=fun k=>qar k l) ?_
    show Rn (fun k=>qbx k l) _
    unfold qbx
    exact Rn.bind b1.diag h
   rcases b2 with ⟨b2,rfl⟩ | ⟨b2,a,ha,rfl⟩
   ·rw [b2];exact Rn.bind (key _ (Rn.pure _)) (Rn.pure _)
   ·rw [b2];exact Rn.bind (key _ (Rn.pure _)) (Rn.const (congrArg some (decide_eq_true ha)))
  ·rw [decide_eq_true (by omega:(pcs 46 (dl s)).length≤9),Bool.not_not,Bool.true_and]
 ·refine Rn.f (by rw [decide_eq_true_eq];omega) (Rn.const (congrArg some ?_))
  rw [decide_eq_false (by omega:¬(pcs 46 (dl s)).length≤9),Bool.false_and]
theorem qoR (c:UInt8) (b:List UInt8):∀a:List UInt8,c∉a→pcs c (a++c::b)=a::pcs c b
 | [],_=>by simp [pcs]
 | x::a,h=>by
  have h1:x≠c:=fun e=>h (by simp [e])
  have h2:=qoR c b a (fun e=>h (by simp [e]))
  rw [List.cons_append,pcs,if_neg h1,h2]
  rfl
theorem qoS (c:UInt8):∀a:List UInt8,c∉a→pcs c a= [a]
 | [],_=>rfl
 | x::a,h=>by
  have h1:x≠c:=fun e=>h (by simp [e])
  have h2:=qoS c a (fun e=>h (by simp [e]))
  rw [pcs,if_neg h1,h2]
  rfl
theorem qp6 (s:ByteArray) (hs:s.size≤1000000000000000):∀(d i fr:Nat) (parts:Int),i+d=s.size→fr≤i→(46:UInt8)∉((dl s).take i).drop fr→0≤parts→parts≤i→
  Rl (fun k q=>qat k q s parts (fr:Int) (i:Int)) (if(pcs 46 ((dl s).drop fr)).all qhn=true then .inr (parts+((pcs 46 ((dl s).drop fr)).length:Nat))else .inl false):=by
 intro d
 induction d with
 | zero=>
  intro i fr parts e hf hd h0 h1
  have ei:i=s.size:=by omega
  subst ei
  rw [List.take_of_length_le (by rw [qcX];exact Nat.le_refl _)] at hd
  have ep:=qoS 46 _ hd
  rw [ep]
  have hx:dl (s.extract fr s.size)=(dl s).drop fr:=by rw [qkS,List.take_of_length_le (by rw [qcX];exact Nat.le_refl _)]
  have hn:=qkd (s.extract fr s.size) (by have:(s.extract fr s.size).size=(dl (s.extract fr s.size)).length:=(qcX _).symm;rw [this,hx,List.length_drop,qcX];omega)
  rw [qlG,hx] at hn
  refine Rl.up (f:=fun k q=>qat k q s parts (fr:Int) (s.size:Int)) ?_
  show Rl (fun k q=>qbk k (qat k q) _ _ _ _) _
  unfold qbk
  refine Rl.t (by simp) (Rl.f (by simp) (Rl.t (by omega) (Rl.bind (by rw [Int.toNat_natCast,Int.toNat_natCast];exact hn) ?_)))
  by_cases c:qhn ((dl s).drop fr)=true
  ·rw [if_pos (by simp [c]),qe (x:=parts+1) (by omega),qe (x:=((s.size:Nat):Int)+1) (by omega)]
   refine Rl.f (by simp [c]) ?_
   refine Rl.up (f:=fun k q=>qat k q s (parts+1) (((s.size:Nat):Int)+1) (((s.size:Nat):Int)+1)) ?_
   show Rl (fun k q=>qbk k (qat k q) _ _ _ _) _
   unfold qbk
   exact Rl.f (by rw [decide_eq_true_eq];omega) (Rl.pure _)
  ·rw [if_neg (by simpa using c)]
   exact Rl.t (by simp at c;simp [c]) (Rl.pure _)
 | succ d ih=>
  intro i fr parts e hf hd h0 h1
  have hi:i<s.size:=by omega
  obtain⟨b,hb1,hb2⟩:=qup hi
  have hil:i<(dl s).length:=by rw [qcX];exact hi
  have hbl:(dl s)[i]'hil=b:=by
   have:(dl s)[i]? =some b:=by rw [Array.getElem?_toList];exact hb1
   rw [List.getElem?_eq_getElem hil] at this
   exact Option.some.inj this
  have esp:(dl s).drop fr=((dl s).take i).drop fr++b::(dl s).drop (i+1):=by
   conv=>lhs;rw [←List.take_append_drop i (dl s)]
   rw [List.drop_append,show fr-(List.take i (dl s)).length=0 by rw [List.length_take,qcX];omega,List.drop_zero,List.drop_eq_getElem_cons hil,hbl]
  have w1:IntKind.i64.wrap ((i:Int)+1)=((i+1:Nat):Int):=by rw [qe (by omega)];omega
  refine Rl.up (f:=fun k q=>qat k q s parts (fr:Int) (i:Int)) ?_
  show Rl (fun k q=>qbk k (qat k q) _ _ _ _) _
  unfold qbk
  refine Rl.t (by rw [decide_eq_true_eq];omega) (Rl.t (by rw [beq_eq_false_iff_ne];omega) (Rl.t (by omega) (Rl.at (x:=b) (by rw [Int.toNat_natCast];exact hb1) ?_)))
  by_cases cb:b=46
  ·subst cb
   have ep:=qoR 46 ((dl s).drop (i+1)) _ hd
   rw [←esp] at ep
   rw [ep]
   have hx:dl (s.extract fr i)=((dl s).take i).drop fr:=by rw [qkS]
   have hn:=qkd (s.extract fr i) (by have:(s.extract fr i).size=(dl (s.extract fr i)).length:=(qcX _).symm;rw [this,hx,List.length_drop,List.length_take,qcX];omega)
   rw [qlG,hx] at hn
   refine Rl.t (by rfl) (Rl.t (by omega) (Rl.bind (by rw [Int.toNat_natCast,Int.toNat_natCast];exact hn) ?_))
   by_cases c:qhn (((dl s).take i).drop fr)=true
   ·have:=ih (i+1) (i+1) (parts+1) (by omega) (Nat.le_refl _) (by rw [List.drop_eq_nil_of_le (by rw [List.length_take];omega)];simp) (by omega) (by omega)
    rw [qe (x:=parts+1) (by omega),w1]
    refine Rl.f (by simp [c]) ?_
    rw [List.all_cons,c,Bool.true_and,List.length_cons]
    rw [show parts+(((pcs 46 (List.drop (i+1) (dl s))).length+1:Nat):Int)=parts+1+(((pcs 46 (List.drop (i+1) (dl s))).length:Nat):Int) by omega]
    exact this
   ·rw [if_neg (by simp at c;simp [c])]
    exact Rl.t (by simp at c;simp [c]) (Rl.pure _)
  ·have:=ih (i+1) fr parts (by omega) (by omega) (by
    rw [List.take_add_one,List.getElem?_eq_getElem hil,hbl,List.drop_append,show fr-(List.take i (dl s)).length=0 by rw [List.length_take,qcX];omega]
    intro hm
    rcases List.mem_append.1 hm with hm | hm
    ·exact hd hm
    ·simp at hm;exact cb hm.symm) h0 (by omega)
   rw [w1]
   refine Rl.f ?_ this
   rw [beq_iff_eq]
   intro hc
   exact cb (UInt8.toNat_inj.1 (by have h46:(46:UInt8).toNat=46:=rfl;omega))
theorem qkf (s:ByteArray) (hs:s.size≤1000000000000000):Rn (fun k=>qD k s) (qb0 s):=by
 have h:=qp6 s hs s.size 0 0 0 (by omega) (by omega) (by simp) (by omega) (by omega)
 rw [List.drop_zero] at h
 refine Rn.up (f:=fun k=>qD k s) ?_
 show Rn (fun k=>qf5 k s) _
 unfold qf5 qb0 qte
 refine Rn.bind h.diag ?_
 by_cases c:(pcs 46 (dl s)).all qhn=true
 ·rw [if_pos c,c,Bool.and_true]
  refine Rn.const (congrArg some (decide_eq_decide.2 ?_))
  omega
 ·rw [if_neg c,Bool.eq_false_iff.2 c,Bool.and_false]
  exact Rn.pure _
def qgS (l:List (Int×Int)):Prop:=∀j,0≤j→j<l.length→okN (l.getD j (0,0)).1 (l.getD j (0,0)).2=true
structure OkM (m1:Int) (m2 m3:List (Int×Int)):Prop where
 gs:qgS m2
 vs:qgS m3
 kind:m1=115∧m2.length=2∧m3.length=1∨m1=100∧1≤m2.length∧m2.length≤4∧m3.length+1=m2.length∧∀j,1≤j→j<m3.length→qed m3 (j-1)<qed m3 j
noncomputable def okM (m0:ByteArray) (m1:Int) (m2 m3:List (Int×Int)):Bool:=qdP m0 && @decide (OkM m1 m2 m3) (Classical.propDecidable _)
theorem qvg {m0:ByteArray} {m1:Int} {m2 m3:List (Int×Int)}:okM m0 m1 m2 m3=true↔qdP m0=true∧OkM m1 m2 m3:=by
 unfold okM
 rw [Bool.and_eq_true,@decide_eq_true_iff _ (Classical.propDecidable _)]
theorem qcf {m0:ByteArray} {m1:Int} {m2 m3:List (Int×Int)} {b:Bool} (h:b=true↔qdP m0=true∧OkM m1 m2 m3):b=okM m0 m1 m2 m3:=Bool.eq_iff_iff.2 (h.trans qvg.symm)
theorem qjA {a b:Rat}:qj9 a b≥0↔¬a<b:=by
 obtain⟨c,h1,h2⟩:=qpV a b
 rw [h1]
 rcases h2 with ⟨rfl,h⟩ | ⟨rfl,h⟩ | ⟨rfl,h⟩
 ·simp [h]
 ·subst h;simp
 ·simp only [ge_iff_le]
  exact iff_of_true (by omega) (Rat.not_lt.2 (Rat.le_of_lt h))
section
variable (m0 : ByteArray) (m1 : Int) (m2 m3 : List (Int × Int)) (h0 : m0.size ≤ 1000000000000000000) (h2 : m2.length ≤ 1000000000000000000) (h3 : m3.length ≤ 1000000000000000000)
include h0 h2 h3
theorem qoT (x:Int) (l:List (Int×Int)) (hl:l.length≤1000000000000000000):∃o,Rl (fun k n=>qaI k n m2 m3 x l l.length 0 m0 m1 m2 m3) o∧
  (qgS l∧o= .inr (m2,m3,x,m0,m1,m2,m3)∨¬qgS l∧∃a:Bool×ByteArray×Int×List (Int×Int)×List (Int×Int)×Int×Int,a.1=false∧o= .inl a):=by
 refine qdG l.length 0 (fun k n i=>qaI k n m2 m3 x l l.length i m0 m1 m2 m3) (m2,m3,x,m0,m1,m2,m3) (fun a=>a.1=false) (fun j=>okN (l.getD j (0,0)).1 (l.getD j (0,0)).2=true) ?_ ?_ ?_ l.length 0 (by omega) (by omega)
 ·refine Rl.up (f:=fun k n=>qaI k n m2 m3 x l l.length l.length m0 m1 m2 m3) (Rl.of 0 fun k n _=> ?_)
  show qck k (qaI k n) _ _ _ _ _ _ _ _ _ _=_
  unfold qck
  exact if_neg (by simp)
 ·intro i hs hi hok o ho
  refine Rl.up (f:=fun k n=>qaI k n m2 m3 x l l.length i m0 m1 m2 m3) ?_
  show Rl (fun k n=>qck k (qaI k n) _ _ _ _ _ _ _ _ _ _) _
  unfold qck
  refine Rl.t (decide_eq_true (by omega)) (Rl.t (by omega) (Rl.at (getD_some (0,0) (by omega)) (Rl.bind (qdl _ _) (Rl.f (by rw [Int.toNat_natCast,hok];decide) ?_))))
  rw [qe (by omega)]
  exact ho
 ·intro i hs hi hok
  refine⟨(false,m0,m1,m2,m3,l.getD i (0,0)),rfl,Rl.up (f:=fun k n=>qaI k n m2 m3 x l l.length i m0 m1 m2 m3) ?_⟩
  show Rl (fun k n=>qck k (qaI k n) _ _ _ _ _ _ _ _ _ _) _
  unfold qck
  refine Rl.t (decide_eq_true (by omega)) (Rl.t (by omega) (Rl.at (getD_some (0,0) (by rw [Int.toNat_natCast];omega)) (Rl.bind (qdl _ _) (Rl.t (by rw [Int.toNat_natCast,Bool.eq_false_iff.2 hok];decide) ?_))))
  rw [Int.toNat_natCast]
  exact Rl.pure _
theorem qvh:∃o,Rl (fun k n=>qap k n m2 m3 0 m0 m1 m2 m3) o∧
  ((qgS m2∧qgS m3)∧o= .inr (m0,m1,m2,m3)∨¬(qgS m2∧qgS m3)∧∃a:Bool×ByteArray×Int×List (Int×Int)×List (Int×Int)×Int×Int,a.1=false∧o= .inl a):=by
 obtain⟨o1,a1,a2⟩:=qoT m0 m1 m2 m3 h0 h2 h3 0 m2 h2
 obtain⟨o2,b1,b2⟩:=qoT m0 m1 m2 m3 h0 h2 h3 1 m3 h3
 have up0:∀ {o},Rl (fun k n=>qc0 k (qap k n) m2 m3 0 m0 m1 m2 m3) o→Rl (fun k n=>qap k n m2 m3 0 m0 m1 m2 m3) o:=fun h=>Rl.up (f:=fun k n=>qap k n m2 m3 0 m0 m1 m2 m3) h
 have up1:∀ {o},Rl (fun k n=>qc0 k (qap k n) m2 m3 1 m0 m1 m2 m3) o→Rl (fun k n=>qap k n m2 m3 1 m0 m1 m2 m3) o:=fun h=>Rl.up (f:=fun k n=>qap k n m2 m3 1 m0 m1 m2 m3) h
 have s2:Rl (fun k n=>qap k n m2 m3 2 m0 m1 m2 m3) (.inr (m0,m1,m2,m3)):=by
  refine Rl.up (f:=fun k n=>qap k n m2 m3 2 m0 m1 m2 m3) ?_
  show Rl (fun k n=>qc0 k (qap k n) m2 m3 2 m0 m1 m2 m3) _
  unfold qc0
  exact Rl.f (by decide) (Rl.pure _)
 unfold qc0 at up0 up1
 rcases a2 with ⟨a2,rfl⟩ | ⟨a2,⟨q1,q2,q3,q4,q5,q6,q7⟩,e,rfl⟩
 ·rcases b2 with ⟨b2,rfl⟩ | ⟨b2,⟨q1,q2,q3,q4,q5,q6,q7⟩,e,rfl⟩
  ·exact⟨_,up0 (Rl.t (by decide) (Rl.t rfl (Rl.bind a1.diag (up1 (Rl.t (by decide) (Rl.f (by decide) (Rl.t (by decide) (Rl.bind b1.diag s2)))))))),.inl ⟨⟨a2,b2⟩,rfl⟩⟩
  ·exact⟨_,up0 (Rl.t (by decide) (Rl.t rfl (Rl.bind a1.diag (up1 (Rl.t (by decide) (Rl.f (by decide) (Rl.t (by decide) (Rl.bind b1.diag (Rl.pure (Sum.inl (q1,q2,q3,q4,q5,q6,q7))))))))))),.inr ⟨fun h=>b2 h.2,_,e,rfl⟩⟩
 ·exact⟨_,up0 (Rl.t (by decide) (Rl.t rfl (Rl.bind a1.diag (Rl.pure (Sum.inl (q1,q2,q3,q4,q5,q6,q7)))))),.inr ⟨fun h=>a2 h.1,_,e,rfl⟩⟩
theorem qvi (hv:qgS m3) (hlen:1≤m3.length):∃o,Rl (fun k n=>qad k n 1 m0 m1 m2 m3) o∧
  ((∀j,1≤j→j<m3.length→qed m3 (j-1)<qed m3 j)∧o= .inr (m0,m1,m2,m3)∨(¬ ∀j,1≤j→j<m3.length→qed m3 (j-1)<qed m3 j)∧∃a:Bool×ByteArray×Int×List (Int×Int)×List (Int×Int),a.1=false∧o= .inl a):=by
 have hc:∀i,1≤i→i<m3.length→Rn (fun k=>qhE k (m3.getD (i-1) (0,0)).1 (m3.getD (i-1) (0,0)).2 (m3.getD i (0,0)).1 (m3.getD i (0,0)).2) (qj9 (qed m3 (i-1)) (qed m3 i),0):=by
  intro i h1 h2
  have:=qrv (m3.getD (i-1) (0,0)).1 (m3.getD (i-1) (0,0)).2 (m3.getD i (0,0)).1 (m3.getD i (0,0)).2
  rw [if_pos ⟨hv (i-1) (by omega) (by omega),hv i (by omega) h2⟩] at this
  exact this
 refine qdG m3.length 1 (fun k n i=>qad k n i m0 m1 m2 m3) (m0,m1,m2,m3) (fun a=>a.1=false) (fun j=>qed m3 (j-1)<qed m3 j) ?_ ?_ ?_ (m3.length-1) 1 (by omega) (by omega)
 ·refine Rl.up (f:=fun k n=>qad k n m3.length m0 m1 m2 m3) (Rl.of 0 fun k n _=> ?_)
  show qbs k (qad k n) _ _ _ _ _=_
  unfold qbs
  exact if_neg (by simp)
 ·intro i hs hi hok o ho
  refine Rl.up (f:=fun k n=>qad k n i m0 m1 m2 m3) ?_
  show Rl (fun k n=>qbs k (qad k n) _ _ _ _ _) _
  unfold qbs
  have e1:(IntKind.i64.wrap ((i:Int)-1))=((i-1:Nat):Int):=by rw [qe (by omega)];omega
  rw [e1]
  refine Rl.t (decide_eq_true (by omega)) (Rl.t (by omega) (Rl.at (getD_some (0,0) (by rw [Int.toNat_natCast];omega)) (Rl.t (by omega) (Rl.at (getD_some (0,0) (by rw [Int.toNat_natCast];omega)) ?_))))
  rw [Int.toNat_natCast,Int.toNat_natCast]
  refine Rl.bind (hc i hs hi) (Rl.f (by rw [decide_eq_true_eq,qjA];exact fun h=>h hok) ?_)
  rw [qe (by omega)]
  exact ho
 ·intro i hs hi hok
  refine⟨(false,m0,m1,m2,m3),rfl,Rl.up (f:=fun k n=>qad k n i m0 m1 m2 m3) ?_⟩
  show Rl (fun k n=>qbs k (qad k n) _ _ _ _ _) _
  unfold qbs
  have e1:(IntKind.i64.wrap ((i:Int)-1))=((i-1:Nat):Int):=by rw [qe (by omega)];omega
  rw [e1]
  refine Rl.t (decide_eq_true (by omega)) (Rl.t (by omega) (Rl.at (getD_some (0,0) (by rw [Int.toNat_natCast];omega)) (Rl.t (by omega) (Rl.at (getD_some (0,0) (by rw [Int.toNat_natCast];omega)) ?_))))
  rw [Int.toNat_natCast,Int.toNat_natCast]
  exact Rl.bind (hc i hs hi) (Rl.t (by rw [decide_eq_true_eq,qjA];exact hok) (Rl.pure _))
theorem qlU:Rn (fun k=>qea k m0 m1 m2 m3) (okM m0 m1 m2 m3):=by
 refine Rn.up (f:=fun k=>qea k m0 m1 m2 m3) ?_
 show Rn (fun k=>qhF k m0 m1 m2 m3) _
 unfold qhF
 refine Rn.bind (qoO m0 h0) ?_
 by_cases hn:qdP m0=true
 rotate_left
 ·refine Rn.t (by simp [hn]) (Rn.const (congrArg some (qcf (by simp [hn]))))
 refine Rn.f (by simp [hn]) ?_
 obtain⟨o,a1,a2⟩:=qvh m0 m1 m2 m3 h0 h2 h3
 refine Rn.bind a1.diag ?_
 rcases a2 with ⟨⟨g1,g2⟩,rfl⟩ | ⟨a2,⟨q1,q2,q3,q4,q5,q6,q7⟩,e,rfl⟩
 rotate_left
 ·exact Rn.const (congrArg some (qcf (by simp only at e;subst e;simp only [Bool.false_eq_true,false_iff];exact fun h=>a2 ⟨h.2.gs,h.2.vs⟩)))
 show Rn (fun k=>if(m1 == 115)=true then _ else if(m1 == 100)=true then _ else _) _
 by_cases k1:m1=115
 ·refine Rn.t (by rw [beq_iff_eq];exact k1) ?_
  by_cases c1:m2.length=2
  ·refine Rn.t (by rw [beq_iff_eq];exact congrArg _ c1) (Rn.const (congrArg some (qcf ?_)))
   rw [beq_iff_eq]
   constructor
   ·intro h;have h:(m3.length:Int)=1:=h;exact⟨hn,g1,g2,.inl ⟨k1,c1,by omega⟩⟩
   ·rintro⟨_,h⟩;show(m3.length:Int)=1;have:=h.kind;omega
  ·refine Rn.f (by rw [beq_iff_eq];show ¬(m2.length:Int)=2;omega) (Rn.const (congrArg some (qcf ?_)))
   simp only [Bool.false_eq_true,false_iff]
   rintro⟨_,h⟩;have:=h.kind;omega
 refine Rn.f (by rw [beq_iff_eq];exact k1) ?_
 by_cases k2:m1=100
 rotate_left
 ·refine Rn.f (by rw [beq_iff_eq];exact k2) (Rn.const (congrArg some (qcf ?_)))
  simp only [Bool.false_eq_true,false_iff]
  rintro⟨_,h⟩;have:=h.kind;omega
 refine Rn.t (by rw [beq_iff_eq];exact k2) ?_
 by_cases c1:m2.length<1
 ·refine Rn.f (by rw [decide_eq_false_iff_not];show ¬ ¬(m2.length:Int)<1;omega) (Rn.const (congrArg some (qcf ?_)))
  simp only [Bool.false_eq_true,false_iff]
  rintro⟨_,h⟩;have:=h.kind;omega
 refine Rn.t (by rw [decide_eq_false_iff_not];show ¬(m2.length:Int)<1;omega) ?_
 by_cases c2:m2.length>4
 ·refine Rn.f (by rw [decide_eq_false_iff_not];show ¬ ¬(m2.length:Int)>4;omega) (Rn.const (congrArg some (qcf ?_)))
  simp only [Bool.false_eq_true,false_iff]
  rintro⟨_,h⟩;have:=h.kind;omega
 refine Rn.t (by rw [decide_eq_false_iff_not];show ¬(m2.length:Int)>4;omega) ?_
 have e1:(IntKind.i64.wrap ((m2.length:Int)-1))=(m2.length:Int)-1:=qe (by omega)
 by_cases c3:m3.length+1=m2.length
 rotate_left
 ·refine Rn.t (by rw [bne_iff_ne,ne_eq];show ¬(m3.length:Int)=IntKind.i64.wrap ((m2.length:Int)-1);rw [e1];omega) (Rn.const (congrArg some (qcf ?_)))
  simp only [Bool.false_eq_true,false_iff]
  rintro⟨_,h⟩;have:=h.kind;omega
 refine Rn.f (by rw [bne_iff_ne,ne_eq];show ¬ ¬(m3.length:Int)=IntKind.i64.wrap ((m2.length:Int)-1);rw [e1];omega) ?_
 by_cases c4:m3.length=0
 ·have hz:Rl (fun k n=>qad k n 1 m0 m1 m2 m3) (.inr (m0,m1,m2,m3)):=by
   refine Rl.up (f:=fun k n=>qad k n 1 m0 m1 m2 m3) (Rl.of 0 fun k n _=> ?_)
   show qbs k (qad k n) _ _ _ _ _=_
   unfold qbs
   exact if_neg (by rw [decide_eq_true_eq];omega)
  exact Rn.bind hz.diag (Rn.const (congrArg some (qcf (iff_of_true rfl ⟨hn,g1,g2,.inr ⟨k2,by omega,by omega,c3,fun j j1 j2=>by omega⟩⟩))))
 obtain⟨o,b1,b2⟩:=qvi m0 m1 m2 m3 h0 h2 h3 g2 (by omega)
 refine Rn.bind b1.diag ?_
 rcases b2 with ⟨b2,rfl⟩ | ⟨b2,⟨q1,q2,q3,q4,q5⟩,e,rfl⟩
 ·exact Rn.const (congrArg some (qcf (iff_of_true rfl ⟨hn,g1,g2,.inr ⟨k2,by omega,by omega,c3,b2⟩⟩)))
 ·refine Rn.const (congrArg some (qcf ?_))
  simp only at e
  subst e
  simp only [Bool.false_eq_true,false_iff]
  rintro⟨_,h⟩
  rcases h.kind with k | k
  ·omega
  ·exact b2 k.2.2.2.2
end
def qQ (k:Int):Int:=if k=114∨k=99∨k=108∨k=118∨k=105∨k=102∨k=104∨k=100 then 2 else if k=101∨k=103∨k=116∨k=115 then 4 else 0
def qp7:List (Int×Int):= [(114,2),(99,2),(108,2),(118,2),(105,2),(101,4),(103,4),(102,2),(104,2),(116,4),(100,2),(115,4)]
theorem qvj:qal (.int .u8) (.int .i64) (qal (.int .u8) (.int .i64) (qal (.int .u8) (.int .i64) (qal (.int .u8) (.int .i64) (qal (.int .u8) (.int .i64) (qal (.int .u8) (.int .i64) (qal (.int .u8) (.int .i64) (qal (.int .u8) (.int .i64) (qal (.int .u8) (.int .i64) (qal (.int .u8) (.int .i64) (qal (.int .u8) (.int .i64) (qal (.int .u8) (.int .i64) [] (114:Int) (2:Int)) (99:Int) (2:Int)) (108:Int) (2:Int)) (118:Int) (2:Int)) (105:Int) (2:Int)) (101:Int) (4:Int)) (103:Int) (4:Int)) (102:Int) (2:Int)) (104:Int) (2:Int)) (116:Int) (4:Int)) (100:Int) (2:Int)) (115:Int) (4:Int)=qp7:=by rfl
theorem qrD (p:Int×Int) (r:List (Int×Int)) (x:Int):qeg (.int .u8) (.int .i64) (p::r) x=if(x == p.1)=true then some (0,p.2)else(qeg (.int .u8) (.int .i64) r x).bind fun q=>some (q.1+1,q.2):=rfl
theorem qrE (p:Int×Int) (r:List (Int×Int)) (x z:Int):qhb (.int .u8) (.int .i64) (p::r) x z=if x=p.1 then p.2 else qhb (.int .u8) (.int .i64) r x z:=by
 unfold qhb
 rw [qrD]
 by_cases h:x=p.1
 ·rw [if_pos (beq_iff_eq.2 h),if_pos h]
 ·rw [if_neg (by simpa using h),if_neg h]
  cases qeg (.int .u8) (.int .i64) r x<;>rfl
def qmk:List (Int×Int)→Int→Int→Int
 | [],_,z=>z
 | p::r,x,z=>if x=p.1 then p.2 else qmk r x z
theorem qlH:∀(l:List (Int×Int)) (x z:Int),qhb (.int .u8) (.int .i64) l x z=qmk l x z
 | [],_,_=>rfl
 | p::r,x,z=>(qrE p r x z).trans (by rw [qmk,qlH r x z])
theorem qvk (k:Int):qhb (.int .u8) (.int .i64) qp7 k 0=qQ k:=by
 refine(qlH qp7 k 0).trans ?_
 unfold qp7 qQ
 simp only [qmk]
 repeat' split
 all_goals first | rfl | omega
def noW (d6:Int) (d7:List (Int×Int)) (d8:List Int):Bool:=decide (d6=0∧d7.length=0∧d8.length=0)
def noM (d9:ByteArray) (d10:Int) (d11 d12:List (Int×Int)):Bool:=decide (d9.data.toList= []∧d10=0∧d11.length=0∧d12.length=0)
def qee (n:Nat) (l:List Int):Bool:=l.all fun x=>decide (0≤x∧x<n)
def qcY (f1:List Dv) (r:Int):Bool:=decide (0≤r∧r<f1.length) && (match f1[r.toNat]? with | some x=>decide (x.1=118) | none=>false)
noncomputable def okR (n:Nat) (f1:List Dv) (d0:Int) (d1:ByteArray) (d2:List Int) (d3 d4 d5 d6:Int) (d7:List (Int×Int)) (d8:List Int) (d9:ByteArray) (d10:Int) (d11 d12:List (Int×Int)):Bool:=
 decide (qQ d0≠0) && decide ((d2.length:Int)=qQ d0) && qb0 d1 && qee n d2 &&
 (if d0=118∨d0=105 then okW d6 d7 d8 && decide (d4=0) && decide (d5=0) && noM d9 d10 d11 d12 && decide (d3=0)
  else if d0=100∨d0=115 then noW d6 d7 d8 && decide (d4=0) && decide (d5=0) && okM d9 d10 d11 d12 && decide (d10=d0) && decide (d3=0)
  else(if d0=102∨d0=104 then qcY f1 d3 else decide (d3=0)) && okN d4 d5 && (decide (d4≠0) || !decide (d0=114∨d0=99∨d0=108)) && noW d6 d7 d8 && noM d9 d10 d11 d12)
theorem qrF (d6:Int) (d7:List (Int×Int)) (d8:List Int) (h7:d7.length≤1000000000000000000) (h8:d8.length≤1000000000000000000):Rn (fun k=>qJ k d6 d7 d8) (noW d6 d7 d8):=by
 refine Rn.up (f:=fun k=>qJ k d6 d7 d8) ?_
 show Rn (fun k=>qhC k d6 d7 d8) _
 unfold qhC noW
 by_cases c:d6=0
 ·refine Rn.t (by simp [c]) (Rn.const (congrArg some ?_))
  rw [qe (by omega),Bool.eq_iff_iff,beq_iff_eq,decide_eq_true_eq]
  omega
 ·exact Rn.f (by simp [c]) (Rn.const (congrArg some (decide_eq_false (by omega)).symm))
theorem qp8 (d9:ByteArray) (d10:Int) (d11 d12:List (Int×Int)) (h7:d11.length≤1000000000000000000) (h8:d12.length≤1000000000000000000):Rn (fun k=>qG k d9 d10 d11 d12) (noM d9 d10 d11 d12):=by
 refine Rn.up (f:=fun k=>qG k d9 d10 d11 d12) ?_
 show Rn (fun k=>qhc k d9 d10 d11 d12) _
 unfold qhc noM
 by_cases c:d9.data.toList= []
 ·refine Rn.t (by rw [c];rfl) ?_
  by_cases c2:d10=0
  ·refine Rn.t (by simp [c2]) (Rn.const (congrArg some ?_))
   rw [qe (by omega),Bool.eq_iff_iff,beq_iff_eq,decide_eq_true_eq]
   exact⟨fun h=>⟨c,c2,by omega,by omega⟩,fun h=>by omega⟩
  ·exact Rn.f (by simp [c2]) (Rn.const (congrArg some (decide_eq_false (fun h=>c2 h.2.1)).symm))
 ·refine Rn.f ?_ (Rn.const (congrArg some (decide_eq_false (fun h=>c h.1)).symm))
  rw [beq_iff_eq]
  exact c
section
variable (f0 : List ByteArray) (f1 : List Dv) (f2 f3 f4 : Int) (d0 : Int) (d1 : ByteArray) (d2 : List Int) (d3 d4 d5 d6 : Int) (d7 : List (Int × Int)) (d8 : List Int) (d9 : ByteArray) (d10 : Int) (d11 d12 : List (Int × Int))
variable (h1 : d1.size ≤ 1000000000000) (h2 : d2.length ≤ 1000000000000000000) (h7 : d7.length ≤ 1000000000000000000) (h8 : d8.length ≤ 1000000000000000000) (h9 : d9.size ≤ 1000000000000000000) (h11 : d11.length ≤ 1000000000000000000) (h12 : d12.length ≤ 1000000000000000000)
include h2
theorem qp9:Rn (fun k=>qba k k d2 d2.length 0 f0 f1 f2 f3 f4 d0 d1 d2 d3 d4 d5 d6 d7 d8 d9 d10 d11 d12)
  (if qee f0.length d2=true then .inr (f0,f1,f2,f3,f4,d0,d1,d2,d3,d4,d5,d6,d7,d8,d9,d10,d11,d12)else .inl (false,f0,f1,f2,f3,f4,d0,d1,d2,d3,d4,d5,d6,d7,d8,d9,d10,d11,d12)):=by
 obtain⟨o,b1,b2⟩:=qdG d2.length 0 (fun k q i=>qba k q d2 d2.length i f0 f1 f2 f3 f4 d0 d1 d2 d3 d4 d5 d6 d7 d8 d9 d10 d11 d12) (f0,f1,f2,f3,f4,d0,d1,d2,d3,d4,d5,d6,d7,d8,d9,d10,d11,d12)
  (fun a=>a=(false,f0,f1,f2,f3,f4,d0,d1,d2,d3,d4,d5,d6,d7,d8,d9,d10,d11,d12)) (fun j=>0≤d2.getD j 0∧d2.getD j 0<f0.length) (by
   refine Rl.up (f:=fun k q=>qba k q d2 d2.length d2.length f0 f1 f2 f3 f4 d0 d1 d2 d3 d4 d5 d6 d7 d8 d9 d10 d11 d12) ?_
   show Rl (fun k q=>qcF k (qba k q) _ _ _ _ _ _ _ _ _ _ _ _ _ _ _ _ _ _ _ _ _) _
   unfold qcF
   exact Rl.f (by simp) (Rl.pure _)) (by
   intro i hs hi hok o ho
   refine Rl.up (f:=fun k q=>qba k q d2 d2.length i f0 f1 f2 f3 f4 d0 d1 d2 d3 d4 d5 d6 d7 d8 d9 d10 d11 d12) ?_
   show Rl (fun k q=>qcF k (qba k q) _ _ _ _ _ _ _ _ _ _ _ _ _ _ _ _ _ _ _ _ _) _
   unfold qcF
   rw [qe (x:=(i:Int)+1) (by omega)]
   exact Rl.t (by first | omega | (simp only [decide_eq_true_eq,decide_eq_false_iff_not,Int.toNat_natCast,beq_iff_eq,bne_iff_ne,ne_eq,Int.not_lt,Int.not_le,ge_iff_le,gt_iff_lt,beq_eq_false_iff_ne,Nat.zero_add];omega)) (Rl.t (by first | omega | (simp only [decide_eq_true_eq,decide_eq_false_iff_not,Int.toNat_natCast,beq_iff_eq,bne_iff_ne,ne_eq,Int.not_lt,Int.not_le,ge_iff_le,gt_iff_lt,beq_eq_false_iff_ne,Nat.zero_add];omega)) (Rl.at (by rw [Int.toNat_natCast];exact getD_some 0 hi) (Rl.t (decide_eq_false (by omega)) (Rl.f (by rw [decide_eq_true_eq];omega) ho))))) (by
   intro i hs hi hok
   refine⟨_,rfl,Rl.up (f:=fun k q=>qba k q d2 d2.length i f0 f1 f2 f3 f4 d0 d1 d2 d3 d4 d5 d6 d7 d8 d9 d10 d11 d12) ?_⟩
   show Rl (fun k q=>qcF k (qba k q) _ _ _ _ _ _ _ _ _ _ _ _ _ _ _ _ _ _ _ _ _) _
   unfold qcF
   refine Rl.t (by first | omega | (simp only [decide_eq_true_eq,decide_eq_false_iff_not,Int.toNat_natCast,beq_iff_eq,bne_iff_ne,ne_eq,Int.not_lt,Int.not_le,ge_iff_le,gt_iff_lt,beq_eq_false_iff_ne,Nat.zero_add];omega)) (Rl.t (by first | omega | (simp only [decide_eq_true_eq,decide_eq_false_iff_not,Int.toNat_natCast,beq_iff_eq,bne_iff_ne,ne_eq,Int.not_lt,Int.not_le,ge_iff_le,gt_iff_lt,beq_eq_false_iff_ne,Nat.zero_add];omega)) (Rl.at (by rw [Int.toNat_natCast];exact getD_some 0 hi) ?_))
   by_cases c:d2.getD i 0<0
   ·exact Rl.f (by simp;exact c) (Rl.pure _)
   ·exact Rl.t (decide_eq_false c) (Rl.t (by rw [decide_eq_true_eq];omega) (Rl.pure _))) d2.length 0 (by omega) (by omega)
 have hall:qee f0.length d2=true↔∀j,0≤j→j<d2.length→0≤d2.getD j 0∧d2.getD j 0<f0.length:=by
  unfold qee
  rw [qgf]
  simp only [decide_eq_true_eq]
 rcases b2 with ⟨b2,rfl⟩ | ⟨b2,a,rfl,rfl⟩
 ·rw [if_pos (hall.2 b2)];exact b1.diag
 ·rw [if_neg (fun h=>b2 (hall.1 h))];exact b1.diag
include h1 h7 h8 h9 h11 h12
theorem qrG:Rn (fun k=>qfO k f0 f1 f2 f3 f4 d0 d1 d2 d3 d4 d5 d6 d7 d8 d9 d10 d11 d12) (okR f0.length f1 d0 d1 d2 d3 d4 d5 d6 d7 d8 d9 d10 d11 d12):=by
 refine Rn.up (f:=fun k=>qfO k f0 f1 f2 f3 f4 d0 d1 d2 d3 d4 d5 d6 d7 d8 d9 d10 d11 d12) ?_
 show Rn (fun k=>qgX k f0 f1 f2 f3 f4 d0 d1 d2 d3 d4 d5 d6 d7 d8 d9 d10 d11 d12) _
 obtain⟨K1,g1⟩:=qke d1 h1
 obtain⟨K2,g2⟩:=qp9 f0 f1 f2 f3 f4 d0 d1 d2 d3 d4 d5 d6 d7 d8 d9 d10 d11 d12 h2
 obtain⟨K3,g3⟩:=qny d6 d7 d8 h7 h8
 obtain⟨K4,g4⟩:=qp8 d9 d10 d11 d12 h11 h12
 obtain⟨K5,g5⟩:=qrF d6 d7 d8 h7 h8
 obtain⟨K6,g6⟩:=qlU d9 d10 d11 d12 h9 h11 h12
 obtain⟨K7,g7⟩:=qdl d4 d5
 refine⟨K1+K2+K3+K4+K5+K6+K7,fun k hk=> ?_⟩
 have e1:qfk k d1=_:=g1 k (by omega)
 have e2:qba k k d2 d2.length 0 f0 f1 f2 f3 f4 d0 d1 d2 d3 d4 d5 d6 d7 d8 d9 d10 d11 d12=_:=g2 k (by omega)
 have e3:qeE k d6 d7 d8=_:=g3 k (by omega)
 have e4:qG k d9 d10 d11 d12=_:=g4 k (by omega)
 have e5:qJ k d6 d7 d8=_:=g5 k (by omega)
 have e6:qea k d9 d10 d11 d12=_:=g6 k (by omega)
 have e7:qY k d4 d5=_:=g7 k (by omega)
 clear hk g1 g2 g3 g4 g5 g6 g7 h1 h2 h7 h8 h9 h11 h12
 show qgX k f0 f1 f2 f3 f4 d0 d1 d2 d3 d4 d5 d6 d7 d8 d9 d10 d11 d12=_
 unfold qgX
 rw [qvj,qvk]
 by_cases c0:qQ d0=0
 ·rw [if_neg (by simp [c0])]
  simp [okR,c0]
 rw [if_pos (by simpa using c0)]
 by_cases c1:(d2.length:Int)=qQ d0
 rotate_left
 ·rw [if_neg (by simpa using c1)]
  simp [okR,c1]
 rw [if_pos (by simpa using c1),e1]
 simp only [Option.bind_some]
 cases hl:qb0 d1
 ·simp [okR,hl]
 simp only [Bool.not_true,Bool.false_eq_true,if_false,e2]
 cases hr:qee f0.length d2
 ·simp [okR,hl,hr,qc]
 simp only [if_true,Option.bind_some,qc,e3,e4,e5,e6,e7]
 have hok:okR f0.length f1 d0 d1 d2 d3 d4 d5 d6 d7 d8 d9 d10 d11 d12=(if d0=118∨d0=105 then okW d6 d7 d8 && decide (d4=0) && decide (d5=0) && noM d9 d10 d11 d12 && decide (d3=0)
  else if d0=100∨d0=115 then noW d6 d7 d8 && decide (d4=0) && decide (d5=0) && okM d9 d10 d11 d12 && decide (d10=d0) && decide (d3=0)
  else(if d0=102∨d0=104 then qcY f1 d3 else decide (d3=0)) && okN d4 d5 && (decide (d4≠0) || !decide (d0=114∨d0=99∨d0=108)) && noW d6 d7 d8 && noM d9 d10 d11 d12):=by
  simp [okR,c0,c1,hl,hr]
 rw [hok]
 clear hok e1 e2 e3 e4 e5 e6 e7 c1 hl hr c0
 generalize okW d6 d7 d8=w
 generalize noM d9 d10 d11 d12=nm
 generalize noW d6 d7 d8=nw
 generalize okM d9 d10 d11 d12=mo
 generalize okN d4 d5=nn
 have href:∀r:Int,0≤r→r<f1.length→∃x,f1[r.toNat]? =some x:=fun r h h'=>⟨_,List.getElem?_eq_getElem (by omega)⟩
 by_cases k1:d0=118
 ·subst k1;simp;cases w<;>cases nm<;>simp<;>grind
 by_cases k2:d0=105
 ·subst k2;simp;cases w<;>cases nm<;>simp<;>grind
 by_cases k3:d0=100
 ·subst k3;simp;cases nw<;>cases mo<;>simp<;>grind
 by_cases k4:d0=115
 ·subst k4;simp;cases nw<;>cases mo<;>simp<;>grind
 have hf:∀(X:Int×ByteArray×List Int×Int×(Int×Int)×(Int×List (Int×Int)×List Int)×ByteArray×Int×List (Int×Int)×List (Int×Int)→Option Bool),qcY f1 d3=false→(∀x,x.1≠118→X x=some false)→(if decide (d3<0)=false then if decide (d3≥((f1.length:Nat):Int))=false then if 0≤d3 then Option.bind f1[d3.toNat]? X else none else some false else some false)=some false:=by
  intro X hv hX
  by_cases a1:d3<0
  ·rw [if_neg (by simpa using a1)]
  ·rw [if_pos (by simpa using a1)]
   by_cases a2:d3≥((f1.length:Nat):Int)
   ·rw [if_neg (by simpa using a2)]
   ·obtain⟨x,hx⟩:=href d3 (by omega) (by omega)
    rw [if_pos (by simpa using a2),if_pos (by omega),hx,Option.bind_some]
    refine hX x fun e=> ?_
    simp [qcY,hx,e] at hv
    omega
 have ht:∀(X:Int×ByteArray×List Int×Int×(Int×Int)×(Int×List (Int×Int)×List Int)×ByteArray×Int×List (Int×Int)×List (Int×Int)→Option Bool) (r:Option Bool),qcY f1 d3=true→(∀x,x.1=118→X x=r)→(if decide (d3<0)=false then if decide (d3≥((f1.length:Nat):Int))=false then if 0≤d3 then Option.bind f1[d3.toNat]? X else none else some false else some false)=r:=by
  intro X r hv hX
  simp only [qcY,Bool.and_eq_true,decide_eq_true_eq] at hv
  obtain⟨x,hx⟩:=href d3 (by omega) (by omega)
  rw [hx] at hv
  rw [if_pos (by simp;omega),if_pos (by simp;omega),if_pos (by omega),hx,Option.bind_some]
  exact hX x (by simpa using hv.2)
 by_cases k5:d0=102
 ·subst k5
  rw [if_neg (by decide),if_neg (by decide),if_neg (by decide),if_neg (by decide),if_pos (by decide)]
  cases hv:qcY f1 d3
  ·rw [hf _ hv (fun x hx=>by rw [if_pos (by simpa using hx)])]
   simp [hv]
  ·refine ht _ _ hv (fun x hx=> ?_)
   rw [if_neg (by simpa using hx)]
   simp
   cases nn<;>cases nw<;>cases nm<;>simp<;>grind
 by_cases k6:d0=104
 ·subst k6
  rw [if_neg (by decide),if_neg (by decide),if_neg (by decide),if_neg (by decide),if_neg (by decide),if_pos (by decide)]
  cases hv:qcY f1 d3
  ·rw [hf _ hv (fun x hx=>by rw [if_pos (by simpa using hx)])]
   simp [hv]
  ·refine ht _ _ hv (fun x hx=> ?_)
   rw [if_neg (by simpa using hx)]
   simp
   cases nn<;>cases nw<;>cases nm<;>simp<;>grind
 rw [if_neg (by simpa using k1),if_neg (by simpa using k2),if_neg (by simpa using k3),if_neg (by simpa using k4),if_neg (by simpa using k5),if_neg (by simpa using k6)]
 rw [if_neg (by omega:¬(d0=118∨d0=105)),if_neg (by omega:¬(d0=100∨d0=115)),if_neg (by omega:¬(d0=102∨d0=104))]
 by_cases z3:d3=0
 rotate_left
 ·rw [if_pos (by simpa using z3)];simp [z3]
 rw [if_neg (by simpa using z3)]
 by_cases k7:d0=114
 ·subst k7;simp [z3];cases nn<;>cases nw<;>cases nm<;>simp<;>grind
 by_cases k8:d0=99
 ·subst k8;simp [z3];cases nn<;>cases nw<;>cases nm<;>simp<;>grind
 by_cases k9:d0=108
 ·subst k9;simp [z3];cases nn<;>cases nw<;>cases nm<;>simp<;>grind
 ·simp [z3,k7,k8,k9];cases nn<;>cases nw<;>cases nm<;>simp<;>grind
end
def twB (l:List ByteArray):Bool:= !decide ((l.map dl).Nodup)
def qd1 (s:List (ByteArray×Int)):List (List UInt8):=s.map fun p=>dl p.1
theorem qkT:∀(s:List (ByteArray×Int)) (x:ByteArray),dl x∉qd1 s→qeg .str (.int .i64) s x=none
 | [],_,_=>rfl
 | p::r,x,h=>by
  have h1:¬dl x=dl p.1:=fun e=>h (by simp [qd1,e])
  have h2:=qkT r x (fun e=>h (by simp [qd1] at e ⊢;exact .inr e))
  unfold qeg
  have e:kEq .str x p.1=false:=by
   show((dl x) == (dl p.1))=false
   rw [beq_eq_false_iff_ne]
   exact h1
  rw [e]
  simp only [Bool.false_eq_true,if_false]
  rw [h2];rfl
theorem qkU:∀(s:List (ByteArray×Int)) (x:ByteArray),dl x∈qd1 s→∃q,qeg .str (.int .i64) s x=some q∧∃p,s[q.1]? =some p∧dl p.1=dl x
 | [],_,h=>by simp [qd1] at h
 | p::r,x,h=>by
  unfold qeg
  by_cases h1:dl x=dl p.1
  ·have e:kEq .str x p.1=true:=by
    show((dl x) == (dl p.1))=true
    rw [beq_iff_eq]
    exact h1
   rw [e]
   exact⟨_,if_pos rfl,p,rfl,h1.symm⟩
  ·have e:kEq .str x p.1=false:=by
    show((dl x) == (dl p.1))=false
    rw [beq_eq_false_iff_ne]
    exact h1
   obtain⟨q,h2,p',h3,h4⟩:=qkU r x (by
    simp only [qd1,List.map_cons,List.mem_cons] at h
    rcases h with h | h
    ·exact absurd h h1
    ·exact h)
   rw [e,h2]
   exact⟨(q.1+1,q.2),rfl,p',h3,h4⟩
theorem qtf {s:List (ByteArray×Int)} {x:ByteArray} (v:Int) (h:dl x∉qd1 s):qal .str (.int .i64) s x v=s++ [(x,v)]:=by
 unfold qal
 rw [qkT s x h]
theorem qtg {s:List (ByteArray×Int)} {x:ByteArray} (v:Int) (h:dl x∈qd1 s):∃s':List (ByteArray×Int),qal .str (.int .i64) s x v=s'∧s'.length=s.length∧qd1 s'=qd1 s:=by
 obtain⟨q,h1,p,h2,h3⟩:=qkU s x h
 refine⟨s.set q.1 (x,v),?_,List.length_set,?_⟩
 ·unfold qal
  rw [h1]
 ·have hq:=(List.getElem?_eq_some_iff.1 h2)
  obtain⟨hlt,hp⟩:=hq
  unfold qd1
  rw [List.map_set]
  apply List.ext_getElem?
  intro j
  by_cases c:q.1=j
  ·subst c
   rw [List.getElem?_set_self (by rw [List.length_map];exact hlt),List.getElem?_map,h2]
   show some (dl x)=some (dl p.1)
   rw [h3]
  ·rw [List.getElem?_set_ne c]
theorem qn7 (l:List ByteArray) (hl:l.length≤1000000000000000000):∀(d i:Nat) (seen:List (ByteArray×Int)),i+d=l.length→(∀y,y∈qd1 seen↔y∈(l.take i).map dl)→seen.length≤i→(seen.length=i↔((l.take i).map dl).Nodup)→
  ∃s':List (ByteArray×Int),Rl (fun k q=>qc5 k q l l l.length (i:Int) seen) (l,s')∧s'.length≤l.length∧(s'.length=l.length↔(l.map dl).Nodup):=by
 intro d
 induction d with
 | zero=>
  intro i seen e hk h1 h2
  have ei:i=l.length:=by omega
  subst ei
  rw [List.take_length] at h2
  refine⟨seen,Rl.up (f:=fun k q=>qc5 k q l l l.length (l.length:Int) seen) ?_,h1,h2⟩
  show Rl (fun k q=>qd6 k (qc5 k q) _ _ _ _ _) _
  unfold qd6
  exact Rl.f (by first | omega | (simp only [decide_eq_true_eq,decide_eq_false_iff_not,Int.toNat_natCast,beq_iff_eq,bne_iff_ne,ne_eq,Int.not_lt,Int.not_le,ge_iff_le,gt_iff_lt,beq_eq_false_iff_ne,Nat.zero_add];omega)) (Rl.pure _)
 | succ d ih=>
  intro i seen e hk h1 h2
  have hi:i<l.length:=by omega
  have eg:l[i]? =some l[i]:=List.getElem?_eq_getElem hi
  have et:(l.take (i+1)).map dl=(l.take i).map dl++ [dl l[i]]:=by rw [List.take_add_one,eg,List.map_append];rfl
  obtain⟨s2,f1,f2,f3⟩:∃s2:List (ByteArray×Int),qal .str (.int .i64) seen l[i] (IntKind.i64.wrap (qhb .str (.int .i64) seen l[i] 0+1))=s2∧(∀y,y∈qd1 s2↔y∈(l.take (i+1)).map dl)∧s2.length≤i+1∧(s2.length=i+1↔((l.take (i+1)).map dl).Nodup):=by
   rw [et]
   have nd:((l.take i).map dl++ [dl l[i]]).Nodup↔((l.take i).map dl).Nodup∧dl l[i]∉(l.take i).map dl:=by
    rw [List.nodup_append]
    constructor
    ·intro ⟨a,b,c⟩
     exact⟨a,fun hm=>c _ hm _ (by simp) rfl⟩
    ·intro ⟨a,b⟩
     exact⟨a,by simp,fun x hx y hy=>by simp at hy;subst hy;exact fun e=>b (e▸hx)⟩
   by_cases c:dl l[i]∈qd1 seen
   ·obtain⟨s',m1,m2,m3⟩:=qtg (IntKind.i64.wrap (qhb .str (.int .i64) seen l[i] 0+1)) c
    refine⟨s',m1,fun y=> ?_,by omega,?_⟩
    ·rw [m3,hk,List.mem_append,List.mem_singleton]
     exact⟨.inl,fun h=>h.elim id fun e=>by rw [e];exact(hk _).1 c⟩
    ·rw [nd]
     exact⟨fun h=>by omega,fun h=>absurd ((hk _).1 c) h.2⟩
   ·refine⟨_,qtf _ c,fun y=> ?_,by rw [List.length_append];simp;omega,?_⟩
    ·unfold qd1 at hk ⊢
     rw [List.map_append,List.mem_append,hk,List.mem_append]
     rfl
    ·rw [nd,List.length_append]
     simp only [List.length_singleton,Nat.add_right_cancel_iff]
     exact⟨fun h=>⟨h2.1 h,fun hm=>c ((hk _).2 hm)⟩,fun h=>h2.2 h.1⟩
  obtain⟨s',b1,b2,b3⟩:=ih (i+1) s2 (by omega) f2 f3.1 f3.2
  refine⟨s',Rl.up (f:=fun k q=>qc5 k q l l l.length (i:Int) seen) ?_,b2,b3⟩
  show Rl (fun k q=>qd6 k (qc5 k q) _ _ _ _ _) _
  unfold qd6
  rw [qe (x:=(i:Int)+1) (by omega)]
  refine Rl.t (by first | omega | (simp only [decide_eq_true_eq,decide_eq_false_iff_not,Int.toNat_natCast,beq_iff_eq,bne_iff_ne,ne_eq,Int.not_lt,Int.not_le,ge_iff_le,gt_iff_lt,beq_eq_false_iff_ne,Nat.zero_add];omega)) (Rl.t (by first | omega | (simp only [decide_eq_true_eq,decide_eq_false_iff_not,Int.toNat_natCast,beq_iff_eq,bne_iff_ne,ne_eq,Int.not_lt,Int.not_le,ge_iff_le,gt_iff_lt,beq_eq_false_iff_ne,Nat.zero_add];omega)) (Rl.at (by rw [Int.toNat_natCast];exact eg) ?_))
  rw [f1]
  exact b1
theorem qlI (l:List ByteArray) (hl:l.length≤1000000000000000000):Rn (fun k=>qbY k l) (twB l):=by
 obtain⟨s',b1,b2,b3⟩:=qn7 l hl l.length 0 [] (by omega) (by simp [qd1]) (by simp) (by simp)
 refine Rn.up (f:=fun k=>qbY k l) ?_
 show Rn (fun k=>qhZ k l) _
 unfold qhZ twB
 refine Rn.bind b1.diag (Rn.const (congrArg some ?_))
 rw [Bool.eq_iff_iff,bne_iff_ne,Bool.not_eq_true',decide_eq_false_iff_not,←b3]
 show(((s'.length:Nat):Int)≠((l.length:Nat):Int))↔_
 omega
theorem qvl (s:ByteArray) (l:List ByteArray) (hl:l.length≤1000000000000000000):Rn (fun k=>qdz k s l) (decide (dl s∈l.map dl)):=by
 obtain⟨o,b1,b2⟩:=qdG l.length 0 (fun k q i=>qaw k q s l i) () (fun a=>a=true) (fun j=>∀x,l[j]? =some x→dl x≠dl s) (by
   refine Rl.up (f:=fun k q=>qaw k q s l l.length) ?_
   show Rl (fun k q=>qbo k (qaw k q) _ _ _) _
   unfold qbo
   exact Rl.f (by simp) (Rl.pure _)) (by
   intro i hs hi hok o ho
   refine Rl.up (f:=fun k q=>qaw k q s l i) ?_
   show Rl (fun k q=>qbo k (qaw k q) _ _ _) _
   unfold qbo
   rw [qe (x:=(i:Int)+1) (by omega)]
   have eg:=List.getElem?_eq_getElem hi
   exact Rl.t (by first | omega | (simp only [decide_eq_true_eq,decide_eq_false_iff_not,Int.toNat_natCast,beq_iff_eq,bne_iff_ne,ne_eq,Int.not_lt,Int.not_le,ge_iff_le,gt_iff_lt,beq_eq_false_iff_ne,Nat.zero_add];omega)) (Rl.t (by first | omega | (simp only [decide_eq_true_eq,decide_eq_false_iff_not,Int.toNat_natCast,beq_iff_eq,bne_iff_ne,ne_eq,Int.not_lt,Int.not_le,ge_iff_le,gt_iff_lt,beq_eq_false_iff_ne,Nat.zero_add];omega)) (Rl.at (by rw [Int.toNat_natCast];exact eg) (Rl.f (by rw [beq_iff_eq];exact hok _ eg) ho)))) (by
   intro i hs hi hok
   have eg:=List.getElem?_eq_getElem hi
   refine⟨true,rfl,Rl.up (f:=fun k q=>qaw k q s l i) ?_⟩
   show Rl (fun k q=>qbo k (qaw k q) _ _ _) _
   unfold qbo
   have:dl (l[i])=dl s:=Classical.byContradiction fun h=>hok fun x hx=>by rw [eg] at hx;cases hx;exact h
   exact Rl.t (by first | omega | (simp only [decide_eq_true_eq,decide_eq_false_iff_not,Int.toNat_natCast,beq_iff_eq,bne_iff_ne,ne_eq,Int.not_lt,Int.not_le,ge_iff_le,gt_iff_lt,beq_eq_false_iff_ne,Nat.zero_add];omega)) (Rl.t (by first | omega | (simp only [decide_eq_true_eq,decide_eq_false_iff_not,Int.toNat_natCast,beq_iff_eq,bne_iff_ne,ne_eq,Int.not_lt,Int.not_le,ge_iff_le,gt_iff_lt,beq_eq_false_iff_ne,Nat.zero_add];omega)) (Rl.at (by rw [Int.toNat_natCast];exact eg) (Rl.t (by rw [beq_iff_eq];exact this) (Rl.pure _))))) l.length 0 (by omega) (by omega)
 have hall:dl s∈l.map dl↔¬ ∀j,0≤j→j<l.length→∀x,l[j]? =some x→dl x≠dl s:=by
  rw [List.mem_map]
  constructor
  ·rintro⟨x,hx,e⟩ h
   obtain⟨j,hj,ej⟩:=List.mem_iff_getElem.1 hx
   exact h j (Nat.zero_le _) hj x (by rw [List.getElem?_eq_getElem hj,ej]) e
  ·intro h
   exact Classical.byContradiction fun h2=>h fun j _ hj x hx e=>h2 ⟨x,List.mem_of_getElem? hx,e⟩
 refine Rn.up (f:=fun k=>qdz k s l) ?_
 show Rn (fun k=>qf9 k s l) _
 unfold qf9
 refine Rn.bind b1.diag ?_
 rcases b2 with ⟨b2,rfl⟩ | ⟨b2,a,rfl,rfl⟩
 ·rw [decide_eq_false (fun h=>hall.1 h b2)];exact Rn.pure _
 ·rw [decide_eq_true (hall.2 b2)];exact Rn.pure _
theorem qlJ (l:List ByteArray) (hl:l.length≤1000000000000000000):Rn (fun k=>qbP k l) (twB l):=by
 have hin:∀i,i<l.length→∀x,l[i]? =some x→Rn (fun k=>qdz k x (l.take i)) (decide (dl x∈(l.take i).map dl)):=fun i hi x _=>qvl x _ (by rw [List.length_take];omega)
 obtain⟨o,b1,b2⟩:=qdG l.length 0 (fun k q i=>qai k q l i) () (fun a=>a=true) (fun j=>∀x,l[j]? =some x→dl x∉(l.take j).map dl) (by
   refine Rl.up (f:=fun k q=>qai k q l l.length) ?_
   show Rl (fun k q=>qaY k (qai k q) _ _) _
   unfold qaY
   exact Rl.f (by simp) (Rl.pure _)) (by
   intro i hs hi hok o ho
   refine Rl.up (f:=fun k q=>qai k q l i) ?_
   show Rl (fun k q=>qaY k (qai k q) _ _) _
   unfold qaY
   rw [qe (x:=(i:Int)+1) (by omega)]
   have eg:=List.getElem?_eq_getElem hi
   have hx:=hin i hi _ eg
   rw [decide_eq_false (hok _ eg)] at hx
   exact Rl.t (by first | omega | (simp only [decide_eq_true_eq,decide_eq_false_iff_not,Int.toNat_natCast,beq_iff_eq,bne_iff_ne,ne_eq,Int.not_lt,Int.not_le,ge_iff_le,gt_iff_lt,beq_eq_false_iff_ne,Nat.zero_add];omega)) (Rl.t (by first | omega | (simp only [decide_eq_true_eq,decide_eq_false_iff_not,Int.toNat_natCast,beq_iff_eq,bne_iff_ne,ne_eq,Int.not_lt,Int.not_le,ge_iff_le,gt_iff_lt,beq_eq_false_iff_ne,Nat.zero_add];omega)) (Rl.at (by rw [Int.toNat_natCast];exact eg) (Rl.t (by first | omega | (simp only [decide_eq_true_eq,decide_eq_false_iff_not,Int.toNat_natCast,beq_iff_eq,bne_iff_ne,ne_eq,Int.not_lt,Int.not_le,ge_iff_le,gt_iff_lt,beq_eq_false_iff_ne,Nat.zero_add];omega)) (Rl.bind (by rw [Int.toNat_natCast];exact hx) (Rl.f (by decide) ho)))))) (by
   intro i hs hi hok
   have eg:=List.getElem?_eq_getElem hi
   refine⟨true,rfl,Rl.up (f:=fun k q=>qai k q l i) ?_⟩
   show Rl (fun k q=>qaY k (qai k q) _ _) _
   unfold qaY
   have hm:dl (l[i])∈(l.take i).map dl:=Classical.byContradiction fun h=>hok fun x hx=>by rw [eg] at hx;cases hx;exact h
   have hx:=hin i hi _ eg
   rw [decide_eq_true hm] at hx
   exact Rl.t (by first | omega | (simp only [decide_eq_true_eq,decide_eq_false_iff_not,Int.toNat_natCast,beq_iff_eq,bne_iff_ne,ne_eq,Int.not_lt,Int.not_le,ge_iff_le,gt_iff_lt,beq_eq_false_iff_ne,Nat.zero_add];omega)) (Rl.t (by first | omega | (simp only [decide_eq_true_eq,decide_eq_false_iff_not,Int.toNat_natCast,beq_iff_eq,bne_iff_ne,ne_eq,Int.not_lt,Int.not_le,ge_iff_le,gt_iff_lt,beq_eq_false_iff_ne,Nat.zero_add];omega)) (Rl.at (by rw [Int.toNat_natCast];exact eg) (Rl.t (by first | omega | (simp only [decide_eq_true_eq,decide_eq_false_iff_not,Int.toNat_natCast,beq_iff_eq,bne_iff_ne,ne_eq,Int.not_lt,Int.not_le,ge_iff_le,gt_iff_lt,beq_eq_false_iff_ne,Nat.zero_add];omega)) (Rl.bind (by rw [Int.toNat_natCast];exact hx) (Rl.t (by decide) (Rl.pure _))))))) l.length 0 (by omega) (by omega)
 have hnd:∀i,i≤l.length→(((l.take i).map dl).Nodup↔∀j,0≤j→j<i→∀x,l[j]? =some x→dl x∉(l.take j).map dl):=by
  intro i
  induction i with
  | zero=>intro _;simp
  | succ i ih=>
   intro hi
   have eg:=List.getElem?_eq_getElem (show i<l.length by omega)
   rw [List.take_add_one,eg]
   simp only [Option.toList_some,List.map_append,List.map_singleton]
   rw [List.nodup_append,ih (by omega)]
   constructor
   ·rintro⟨a,_,c⟩ j _ hj x hx
    rcases Nat.lt_or_ge j i with k | k
    ·exact a j (Nat.zero_le _) k x hx
    ·obtain rfl:j=i:=by omega
     rw [eg] at hx;cases hx
     exact fun hm=>c _ hm _ (by simp) rfl
   ·intro h
    exact⟨fun j h0 hj x hx=>h j h0 (by omega) x hx,by simp,fun x hx y hy=>by
     simp at hy;subst hy
     exact fun e=>h i (Nat.zero_le _) (by omega) _ eg (e▸hx)⟩
 have hl2:=hnd l.length (Nat.le_refl _)
 rw [List.take_length] at hl2
 refine Rn.up (f:=fun k=>qbP k l) ?_
 show Rn (fun k=>qfy k l) _
 unfold qfy twB
 refine Rn.bind b1.diag ?_
 rcases b2 with ⟨b2,rfl⟩ | ⟨b2,a,rfl,rfl⟩
 ·rw [decide_eq_true (hl2.2 b2)];exact Rn.pure _
 ·rw [decide_eq_false (fun h=>b2 (hl2.1 h))];exact Rn.pure _
def bBr:ByteArray:=ByteArray.mk (List.toArray (118::(101::(104::(99::(108::(116:: [])))))))
def brB (d:Dv):Bool:=decide (0≤qci bBr d.1)
def brL:Int→List Dv→List Int
 | _,[]=> []
 | n,d::l=>if brB d then n::brL (n+1) l else -1::brL n l
def qgg (l:List Dv):Nat:=l.countP brB
theorem qif:∀(l:List Dv) (n:Int),(brL n l).length=l.length
 | [],_=>rfl
 | d::l,n=>by unfold brL;split<;>simp [qif l]
theorem qqa (f1:List Dv) (hl:f1.length≤1000000000):∀(d i:Nat) (n:Int) (ls:List Int),i+d=f1.length→ls.length=i→0≤n+1→n≤1000000000+i→
  Rl (fun k q=>qc6 k q n ls.length f1 f1.length (i:Int) ls) (n+qgg (f1.drop i),f1.length,ls++brL n (f1.drop i)):=by
 intro d
 induction d with
 | zero=>
  intro i n ls e h1 h2 h3
  obtain rfl:i=f1.length:=by omega
  rw [List.drop_length]
  refine Rl.up (f:=fun k q=>qc6 k q n ls.length f1 f1.length (f1.length:Int) ls) ?_
  show Rl (fun k q=>qeb k (qc6 k q) _ _ _ _ _ _) _
  unfold qeb
  simp only [brL,List.append_nil]
  rw [h1]
  exact Rl.f (by first | omega | (simp only [decide_eq_true_eq,decide_eq_false_iff_not,Int.toNat_natCast,beq_iff_eq,bne_iff_ne,ne_eq,Int.not_lt,Int.not_le,ge_iff_le,gt_iff_lt,beq_eq_false_iff_ne,Nat.zero_add];omega)) (by simpa [qgg] using Rl.pure _)
 | succ d ih=>
  intro i n ls e h1 h2 h3
  have hi:i<f1.length:=by omega
  have eg:f1[i]? =some f1[i]:=List.getElem?_eq_getElem hi
  have edr:f1.drop i=f1[i]::f1.drop (i+1):=List.drop_eq_getElem_cons hi
  generalize f1[i]=x at eg edr
  rw [edr]
  refine Rl.up (f:=fun k q=>qc6 k q n ls.length f1 f1.length (i:Int) ls) ?_
  show Rl (fun k q=>qeb k (qc6 k q) _ _ _ _ _ _) _
  unfold qeb
  rw [qe (x:=(i:Int)+1) (by omega)]
  refine Rl.t (by first | omega | (simp only [decide_eq_true_eq,decide_eq_false_iff_not,Int.toNat_natCast,beq_iff_eq,bne_iff_ne,ne_eq,Int.not_lt,Int.not_le,ge_iff_le,gt_iff_lt,beq_eq_false_iff_ne,Nat.zero_add];omega)) (Rl.t (by first | omega | (simp only [decide_eq_true_eq,decide_eq_false_iff_not,Int.toNat_natCast,beq_iff_eq,bne_iff_ne,ne_eq,Int.not_lt,Int.not_le,ge_iff_le,gt_iff_lt,beq_eq_false_iff_ne,Nat.zero_add];omega)) (Rl.at (by rw [Int.toNat_natCast];exact eg) (Rl.bind (qcs _ _) ?_)))
  by_cases c:0≤qci bBr x.1
  ·have ih':=ih (i+1) (n+1) (ls++ [n]) (by omega) (by rw [List.length_append];simp;omega) (by omega) (by omega)
   rw [qe (x:=n+1) (by omega)]
   have hb:brB x=true:=decide_eq_true c
   have e1:List.take 1 [n]= [n]:=rfl
   refine Rl.t (decide_eq_true c) (Rl.t (Nat.le_refl _) (Rl.t (by rw [e1];simp only [List.length_singleton];omega) ?_))
   rw [e1,List.take_length]
   rw [List.length_append] at ih'
   rw [brL,if_pos hb,qgg,List.countP_cons_of_pos hb]
   rw [show n+((List.countP brB (f1.drop (i+1))+1:Nat):Int)=n+1+((List.countP brB (f1.drop (i+1)):Nat):Int) by omega]
   rw [List.append_assoc] at ih'
   exact ih'
  ·have ih':=ih (i+1) n (ls++ [-1]) (by omega) (by rw [List.length_append];simp;omega) (by omega) (by omega)
   have hb:¬brB x=true:=fun h=>c (of_decide_eq_true h)
   have e1:List.take 1 [(-1:Int)]= [-1]:=rfl
   refine Rl.f (fun h=>c (of_decide_eq_true h)) (Rl.t (Nat.le_refl _) (Rl.t (by omega) ?_))
   rw [e1,List.take_length]
   rw [List.length_append] at ih'
   rw [brL,if_neg hb,qgg,List.countP_cons_of_neg hb]
   rw [List.append_assoc] at ih'
   exact ih'
theorem qvm (f0:List ByteArray) (f1:List Dv) (f2 f3 f4:Int) (h0:f0.length≤1000000000) (hl:f1.length≤1000000000):Rn (fun k=>qdj k f0 f1 f2 f3 f4) ((f0.length:Int)-1+qgg f1,brL ((f0.length:Int)-1) f1):=by
 have h:=qqa f1 hl f1.length 0 ((f0.length:Int)-1) [] (by omega) rfl (by omega) (by omega)
 rw [List.drop_zero] at h
 refine Rn.up (f:=fun k=>qdj k f0 f1 f2 f3 f4) ?_
 show Rn (fun k=>qh2 k f0 f1 f2 f3 f4) _
 unfold qh2
 rw [qe (x:=(f0.length:Int)-1) (by omega)]
 refine Rn.bind h.diag (Rn.t (by simp [qif]) (Rn.const (congrArg some ?_)))
 simp only [List.nil_append]
 rw [List.take_of_length_le (by rw [qif];exact Nat.le_refl _)]
structure GoodD (d:Dv):Prop where
 kd:0≤d.1∧d.1<256
 nm:d.2.1.size≤1000000000000
 nd:d.2.2.1.length≤1000000000000
 wv:d.2.2.2.2.2.1.2.1.length≤1000000000000
 ws:d.2.2.2.2.2.1.2.2.length≤1000000000000
 mn:d.2.2.2.2.2.2.1.size≤1000000000000
 mg:d.2.2.2.2.2.2.2.2.1.length≤1000000000000
 mv:d.2.2.2.2.2.2.2.2.2.length≤1000000000000
structure Gd (f0:List ByteArray) (f1:List Dv):Prop where
 l0:f0.length≤1000000000
 l1:f1.length≤1000000000
 nm:∀s∈f0,s.size≤1000000000000
 dv:∀d∈f1,GoodD d
noncomputable def qeU (n:Nat) (f1:List Dv) (d:Dv):Bool:=okR n f1 d.1 d.2.1 d.2.2.1 d.2.2.2.1 d.2.2.2.2.1.1 d.2.2.2.2.1.2 d.2.2.2.2.2.1.1 d.2.2.2.2.2.1.2.1 d.2.2.2.2.2.1.2.2 d.2.2.2.2.2.2.1 d.2.2.2.2.2.2.2.1 d.2.2.2.2.2.2.2.2.1 d.2.2.2.2.2.2.2.2.2
def b0:List UInt8:= [48]
noncomputable def qex (f0:List ByteArray) (f1:List Dv) (f2 f3 f4:Int):Bool:=
 okN f2 f3 && decide (0<f2) && decide (f4=1∨f4=2) && decide (1≤f0.length∧f0.length≤32) && decide (f1.length≤64) && decide ((f0.map dl).headD []=b0) && !twB f0 && f0.all qb0 && f1.all (qeU f0.length f1) && !twB (f1.map fun d=>d.2.1)
noncomputable def chk (f0:List ByteArray) (f1:List Dv) (f2 f3 f4:Int):Int:=
 if qex f0 f1 f2 f3 f4=true then(if(48:Int)<(f0.length:Int)-1+qgg f1 then 5 else 0)else 90
section
variable (f0 : List ByteArray) (f1 : List Dv) (f2 f3 f4 : Int) (g : Gd f0 f1)
include g
theorem qn8:∃a,a.1=(90:Int)∧Rn (fun k=>qaF k k f0 f0.length 0 f0 f1 f2 f3 f4) (if f0.all qb0=true then .inr (f0,f1,f2,f3,f4)else .inl a):=by
 obtain⟨o,b1,b2⟩:=qdG f0.length 0 (fun k q i=>qaF k q f0 f0.length i f0 f1 f2 f3 f4) (f0,f1,f2,f3,f4) (fun a=>a=(90,f0,f1,f2,f3,f4)) (fun j=>∀x,f0[j]? =some x→qb0 x=true) (by
   refine Rl.up (f:=fun k q=>qaF k q f0 f0.length f0.length f0 f1 f2 f3 f4) ?_
   show Rl (fun k q=>qcG k (qaF k q) _ _ _ _ _ _ _ _) _
   unfold qcG
   exact Rl.f (by simp) (Rl.pure _)) (by
   intro i hs hi hok o ho
   refine Rl.up (f:=fun k q=>qaF k q f0 f0.length i f0 f1 f2 f3 f4) ?_
   show Rl (fun k q=>qcG k (qaF k q) _ _ _ _ _ _ _ _) _
   unfold qcG
   have eg:=List.getElem?_eq_getElem hi
   have hx:=qke _ (g.nm _ (List.getElem_mem hi))
   rw [hok _ eg] at hx
   have:=g.l0
   rw [qe (x:=(i:Int)+1) (by omega)]
   exact Rl.t (by first | omega | (simp only [decide_eq_true_eq,decide_eq_false_iff_not,Int.toNat_natCast,beq_iff_eq,bne_iff_ne,ne_eq,Int.not_lt,Int.not_le,ge_iff_le,gt_iff_lt,beq_eq_false_iff_ne,Nat.zero_add];omega)) (Rl.t (by first | omega | (simp only [decide_eq_true_eq,decide_eq_false_iff_not,Int.toNat_natCast,beq_iff_eq,bne_iff_ne,ne_eq,Int.not_lt,Int.not_le,ge_iff_le,gt_iff_lt,beq_eq_false_iff_ne,Nat.zero_add];omega)) (Rl.at (by rw [Int.toNat_natCast];exact eg) (Rl.bind hx (Rl.f (by decide) ho))))) (by
   intro i hs hi hok
   refine⟨_,rfl,Rl.up (f:=fun k q=>qaF k q f0 f0.length i f0 f1 f2 f3 f4) ?_⟩
   show Rl (fun k q=>qcG k (qaF k q) _ _ _ _ _ _ _ _) _
   unfold qcG
   have eg:=List.getElem?_eq_getElem hi
   have hx:=qke _ (g.nm _ (List.getElem_mem hi))
   have hf:qb0 (f0[i]'hi)=false:=by
    rw [←Bool.not_eq_true]
    exact fun h=>hok fun x hx=>by rw [eg] at hx;cases hx;exact h
   rw [hf] at hx
   exact Rl.t (by first | omega | (simp only [decide_eq_true_eq,decide_eq_false_iff_not,Int.toNat_natCast,beq_iff_eq,bne_iff_ne,ne_eq,Int.not_lt,Int.not_le,ge_iff_le,gt_iff_lt,beq_eq_false_iff_ne,Nat.zero_add];omega)) (Rl.t (by first | omega | (simp only [decide_eq_true_eq,decide_eq_false_iff_not,Int.toNat_natCast,beq_iff_eq,bne_iff_ne,ne_eq,Int.not_lt,Int.not_le,ge_iff_le,gt_iff_lt,beq_eq_false_iff_ne,Nat.zero_add];omega)) (Rl.at (by rw [Int.toNat_natCast];exact eg) (Rl.bind hx (Rl.t (by decide) (Rl.pure _)))))) f0.length 0 (by omega) (by omega)
 have hall:f0.all qb0=true↔∀j,0≤j→j<f0.length→∀x,f0[j]? =some x→qb0 x=true:=by
  rw [List.all_eq_true]
  exact⟨fun h j _ _ x hx=>h x (List.mem_of_getElem? hx),fun h x hx=>by
   obtain⟨j,hj,e⟩:=List.mem_iff_getElem.1 hx
   exact h j (Nat.zero_le _) hj x (by rw [List.getElem?_eq_getElem hj,e])⟩
 refine⟨(90,f0,f1,f2,f3,f4),rfl,?_⟩
 rcases b2 with ⟨b2,rfl⟩ | ⟨b2,a,rfl,rfl⟩
 ·rw [if_pos (hall.2 b2)];exact b1.diag
 ·rw [if_neg (fun h=>b2 (hall.1 h))];exact b1.diag
theorem qrH (d:Dv) (hd:d∈f1):Rn (fun k=>qfO k f0 f1 f2 f3 f4 d.1 d.2.1 d.2.2.1 d.2.2.2.1 d.2.2.2.2.1.1 d.2.2.2.2.1.2 d.2.2.2.2.2.1.1 d.2.2.2.2.2.1.2.1 d.2.2.2.2.2.1.2.2 d.2.2.2.2.2.2.1 d.2.2.2.2.2.2.2.1 d.2.2.2.2.2.2.2.2.1 d.2.2.2.2.2.2.2.2.2) (qeU f0.length f1 d):=by
 have h:=g.dv d hd
 have a1:=h.nm
 have a2:=h.nd
 have a3:=h.wv
 have a4:=h.ws
 have a5:=h.mn
 have a6:=h.mg
 have a7:=h.mv
 exact qrG f0 f1 f2 f3 f4 _ _ _ _ _ _ _ _ _ _ _ _ _ a1 (by omega) (by omega) (by omega) (by omega) (by omega) (by omega)
theorem qqb:∀(d i:Nat) (ls:List ByteArray),i+d=f1.length→ls=(f1.take i).map (fun d=>d.2.1)→
  ∃a,a.1=(90:Int)∧Rl (fun k q=>qaq k q ls.length f1 f1.length (i:Int) f0 f1 f2 f3 f4 ls) (if(f1.drop i).all (qeU f0.length f1)=true then .inr (f1.length,f0,f1,f2,f3,f4,f1.map fun d=>d.2.1)else .inl a):=by
 intro d
 induction d with
 | zero=>
  intro i ls e hl
  obtain rfl:i=f1.length:=by omega
  rw [List.take_length] at hl
  refine⟨(90,f0,f1,f2,f3,f4,[],0,ByteArray.mk #[],[],0,0,0,0,[],[],ByteArray.mk #[],0,[],[]),rfl,Rl.up (f:=fun k q=>qaq k q ls.length f1 f1.length (f1.length:Int) f0 f1 f2 f3 f4 ls) ?_⟩
  show Rl (fun k q=>qcH k (qaq k q) _ _ _ _ _ _ _ _ _ _) _
  unfold qcH
  rw [List.drop_length,if_pos (by rfl),hl,List.length_map]
  exact Rl.f (by first | omega | (simp only [decide_eq_true_eq,decide_eq_false_iff_not,Int.toNat_natCast,beq_iff_eq,bne_iff_ne,ne_eq,Int.not_lt,Int.not_le,ge_iff_le,gt_iff_lt,beq_eq_false_iff_ne,Nat.zero_add];omega)) (Rl.pure _)
 | succ d ih=>
  intro i ls e hl
  have hi:i<f1.length:=by omega
  have hm:=List.getElem_mem hi
  have eg:f1[i]? =some f1[i]:=List.getElem?_eq_getElem hi
  have edr:f1.drop i=f1[i]::f1.drop (i+1):=List.drop_eq_getElem_cons hi
  have et:f1.take (i+1)=f1.take i++ [f1[i]]:=by rw [List.take_add_one,eg];rfl
  generalize f1[i]=x at eg edr et hm
  have hx:=qrH f0 f1 f2 f3 f4 g x hm
  have hg:=g.l1
  have hlen:ls.length=i:=by rw [hl,List.length_map,List.length_take];omega
  rw [edr,List.all_cons]
  cases hb:qeU f0.length f1 x
  ·rw [hb] at hx
   refine⟨(90,f0,f1,f2,f3,f4,ls,x.1,x.2.1,x.2.2.1,x.2.2.2.1,x.2.2.2.2.1.1,x.2.2.2.2.1.2,x.2.2.2.2.2.1.1,x.2.2.2.2.2.1.2.1,x.2.2.2.2.2.1.2.2,x.2.2.2.2.2.2.1,x.2.2.2.2.2.2.2.1,x.2.2.2.2.2.2.2.2.1,x.2.2.2.2.2.2.2.2.2),rfl,Rl.up (f:=fun k q=>qaq k q ls.length f1 f1.length (i:Int) f0 f1 f2 f3 f4 ls) ?_⟩
   show Rl (fun k q=>qcH k (qaq k q) _ _ _ _ _ _ _ _ _ _) _
   unfold qcH
   rw [Bool.false_and,if_neg (by decide)]
   exact Rl.t (by first | omega | (simp only [decide_eq_true_eq,decide_eq_false_iff_not,Int.toNat_natCast,beq_iff_eq,bne_iff_ne,ne_eq,Int.not_lt,Int.not_le,ge_iff_le,gt_iff_lt,beq_eq_false_iff_ne,Nat.zero_add];omega)) (Rl.t (by first | omega | (simp only [decide_eq_true_eq,decide_eq_false_iff_not,Int.toNat_natCast,beq_iff_eq,bne_iff_ne,ne_eq,Int.not_lt,Int.not_le,ge_iff_le,gt_iff_lt,beq_eq_false_iff_ne,Nat.zero_add];omega)) (Rl.at (by rw [Int.toNat_natCast];exact eg) (Rl.bind hx (Rl.t (by decide) (Rl.pure _)))))
  ·rw [hb] at hx
   obtain⟨a,ha,b⟩:=ih (i+1) (ls++ [x.2.1]) (by omega) (by rw [et,List.map_append,←hl];rfl)
   refine⟨a,ha,Rl.up (f:=fun k q=>qaq k q ls.length f1 f1.length (i:Int) f0 f1 f2 f3 f4 ls) ?_⟩
   show Rl (fun k q=>qcH k (qaq k q) _ _ _ _ _ _ _ _ _ _) _
   unfold qcH
   rw [qe (x:=(i:Int)+1) (by omega),Bool.true_and]
   have e1:List.take 1 [x.2.1]= [x.2.1]:=rfl
   refine Rl.t (by first | omega | (simp only [decide_eq_true_eq,decide_eq_false_iff_not,Int.toNat_natCast,beq_iff_eq,bne_iff_ne,ne_eq,Int.not_lt,Int.not_le,ge_iff_le,gt_iff_lt,beq_eq_false_iff_ne,Nat.zero_add];omega)) (Rl.t (by first | omega | (simp only [decide_eq_true_eq,decide_eq_false_iff_not,Int.toNat_natCast,beq_iff_eq,bne_iff_ne,ne_eq,Int.not_lt,Int.not_le,ge_iff_le,gt_iff_lt,beq_eq_false_iff_ne,Nat.zero_add];omega)) (Rl.at (by rw [Int.toNat_natCast];exact eg) (Rl.bind hx (Rl.f (by decide) (Rl.t (Nat.le_refl _) (Rl.t (by rw [e1];simp only [List.length_singleton];omega) ?_))))))
   rw [e1,List.take_length]
   rw [List.length_append] at b
   exact b
theorem qlK:Rn (fun k=>qeH k f0 f1 f2 f3 f4) (chk f0 f1 f2 f3 f4):=by
 refine Rn.up (f:=fun k=>qeH k f0 f1 f2 f3 f4) ?_
 show Rn (fun k=>qgY k f0 f1 f2 f3 f4) _
 have g0:=g.l0
 have g1:=g.l1
 obtain⟨a1,a2,K1,h1⟩:=qn8 f0 f1 f2 f3 f4 g
 obtain⟨c1,c2,c3⟩:=qqb f0 f1 f2 f3 f4 g f1.length 0 [] (by omega) rfl
 obtain⟨K2,h2⟩:=c3.diag
 obtain⟨K3,h3⟩:=qdl f2 f3
 obtain⟨K4,h4⟩:=qlI f0 (by omega)
 obtain⟨K5,h5⟩:=qlI (f1.map fun d=>d.2.1) (by rw [List.length_map];omega)
 obtain⟨K6,h6⟩:=qvm f0 f1 f2 f3 f4 g0 g1
 refine⟨K1+K2+K3+K4+K5+K6,fun k hk=> ?_⟩
 have e1:qaF k k f0 f0.length 0 f0 f1 f2 f3 f4=_:=h1 k (by omega)
 have e2:qaq k k 0 f1 f1.length 0 f0 f1 f2 f3 f4 []=_:=h2 k (by omega)
 have e3:qY k f2 f3=_:=h3 k (by omega)
 have e4:qbY k f0=_:=h4 k (by omega)
 have e5:qbY k (f1.map fun d=>d.2.1)=_:=h5 k (by omega)
 have e6:qdj k f0 f1 f2 f3 f4=_:=h6 k (by omega)
 clear h1 h2 h3 h4 h5 h6 hk c3 g
 show qgY k f0 f1 f2 f3 f4=_
 unfold qgY chk qex
 rw [e3,Option.bind_some]
 cases hn:okN f2 f3
 ·simp
 rw [if_pos (by rfl)]
 by_cases p2:0<f2
 rotate_left
 ·rw [if_neg (by simpa using p2)];simp [p2]
 rw [if_pos (by simpa using p2)]
 by_cases q:f4=1∨f4=2
 rotate_left
 ·rw [if_pos (by simp;omega),if_pos (by simp;omega)];simp [q]
 rcases q with q | q
 ·rw [if_neg (by simp [q])]
  by_cases l1:1≤f0.length
  rotate_left
  ·rw [if_neg (by rw [decide_eq_false_iff_not];omega)];simp [l1]
  rw [if_pos (by rw [decide_eq_false_iff_not];omega)]
  by_cases l2:f0.length≤32
  rotate_left
  ·rw [if_neg (by rw [decide_eq_false_iff_not];omega)];simp [l2]
  rw [if_pos (by rw [decide_eq_false_iff_not];omega)]
  obtain⟨x,r,ex⟩:∃x r,f0=x::r:=by cases f0 with | nil=>simp at l1 | cons x r=>exact⟨x,r,rfl⟩
  have ex0:f0[0]? =some x:=by rw [ex];rfl
  have exh:(f0.map dl).headD []=dl x:=by rw [ex];rfl
  rw [ex0,Option.bind_some]
  by_cases hz:dl x=b0
  rotate_left
  ·rw [if_neg (by simp only [Bool.not_eq_false',beq_iff_eq];exact hz)];rw [decide_eq_false (p:=(f0.map dl).headD []=b0) (by rw [exh];exact hz)];simp
  rw [if_pos (by simp only [Bool.not_eq_false',beq_iff_eq];exact hz)]
  by_cases l3:f1.length≤64
  rotate_left
  ·rw [if_neg (by rw [decide_eq_false_iff_not];omega)];simp [l3]
  rw [if_pos (by rw [decide_eq_false_iff_not];omega),e4,Option.bind_some]
  cases ht:twB f0
  rotate_left
  ·simp
  rw [if_neg (by decide),e1,Option.bind_some]
  cases hl:f0.all qb0
  ·simp [qc,a2]
  rw [if_pos rfl]
  show Option.bind (qaq k k 0 f1 f1.length 0 f0 f1 f2 f3 f4 []) _=_
  rw [List.drop_zero] at e2
  erw [e2]
  rw [Option.bind_some]
  cases hd:f1.all (qeU f0.length f1)
  ·simp [qc,c2]
  rw [if_pos rfl]
  show(if 0+f1.length≤(f1.map fun d=>d.2.1).length then _ else none)=_
  rw [if_pos (by rw [List.length_map];omega)]
  show Option.bind (qbY k (List.take f1.length (f1.map fun d=>d.2.1))) _=_
  rw [List.take_of_length_le (by rw [List.length_map];omega),e5,Option.bind_some]
  cases hw:twB (f1.map fun d=>d.2.1)
  rotate_left
  ·simp
  rw [if_neg (by decide)]
  show Option.bind (qdj k f0 f1 f2 f3 f4) _=_
  rw [e6,Option.bind_some,exh]
  simp only [p2,q,l1,l2,l3,hz,decide_true,Bool.and_true,Bool.not_false,and_self,if_true,true_or,or_true]
  by_cases l4:(48:Int)<(f0.length:Int)-1+qgg f1
  ·rw [if_pos (by rw [decide_eq_true_eq];exact l4),if_pos l4]
  ·rw [if_neg (by rw [decide_eq_true_eq];exact l4),if_neg l4]
 ·rw [if_pos (by simp [q]),if_neg (by simp [q])]
  by_cases l1:1≤f0.length
  rotate_left
  ·rw [if_neg (by rw [decide_eq_false_iff_not];omega)];simp [l1]
  rw [if_pos (by rw [decide_eq_false_iff_not];omega)]
  by_cases l2:f0.length≤32
  rotate_left
  ·rw [if_neg (by rw [decide_eq_false_iff_not];omega)];simp [l2]
  rw [if_pos (by rw [decide_eq_false_iff_not];omega)]
  obtain⟨x,r,ex⟩:∃x r,f0=x::r:=by cases f0 with | nil=>simp at l1 | cons x r=>exact⟨x,r,rfl⟩
  have ex0:f0[0]? =some x:=by rw [ex];rfl
  have exh:(f0.map dl).headD []=dl x:=by rw [ex];rfl
  rw [ex0,Option.bind_some]
  by_cases hz:dl x=b0
  rotate_left
  ·rw [if_neg (by simp only [Bool.not_eq_false',beq_iff_eq];exact hz)];rw [decide_eq_false (p:=(f0.map dl).headD []=b0) (by rw [exh];exact hz)];simp
  rw [if_pos (by simp only [Bool.not_eq_false',beq_iff_eq];exact hz)]
  by_cases l3:f1.length≤64
  rotate_left
  ·rw [if_neg (by rw [decide_eq_false_iff_not];omega)];simp [l3]
  rw [if_pos (by rw [decide_eq_false_iff_not];omega),e4,Option.bind_some]
  cases ht:twB f0
  rotate_left
  ·simp
  rw [if_neg (by decide),e1,Option.bind_some]
  cases hl:f0.all qb0
  ·simp [qc,a2]
  rw [if_pos rfl]
  show Option.bind (qaq k k 0 f1 f1.length 0 f0 f1 f2 f3 f4 []) _=_
  rw [List.drop_zero] at e2
  erw [e2]
  rw [Option.bind_some]
  cases hd:f1.all (qeU f0.length f1)
  ·simp [qc,c2]
  rw [if_pos rfl]
  show(if 0+f1.length≤(f1.map fun d=>d.2.1).length then _ else none)=_
  rw [if_pos (by rw [List.length_map];omega)]
  show Option.bind (qbY k (List.take f1.length (f1.map fun d=>d.2.1))) _=_
  rw [List.take_of_length_le (by rw [List.length_map];omega),e5,Option.bind_some]
  cases hw:twB (f1.map fun d=>d.2.1)
  rotate_left
  ·simp
  rw [if_neg (by decide)]
  show Option.bind (qdj k f0 f1 f2 f3 f4) _=_
  rw [e6,Option.bind_some,exh]
  simp only [p2,q,l1,l2,l3,hz,decide_true,Bool.and_true,Bool.not_false,and_self,if_true,true_or,or_true]
  by_cases l4:(48:Int)<(f0.length:Int)-1+qgg f1
  ·rw [if_pos (by rw [decide_eq_true_eq];exact l4),if_pos l4]
  ·rw [if_neg (by rw [decide_eq_true_eq];exact l4),if_neg l4]
end
theorem qoU (c:UInt8):∀l:List UInt8,0≤Go.Lib.indexByte l c↔c∈l
 | []=>by simp [Go.Lib.indexByte]
 | b::l=>by
  have ih:=qoU c l
  have hg:=Go.Lib.indexByte_ge l c
  unfold Go.Lib.indexByte
  by_cases e:(b == c)=true
  ·rw [if_pos e]
   have:b=c:=by simpa using e
   simp [this]
  ·rw [if_neg e]
   have hne:¬c=b:=fun h=>e (by simp [h])
   by_cases e2:(Go.Lib.indexByte l c == -1)=true
   ·rw [if_pos e2]
    have e3:Go.Lib.indexByte l c= -1:=by simpa using e2
    have:¬c∈l:=fun h=>by have:=ih.2 h;omega
    simp [hne,this]
   ·rw [if_neg e2]
    have e3:¬Go.Lib.indexByte l c= -1:=by simpa using e2
    have:c∈l:=ih.1 (by omega)
    simp only [List.mem_cons,this,or_true,iff_true]
    omega
theorem qfb (s:ByteArray) (c:Int):0≤qci s c↔c.toNat.toUInt8∈s.data.toList:=qoU _ _
def bOp:ByteArray:=ByteArray.mk (List.toArray [114,108,118,101,104,116,100,115])
def qg0:ByteArray:=bOp++ByteArray.mk (List.toArray [99])
theorem qqc:qg0.data.toList= [114,108,118,101,104,116,100,115,99]:=by decide +kernel
theorem qth:bOp.data.toList= [114,108,118,101,104,116,100,115]:=by decide +kernel
section
variable (b : List Int) (hb : b.length ≤ 1000000000) (sb : b.Pairwise (· < ·))
include hb sb
end
def Chk (f0:List ByteArray) (f1:List Dv) (c:Int):Prop:=c=0→1≤f0.length∧f0.length≤1000000000∧f1.length≤1000000000∧∀d∈f1,OkD f0.length d
section
variable (f0 : List ByteArray) (f1 : List Dv) (f2 f3 f4 c : Int) (hc : Rn (fun k => qeH k f0 f1 f2 f3 f4) c) (hok : Chk f0 f1 c)
include hc
theorem qrI (mode:Int) (hm:mode=1∨mode=2):Rn (fun k=>qeq k f0 f1 f2 f3 f4 mode) c:=by
 refine Rn.up (f:=fun k=>qeq k f0 f1 f2 f3 f4 mode) ?_
 show Rn (fun k=>qgC k f0 f1 f2 f3 f4 mode) _
 unfold qgC
 refine Rn.bind hc ?_
 by_cases h:c=0
 ·subst h
  rcases hm with rfl | rfl
  ·exact Rn.f (by decide) (Rn.f (by decide) (Rn.pure _))
  ·exact Rn.f (by decide) (Rn.t (by decide) (Rn.f (by decide) (Rn.pure _)))
 ·exact Rn.t (by simp [h]) (Rn.pure _)
def flR (first:ByteArray) (f1:List Dv):Nat→Nat:=f1.foldl (tie first) id
include hok
theorem qrJ (mode:Int) (hm:mode=1∨mode=2):∃l:List Int,Rn (fun k=>qbb k f0 f1 f2 f3 f4 mode) (l.length,c,l)∧l=if c=0 then flo (flR (if mode=2 then qg0 else bOp) f1) f0.length else []:=by
 refine⟨_,Rn.up (f:=fun k=>qbb k f0 f1 f2 f3 f4 mode) ?_,rfl⟩
 show Rn (fun k=>qe7 k f0 f1 f2 f3 f4 mode) _
 unfold qe7
 refine Rn.bind (qrI f0 f1 f2 f3 f4 c hc mode hm) ?_
 by_cases h:c=0
 ·rw [if_pos h]
  obtain⟨k1,k2,k3,k4⟩:=hok h
  obtain⟨s0,u0,v0⟩:=qkL f0.length k2
  refine Rn.f (by simp [h]) (Rn.bind v0 ?_)
  by_cases m2:mode=2
  ·rw [if_pos m2]
   obtain⟨s1,dp1,u1,v1⟩:=qoB k2 qg0 f0 f1 f2 f3 f4 k3 k4 f1.length 0 s0 id _ u0 (by omega)
   obtain⟨s2,v2⟩:=qoA k2 f0.length 0 s1 u1 (by omega)
   rw [h]
   exact Rn.t (by simp [m2]) (Rn.bind v1.diag (Rn.bind v2.diag (Rn.pure _)))
  ·rw [if_neg m2]
   obtain⟨s1,dp1,u1,v1⟩:=qoB k2 bOp f0 f1 f2 f3 f4 k3 k4 f1.length 0 s0 id _ u0 (by omega)
   obtain⟨s2,v2⟩:=qoA k2 f0.length 0 s1 u1 (by omega)
   rw [h]
   exact Rn.f (by simp [m2]) (Rn.bind v1.diag (Rn.bind v2.diag (Rn.pure _)))
 ·rw [if_neg h]
  exact Rn.t (by simp [h]) (Rn.pure _)
theorem qti (mode:Int) (hm:mode=1∨mode=2):∃l:List Int,Rn (fun k=>qdk k f0 f1 f2 f3 f4 mode) (l.length,c,l)∧l=if c=0 then lps mode f1 0 id else []:=by
 refine⟨_,Rn.up (f:=fun k=>qdk k f0 f1 f2 f3 f4 mode) ?_,rfl⟩
 show Rn (fun k=>qfP k f0 f1 f2 f3 f4 mode) _
 unfold qfP
 refine Rn.bind (qrI f0 f1 f2 f3 f4 c hc mode hm) ?_
 by_cases h:c=0
 ·rw [if_pos h]
  obtain⟨k1,k2,k3,k4⟩:=hok h
  obtain⟨s0,u0,v0⟩:=qkL f0.length k2
  obtain⟨s1,v1⟩:=qyO k2 mode f1 k3 k4 f1.length 0 s0 id _ [] u0 (by omega) (by simp)
  rw [h]
  exact Rn.f (by simp) (Rn.bind v0 (Rn.bind v1.diag (Rn.pure _)))
 ·rw [if_neg h]
  exact Rn.t (by simp [h]) (Rn.pure _)
end
theorem qqg {c:Int} (h:0≤c∧c<256) (n:Nat) (hn:n<256):c.toNat.toUInt8=n.toUInt8↔c=n:=by
 constructor
 ·intro e
  have:=congrArg UInt8.toNat e
  rw [Nat.toUInt8_eq,Nat.toUInt8_eq,UInt8.toNat_ofNat',UInt8.toNat_ofNat'] at this
  rw [Nat.mod_eq_of_lt (by omega),Nat.mod_eq_of_lt (by omega)] at this
  omega
 ·rintro rfl;rfl
theorem qyX {n:Nat} {f1:List Dv} {d:Dv} (g:GoodD d) (h:qeU n f1 d=true):OkD n d:=by
 unfold qeU okR at h
 simp only [Bool.and_eq_true,decide_eq_true_eq] at h
 obtain⟨⟨⟨⟨h1,h2⟩,h3⟩,h4⟩,h5⟩:=h
 have hk:qQ d.1=2∨qQ d.1=4:=by
  unfold qQ at h1 ⊢
  repeat' split
  all_goals first | omega | (exfalso;revert h1;simp_all)
 have h4':=(qgf (l:=d.2.2.1)).1 h4
 refine⟨fun i hi=> ?_,by omega,fun he=> ?_⟩
 ·have:=h4' i (by omega) hi
  rwa [decide_eq_true_eq] at this
 ·have hm:=(qfb _ _).1 he
  have hk4:qQ d.1=4:=by
   have e:d.1=101∨d.1=103∨d.1=116:=by
    change d.1.toNat.toUInt8∈ [(101:UInt8),103,116] at hm
    simp only [List.mem_cons,List.not_mem_nil,or_false] at hm
    rcases hm with hm | hm | hm
    ·exact .inl ((qqg g.kd 101 (by omega)).1 hm)
    ·exact .inr (.inl ((qqg g.kd 103 (by omega)).1 hm))
    ·exact .inr (.inr ((qqg g.kd 116 (by omega)).1 hm))
   rcases e with e | e | e<;>rw [e]<;>rfl
  omega
theorem qnH {f0:List ByteArray} {f1:List Dv} {f2 f3 f4:Int} (h:chk f0 f1 f2 f3 f4=0):qex f0 f1 f2 f3 f4=true:=by
 unfold chk at h
 split at h
 ·assumption
 ·omega
theorem qlg {f0:List ByteArray} {f1:List Dv} {f2 f3 f4:Int} (g:Gd f0 f1):Chk f0 f1 (chk f0 f1 f2 f3 f4):=by
 intro h
 have h:=qnH h
 unfold qex at h
 simp only [Bool.and_eq_true,decide_eq_true_eq] at h
 have hd:=List.all_eq_true.1 h.1.2
 have hl:=h.1.1.1.1.1.1.2
 exact⟨hl.1,by omega,g.l1,fun d hd'=>qyX (g.dv d hd') (hd d hd')⟩
abbrev qkV:Cd:= .pr (.int .i64) (.int .i64)
abbrev qAy:Cd:= .pr (.int .u8) (.pr .str (.pr (.sl (.int .i64)) (.pr (.int .i64) (.pr qkV (.pr (.pr (.int .i64) (.pr (.sl qkV) (.sl (.int .i64)))) (.pr .str (.pr (.int .u8) (.pr (.sl qkV) (.sl qkV)))))))))
abbrev qkW:Cd:= .pr (.sl .str) (.pr (.sl qAy) (.pr qkV (.int .i64)))
theorem qAz {x:qkW.D} (w:qhI 8589934592 qkW x):Gd x.1 x.2.1:=by
 obtain⟨⟨⟨_,w0⟩,w1⟩,⟨⟨_,w2⟩,w3⟩,_⟩:=w
 simp only [Cd.by] at w0 w2
 refine⟨by omega,by omega,fun s hs=> ?_,fun d hd=> ?_⟩
 ·have:=(w1 s hs).2
  omega
 ·obtain⟨k0,⟨_,k1⟩,⟨⟨_,k2⟩,_⟩,_,_,⟨_,⟨⟨_,k3⟩,_⟩,⟨_,k4⟩,_⟩,⟨_,k5⟩,_,⟨⟨_,k6⟩,_⟩,⟨_,k7⟩,_⟩:=w3 d hd
  simp only [Cd.by] at k2 k3 k4 k6 k7
  simp only [qhI,Lit.wf,IntKind.min,IntKind.max,IntKind.signed,IntKind.bits] at k0
  refine⟨?_,by omega,by omega,by omega,by omega,by omega,by omega,by omega⟩
  simp at k0
  omega
section
variable (f0 : List ByteArray) (f1 : List Dv) (f2 f3 f4 : Int) (g : Gd f0 f1)
include g
theorem qrO (k:Nat) (rec:Int→List ByteArray→List Dv→Int→Int→Int→Nat→Nat→Int→Int→Int→Nat→Nat→Int→Int→Int→List ByteArray→List Dv→List ByteArray→List Dv→Option (List ByteArray×List Dv×Int×Int×Int×Nat×Nat×Int×Int×Int×Nat×Nat×Int×Int×Int×List ByteArray×List Dv×List ByteArray×List Dv))
  (i:Nat) (hi:i<f1.length) (x0 x1:Nat) (x2 x3 x4:Int) (o0:Nat) (o2 o3 o4:Int) (m:List ByteArray) (m1:List Dv) (m2:List ByteArray) (ls:List Dv) (hl:ls.length=i):
  qbX k rec (i:Int) f0 f1 f2 f3 f4 x0 x1 x2 x3 x4 o0 ls.length o2 o3 o4 m m1 m2 ls=rec ((i+1:Nat):Int) f0 f1 f2 f3 f4 x0 x1 x2 x3 x4 o0 (ls++ [f1[i]]).length o2 o3 o4 m m1 m2 (ls++ [f1[i]]):=by
 have eg:f1[i]? =some f1[i]:=List.getElem?_eq_getElem hi
 have hg:=g.dv _ (List.getElem_mem hi)
 have hl1:=g.l1
 generalize f1[i]=x at eg hg
 have a2:=hg.nd
 have a3:=hg.wv
 have a4:=hg.ws
 have a6:=hg.mg
 have a7:=hg.mv
 have w1:IntKind.i64.wrap ((i:Int)+1)=((i+1:Nat):Int):=by rw [qe (by omega)];omega
 unfold qbX
 rw [if_pos (by rw [decide_eq_true_eq];omega),if_pos (by omega),Int.toNat_natCast,eg,Option.bind_some]
 simp only [List.take_zero,List.nil_append,Nat.zero_add,List.take_length,w1,List.take_succ_cons,List.length_append,List.length_singleton]
 rw [if_pos (by omega),if_pos (by omega),if_pos (by omega),if_pos (by omega),if_pos (by omega),if_pos (Nat.le_refl _),if_pos (Nat.le_refl _),if_pos (Nat.le_refl _),if_pos (Nat.le_refl _),if_pos (Nat.le_refl _),if_pos (Nat.le_refl _),if_pos (by omega)]
theorem qrP:∀(d i:Nat) (x0 x1:Nat) (x2 x3 x4:Int) (o0:Nat) (o2 o3 o4:Int) (m:List ByteArray) (m1:List Dv) (m2:List ByteArray) (ls:List Dv),i+d=f1.length→ls=f1.take i→
  Rl (fun k q=>qbA k q (i:Int) f0 f1 f2 f3 f4 x0 x1 x2 x3 x4 o0 ls.length o2 o3 o4 m m1 m2 ls) (f0,f1,f2,f3,f4,x0,x1,x2,x3,x4,o0,f1.length,o2,o3,o4,m,m1,m2,f1):=by
 intro d
 induction d with
 | zero=>
  intro i x0 x1 x2 x3 x4 o0 o2 o3 o4 m m1 m2 ls e hl
  obtain rfl:i=f1.length:=by omega
  rw [List.take_length] at hl
  subst hl
  refine Rl.up (f:=fun k q=>qbA k q (ls.length:Int) f0 ls f2 f3 f4 x0 x1 x2 x3 x4 o0 ls.length o2 o3 o4 m m1 m2 ls) ?_
  show Rl (fun k q=>qbX k (qbA k q) _ _ _ _ _ _ _ _ _ _ _ _ _ _ _ _ _ _ _ _) _
  unfold qbX
  exact Rl.f (by simp) (Rl.pure _)
 | succ d ih=>
  intro i x0 x1 x2 x3 x4 o0 o2 o3 o4 m m1 m2 ls e hl
  have hi:i<f1.length:=by omega
  have hlen:ls.length=i:=by rw [hl,List.length_take];omega
  refine Rl.up (f:=fun k q=>qbA k q (i:Int) f0 f1 f2 f3 f4 x0 x1 x2 x3 x4 o0 ls.length o2 o3 o4 m m1 m2 ls) ?_
  show Rl (fun k q=>qbX k (qbA k q) _ _ _ _ _ _ _ _ _ _ _ _ _ _ _ _ _ _ _ _) _
  simp only [qrO f0 f1 f2 f3 f4 g _ _ i hi _ _ _ _ _ _ _ _ _ _ _ _ ls hlen]
  exact ih (i+1) x0 x1 x2 x3 x4 o0 o2 o3 o4 m m1 m2 _ (by omega) (by rw [List.take_add_one,List.getElem?_eq_getElem hi,hl];rfl)
theorem qvo:Rn (fun k=>qeu k f0 f1 f2 f3 f4) (f0.length,f1.length,f2,f3,f4,f0,f1):=by
 refine Rn.up (f:=fun k=>qeu k f0 f1 f2 f3 f4) ?_
 show Rn (fun k=>qga k f0 f1 f2 f3 f4) _
 unfold qga
 have h0:=g.l0
 have h:=qrP f0 f1 f2 f3 f4 g f1.length 0 0 0 0 0 0 (0+f0.length) f2 f3 f4 [] [] ((List.take 0 [])++f0) [] (by omega) rfl
 refine Rn.t (by omega) (Rn.bind h.diag (Rn.const (congrArg some ?_)))
 simp only [List.take_zero,List.nil_append,Nat.zero_add]
end
theorem qlh (a b:List Int) (ha:a.length≤1000000000000000000):Rn (fun k=>qay k a b) (decide (a=b)):=by
 refine Rn.up (f:=fun k=>qay k a b) ?_
 show Rn (fun k=>qgd k a b) _
 unfold qgd
 by_cases hl:a.length=b.length
 rotate_left
 ·refine Rn.t (by rw [bne_iff_ne];omega) (Rn.const (congrArg some (decide_eq_false fun e=>hl (by rw [e])).symm))
 refine Rn.f (by rw [bne_iff_ne];omega) ?_
 obtain⟨o,b1,b2⟩:=qdG a.length 0 (fun k q i=>qax k q a b i) () (fun x=>x=false) (fun j=>a[j]? =b[j]?) (by
   refine Rl.up (f:=fun k q=>qax k q a b a.length) ?_
   show Rl (fun k q=>qbq k (qax k q) _ _ _) _
   unfold qbq
   exact Rl.f (by simp) (Rl.pure _)) (by
   intro i hs hi hok o ho
   refine Rl.up (f:=fun k q=>qax k q a b i) ?_
   show Rl (fun k q=>qbq k (qax k q) _ _ _) _
   unfold qbq
   rw [qe (x:=(i:Int)+1) (by omega)]
   have ea:=List.getElem?_eq_getElem hi
   have eb:=hok
   rw [ea] at eb
   exact Rl.t (by first | omega | (simp only [decide_eq_true_eq,decide_eq_false_iff_not,Int.toNat_natCast,beq_iff_eq,bne_iff_ne,ne_eq,Int.not_lt,Int.not_le,ge_iff_le,gt_iff_lt,beq_eq_false_iff_ne,Nat.zero_add];omega)) (Rl.t (by first | omega | (simp only [decide_eq_true_eq,decide_eq_false_iff_not,Int.toNat_natCast,beq_iff_eq,bne_iff_ne,ne_eq,Int.not_lt,Int.not_le,ge_iff_le,gt_iff_lt,beq_eq_false_iff_ne,Nat.zero_add];omega)) (Rl.at (by rw [Int.toNat_natCast];exact ea) (Rl.t (by first | omega | (simp only [decide_eq_true_eq,decide_eq_false_iff_not,Int.toNat_natCast,beq_iff_eq,bne_iff_ne,ne_eq,Int.not_lt,Int.not_le,ge_iff_le,gt_iff_lt,beq_eq_false_iff_ne,Nat.zero_add];omega)) (Rl.at (by rw [Int.toNat_natCast];exact eb.symm) (Rl.f (by simp) ho)))))) (by
   intro i hs hi hok
   refine⟨false,rfl,Rl.up (f:=fun k q=>qax k q a b i) ?_⟩
   show Rl (fun k q=>qbq k (qax k q) _ _ _) _
   unfold qbq
   have ea:=List.getElem?_eq_getElem hi
   have eb:=List.getElem?_eq_getElem (show i<b.length by omega)
   exact Rl.t (by first | omega | (simp only [decide_eq_true_eq,decide_eq_false_iff_not,Int.toNat_natCast,beq_iff_eq,bne_iff_ne,ne_eq,Int.not_lt,Int.not_le,ge_iff_le,gt_iff_lt,beq_eq_false_iff_ne,Nat.zero_add];omega)) (Rl.t (by first | omega | (simp only [decide_eq_true_eq,decide_eq_false_iff_not,Int.toNat_natCast,beq_iff_eq,bne_iff_ne,ne_eq,Int.not_lt,Int.not_le,ge_iff_le,gt_iff_lt,beq_eq_false_iff_ne,Nat.zero_add];omega)) (Rl.at (by rw [Int.toNat_natCast];exact ea) (Rl.t (by first | omega | (simp only [decide_eq_true_eq,decide_eq_false_iff_not,Int.toNat_natCast,beq_iff_eq,bne_iff_ne,ne_eq,Int.not_lt,Int.not_le,ge_iff_le,gt_iff_lt,beq_eq_false_iff_ne,Nat.zero_add];omega)) (Rl.at (by rw [Int.toNat_natCast];exact eb) (Rl.t (by rw [bne_iff_ne];intro e;exact hok (by rw [ea,eb,e])) (Rl.pure _))))))) a.length 0 (by omega) (by omega)
 refine Rn.bind b1.diag ?_
 rcases b2 with ⟨b2,rfl⟩ | ⟨b2,x,rfl,rfl⟩
 ·rw [decide_eq_true (List.ext_getElem? fun j=>by
   rcases Nat.lt_or_ge j a.length with h | h
   ·exact b2 j (Nat.zero_le _) h
   ·rw [List.getElem?_eq_none h,List.getElem?_eq_none (by omega)])]
  exact Rn.pure _
 ·rw [decide_eq_false (fun e=>b2 fun j _ _=>by rw [e])]
  exact Rn.pure _
def qct (c mode:Int):Int:=if c≠0 then c else if mode=1∨mode=2 then 0 else 110
theorem qkg {c mode:Int} (h:c≠0):qct c mode=c:=if_pos h
theorem qiM {c mode:Int} (h:c=0) (m:mode=1∨mode=2):qct c mode=0:=by unfold qct;rw [if_neg (by omega),if_pos m]
theorem qi9 {c mode:Int} (h:c=0) (m:¬(mode=1∨mode=2)):qct c mode=110:=by unfold qct;rw [if_neg (by omega),if_neg m]
theorem qho {c mode:Int} (h:qct c mode=0):c=0∧(mode=1∨mode=2):=by
 by_cases hc:c=0
 ·by_cases m:mode=1∨mode=2
  ·exact⟨hc,m⟩
  ·rw [qi9 hc m] at h;omega
 ·rw [qkg hc] at h;exact absurd h hc
def qgG (f0:List ByteArray) (f1:List Dv) (c mode:Int):List Int:=if qct c mode=0 then flo (flR (if mode=2 then qg0 else bOp) f1) f0.length else []
def qgH (f1:List Dv) (c mode:Int):List Int:=if qct c mode=0 then lps mode f1 0 id else []
section
variable (f0 : List ByteArray) (f1 : List Dv) (f2 f3 f4 c : Int) (hc : Rn (fun k => qeH k f0 f1 f2 f3 f4) c) (hok : Chk f0 f1 c)
include hc
theorem qnI (mode:Int):Rn (fun k=>qeq k f0 f1 f2 f3 f4 mode) (qct c mode):=by
 refine Rn.up (f:=fun k=>qeq k f0 f1 f2 f3 f4 mode) ?_
 show Rn (fun k=>qgC k f0 f1 f2 f3 f4 mode) _
 unfold qgC
 refine Rn.bind hc ?_
 by_cases h:c=0
 ·refine Rn.f (by simp [h]) ?_
  by_cases m1:mode=1
  ·rw [qiM h (.inl m1)]
   exact Rn.f (by simp [m1]) (Rn.pure _)
  ·by_cases m2:mode=2
   ·rw [qiM h (.inr m2)]
    exact Rn.t (by simp [m1]) (Rn.f (by simp [m2]) (Rn.pure _))
   ·rw [qi9 h (by omega)]
    exact Rn.t (by simp [m1]) (Rn.t (by simp [m2]) (Rn.pure _))
 ·rw [qkg h]
  exact Rn.t (by simp [h]) (Rn.pure _)
include hok
theorem qkX (mode:Int):Rn (fun k=>qbb k f0 f1 f2 f3 f4 mode) ((qgG f0 f1 c mode).length,qct c mode,qgG f0 f1 c mode):=by
 by_cases h:qct c mode=0
 ·have hm:=qho h
  obtain⟨l,h1,h2⟩:=qrJ f0 f1 f2 f3 f4 c hc hok mode hm.2
  rw [if_pos hm.1] at h2
  have e:qgG f0 f1 c mode=l:=by unfold qgG;rw [if_pos h,h2]
  rw [e,h]
  rw [hm.1] at h1
  exact h1
 ·have e:qgG f0 f1 c mode= []:=if_neg h
  rw [e]
  refine Rn.up (f:=fun k=>qbb k f0 f1 f2 f3 f4 mode) ?_
  show Rn (fun k=>qe7 k f0 f1 f2 f3 f4 mode) _
  unfold qe7
  exact Rn.bind (qnI f0 f1 f2 f3 f4 c hc mode) (Rn.t (by simp [h]) (Rn.pure _))
theorem qlM (mode:Int):Rn (fun k=>qdk k f0 f1 f2 f3 f4 mode) ((qgH f1 c mode).length,qct c mode,qgH f1 c mode):=by
 by_cases h:qct c mode=0
 ·have hm:=qho h
  obtain⟨l,h1,h2⟩:=qti f0 f1 f2 f3 f4 c hc hok mode hm.2
  rw [if_pos hm.1] at h2
  have e:qgH f1 c mode=l:=by unfold qgH;rw [if_pos h,h2]
  rw [e,h]
  rw [hm.1] at h1
  exact h1
 ·have e:qgH f1 c mode= []:=if_neg h
  rw [e]
  refine Rn.up (f:=fun k=>qdk k f0 f1 f2 f3 f4 mode) ?_
  show Rn (fun k=>qfP k f0 f1 f2 f3 f4 mode) _
  unfold qfP
  exact Rn.bind (qnI f0 f1 f2 f3 f4 c hc mode) (Rn.t (by simp [h]) (Rn.pure _))
end
def blB (n:Nat) (m:Nat→Bool):List Bool:=(List.range n).map m
theorem qjB (n:Nat) (m:Nat→Bool):(blB n m).length=n:=by simp [blB]
theorem qgn {n:Nat} (m:Nat→Bool) {a:Nat} (h:a<n):(blB n m)[a]? =some (m a):=by simp [blB,h]
theorem qli {n:Nat} (m:Nat→Bool) {a:Nat} (h:a<n):(blB n m).set a true=blB n (fun v=>m v || v == a):=by
 apply List.ext_getElem?
 intro j
 rw [List.getElem?_set]
 by_cases e:a=j
 ·subst e
  rw [if_pos rfl,qjB,if_pos h,qgn _ h]
  simp
 ·rw [if_neg e]
  by_cases hj:j<n
  ·rw [qgn _ hj,qgn _ hj]
   have:(j == a)=false:=by rw [beq_eq_false_iff_ne];omega
   rw [this,Bool.or_false]
  ·rw [List.getElem?_eq_none (by rw [qjB];omega),List.getElem?_eq_none (by rw [qjB];omega)]
def tsI (ts:List (Nat×Nat)):List (Int×Int):=ts.map fun p=>((p.1:Int),(p.2:Int))
section
variable {n : Nat} (ts : List (Nat × Nat)) (hl : ts.length ≤ 1000000000000) (ht : ∀ p ∈ ts, p.1 < n ∧ p.2 < n)
include hl ht
theorem qAA (round:Int):∀(d i:Nat) (m:Nat→Bool),i+d=ts.length→
  Rl (fun k q=>qbC k q (n:Int) (tsI ts) n round (i:Int) (blB n m)) ((n:Int),tsI ts,n,round,blB n (qeS (ts.drop i) m)):=by
 have hlt:(tsI ts).length=ts.length:=by simp [tsI]
 intro d
 induction d with
 | zero=>
  intro i m e
  refine Rl.up (f:=fun k q=>qbC k q (n:Int) (tsI ts) n round (i:Int) (blB n m)) ?_
  show Rl (fun k q=>qcy k (qbC k q) _ _ _ _ _ _) _
  unfold qcy
  rw [List.drop_eq_nil_of_le (by omega)]
  exact Rl.f (by rw [decide_eq_true_eq,hlt];omega) (Rl.pure _)
 | succ d ih=>
  intro i m e
  have hi:i<ts.length:=by omega
  obtain⟨pa,pb⟩:=ht _ (List.getElem_mem hi)
  have hd:ts.drop i=ts[i]::ts.drop (i+1):=List.drop_eq_getElem_cons hi
  have hg:(tsI ts)[i]? =some ((ts[i].1:Int),(ts[i].2:Int)):=by simp [tsI,hi]
  generalize ts[i]=p at pa pb hd hg
  have:=ih (i+1) (stB m p) (by omega)
  rw [hd]
  change Rl _ ((n:Int),tsI ts,n,round,blB n (qeS (ts.drop (i+1)) (stB m p)))
  refine Rl.up (f:=fun k q=>qbC k q (n:Int) (tsI ts) n round (i:Int) (blB n m)) ?_
  show Rl (fun k q=>qcy k (qbC k q) _ _ _ _ _ _) _
  unfold qcy
  have w1:IntKind.i64.wrap ((i:Int)+1)=((i+1:Nat):Int):=by rw [qe (by omega)];omega
  have gA:∀m',(blB n m')[0+Int.toNat (p.1:Int)]? =some (m' p.1):=fun m'=>by rw [Nat.zero_add,Int.toNat_natCast];exact qgn m' pa
  have gB:∀m',(blB n m')[0+Int.toNat (p.2:Int)]? =some (m' p.2):=fun m'=>by rw [Nat.zero_add,Int.toNat_natCast];exact qgn m' pb
  have sA:∀m',(blB n m').set (0+Int.toNat (p.1:Int)) true=blB n (fun v=>m' v || v == p.1):=fun m'=>by rw [Nat.zero_add,Int.toNat_natCast];exact qli m' pa
  have sB:∀m',(blB n m').set (0+Int.toNat (p.2:Int)) true=blB n (fun v=>m' v || v == p.2):=fun m'=>by rw [Nat.zero_add,Int.toNat_natCast];exact qli m' pb
  have both:(m p.1 || m p.2)=true→blB n (fun v=>(m v || v == p.1) || v == p.2)=blB n (stB m p):=by
   intro h
   congr 1
   funext v
   simp only [stB,h,Bool.true_and,Bool.or_assoc]
  simp only [w1]
  refine Rl.t (by rw [decide_eq_true_eq,hlt];omega) (Rl.t (by omega) (Rl.at (by rw [Int.toNat_natCast];exact hg) (Rl.t (by omega) (Rl.at (by rw [Int.toNat_natCast];exact hg) (Rl.t (by first | omega | (simp only [];omega)) (Rl.at (gA m) ?_))))))
  simp only [sA,sB]
  by_cases c1:m p.1=false
  ·refine Rl.t c1 (Rl.t (by first | omega | (simp only [];omega)) (Rl.at (gB m) ?_))
   by_cases c2:m p.2=true
   ·refine Rl.t c2 (Rl.t (by first | omega | (simp only [];omega)) (Rl.at (gA m) (Rl.t (by first | omega | (simp only [];omega)) (Rl.at (gB _) ?_))))
    rw [both (by rw [c2,Bool.or_true])]
    exact this
   ·refine Rl.f c2 ?_
    have:blB n (stB m p)=blB n m:=by
     congr 1
     funext v
     have h2:m p.2=false:=by simpa using c2
     simp [stB,c1,h2]
    rw [←this]
    assumption
  ·refine Rl.f c1 (Rl.t (by first | omega | (simp only [];omega)) (Rl.at (gA m) (Rl.t (by first | omega | (simp only [];omega)) (Rl.at (gB _) ?_))))
   rw [both (by rw [show m p.1=true by simpa using c1,Bool.true_or])]
   exact this
variable (hn : n ≤ 1000000000)
include hn
theorem qAB:∀(d r:Nat) (m:Nat→Bool),r+d=n→
  Rl (fun k q=>qbD k q (n:Int) (tsI ts) n (r:Int) (blB n (qb6 ts r m))) (n,blB n (qb6 ts n m)):=by
 intro d
 induction d with
 | zero=>
  intro r m e
  obtain rfl:r=n:=by omega
  refine Rl.up (f:=fun k q=>qbD k q (r:Int) (tsI ts) r (r:Int) (blB r (qb6 ts r m))) ?_
  show Rl (fun k q=>qcz k (qbD k q) _ _ _ _ _) _
  unfold qcz
  exact Rl.f (by rw [decide_eq_true_eq];omega) (Rl.pure _)
 | succ d ih=>
  intro r m e
  have:=ih (r+1) m (by omega)
  refine Rl.up (f:=fun k q=>qbD k q (n:Int) (tsI ts) n (r:Int) (blB n (qb6 ts r m))) ?_
  show Rl (fun k q=>qcz k (qbD k q) _ _ _ _ _) _
  unfold qcz
  have w1:IntKind.i64.wrap ((r:Int)+1)=((r+1:Nat):Int):=by rw [qe (by omega)];omega
  have h2:=qAA ts hl ht (r:Int) ts.length 0 (qb6 ts r m) (by omega)
  refine Rl.t (by rw [decide_eq_true_eq];omega) (Rl.bind h2.diag ?_)
  simp only [w1,List.drop_zero]
  exact this
theorem qoV {at1:Nat} (ha:at1<n):
  Rn (fun k=>qb5 k (n:Int) (at1:Int) (tsI ts)) (n,blB n fun v=>decide (ts.foldl J id v=ts.foldl J id at1)):=by
 refine Rn.up (f:=fun k=>qb5 k (n:Int) (at1:Int) (tsI ts)) ?_
 show Rn (fun k=>qgc k _ _ _) _
 unfold qgc
 have e0:List.replicate n false=blB n (fun _=>false):=by
  apply List.ext_getElem?
  intro j
  by_cases hj:j<n
  ·rw [qgn _ hj];simp [hj]
  ·rw [List.getElem?_eq_none (by simp;omega),List.getElem?_eq_none (by rw [qjB];omega)]
 have e1:(List.replicate n false).set (0+Int.toNat (at1:Int)) true=blB n (qb6 ts 0 fun v=>v == at1):=by
  rw [Nat.zero_add,Int.toNat_natCast,e0,qli _ ha]
  congr 1
 have h0:=qAB ts hl ht hn n 0 (fun v=>v == at1) (by omega)
 have e2:blB n (qb6 ts n fun v=>v == at1)=blB n fun v=>decide (ts.foldl J id v=ts.foldl J id at1):=by
  congr 1
  funext v
  exact qre ts ht ha v
 rw [e2] at h0
 simp only [Int.toNat_natCast]
 simp only [Int.toNat_natCast] at e1
 refine Rn.t (by omega) (Rn.t (by omega) (Rn.at (x:=false) (by rw [Nat.zero_add];simp [ha]) ?_))
 rw [e1]
 exact Rn.bind h0.diag (Rn.pure _)
end
theorem qtk {x0 x2 y0 y2:Bool} {x1 x3 y1 y3:List Int} {x y:Rat} (hx:FrU x0 x1 x2 x3 x) (hy:FrU y0 y1 y2 y3 y) (l1:x1.length≤10000) (l3:x3.length≤10000) (m1:y1.length≤10000) (m3:y3.length≤10000):
  Rn (fun k=>qdy k x0 x1 x2 x3 y0 y1 y2 y3) (qj9 x y):=by
 obtain⟨s1,n1,a1,a2,a3⟩:=qgR x0 y2 x1 y3 hx.1 hy.2 (by omega) (by omega)
 obtain⟨s2,n2,b1,b2,b3⟩:=qgR y0 x2 y1 x3 hy.1 hx.2 (by omega) (by omega)
 exact Rn.up (f:=fun k=>qdy k x0 x1 x2 x3 y0 y1 y2 y3) (Rn.bind a1 (Rn.bind b1 (Rn.bind (qu8 s1 s2 n1 n2 a2 b2 (by omega) (by omega)) (Rn.pure _))))
section
variable (m0 : ByteArray) (m1 : Int) (m2 m3 : List (Int × Int)) (h0 : m0.size ≤ 1000000000000000000) (h2 : m2.length ≤ 1000000000000000000) (h3 : m3.length ≤ 1000000000000000000)
include h0 h2 h3
theorem qtl:∃o,Rl (fun k n=>qS k n 0 m0 m1 m2 m3) o∧
  (qgS m2∧o= .inr (m0,m1,m2,m3)∨¬qgS m2∧∃a:Bool×ByteArray×Int×List (Int×Int)×List (Int×Int),a.1=false∧o= .inl a):=by
 refine qdG m2.length 0 (fun k n i=>qS k n i m0 m1 m2 m3) (m0,m1,m2,m3) (fun a=>a.1=false) (fun j=>okN (m2.getD j (0,0)).1 (m2.getD j (0,0)).2=true) ?_ ?_ ?_ m2.length 0 (by omega) (by omega)
 ·refine Rl.up (f:=fun k n=>qS k n m2.length m0 m1 m2 m3) (Rl.of 0 fun k n _=> ?_)
  show qaV k (qS k n) _ _ _ _ _=_
  unfold qaV
  exact if_neg (by simp)
 ·intro i hs hi hok o ho
  refine Rl.up (f:=fun k n=>qS k n i m0 m1 m2 m3) ?_
  show Rl (fun k n=>qaV k (qS k n) _ _ _ _ _) _
  unfold qaV
  refine Rl.t (decide_eq_true (by omega)) (Rl.t (by omega) (Rl.at (getD_some (0,0) (by omega)) (Rl.bind (qdm _ _) (Rl.f (by rw [Int.toNat_natCast,hok];decide) ?_))))
  rw [qe (by omega)]
  exact ho
 ·intro i hs hi hok
  refine⟨(false,m0,m1,m2,m3),rfl,Rl.up (f:=fun k n=>qS k n i m0 m1 m2 m3) ?_⟩
  show Rl (fun k n=>qaV k (qS k n) _ _ _ _ _) _
  unfold qaV
  exact Rl.t (decide_eq_true (by omega)) (Rl.t (by omega) (Rl.at (getD_some (0,0) (by rw [Int.toNat_natCast];omega)) (Rl.bind (qdm _ _) (Rl.t (by rw [Int.toNat_natCast,Bool.eq_false_iff.2 hok];decide) (Rl.pure _)))))
theorem qtm:∃o,Rl (fun k n=>qU k n 0 m0 m1 m2 m3) o∧
  ((∀j,0≤j→j<m3.length→okN (m3.getD j (0,0)).1 (m3.getD j (0,0)).2=true∧(m1=100→1≤j→qed m3 (j-1)<qed m3 j))∧o= .inr (m0,m1,m2,m3)∨
   (¬ ∀j,0≤j→j<m3.length→okN (m3.getD j (0,0)).1 (m3.getD j (0,0)).2=true∧(m1=100→1≤j→qed m3 (j-1)<qed m3 j))∧∃a:Bool×ByteArray×Int×List (Int×Int)×List (Int×Int),a.1=false∧o= .inl a):=by
 have hh:∀i,1≤i→i<m3.length→okN (m3.getD (i-1) (0,0)).1 (m3.getD (i-1) (0,0)).2=true→okN (m3.getD i (0,0)).1 (m3.getD i (0,0)).2=true→
   ∃s p t r s' p' t' r',Rn (fun k=>qcb k (m3.getD (i-1) (0,0)).1 (m3.getD (i-1) (0,0)).2) (s,p,t,r)∧Rn (fun k=>qcb k (m3.getD i (0,0)).1 (m3.getD i (0,0)).2) (s',p',t',r')∧
    Rn (fun k=>qdy k s p t r s' p' t' r') (qj9 (qed m3 (i-1)) (qed m3 i)):=by
  intro i i1 i2 g1 g2
  obtain⟨s,p,t,r,a1,a2,a3,a4⟩:=qoM g1
  obtain⟨s',p',t',r',b1,b2,b3,b4⟩:=qoM g2
  exact⟨s,p,t,r,s',p',t',r',a1,b1,qtk a2 b2 (by omega) (by omega) (by omega) (by omega)⟩
 refine qzn m3.length 0 (fun k n i=>qU k n i m0 m1 m2 m3) (m0,m1,m2,m3) (fun a=>a.1=false) (fun j=>okN (m3.getD j (0,0)).1 (m3.getD j (0,0)).2=true∧(m1=100→1≤j→qed m3 (j-1)<qed m3 j)) ?_ ?_ ?_ m3.length 0 (by omega) (by omega) (fun j _ h=>absurd h (by omega))
 ·refine Rl.up (f:=fun k n=>qU k n m3.length m0 m1 m2 m3) (Rl.of 0 fun k n _=> ?_)
  show qaW k (qU k n) _ _ _ _ _=_
  unfold qaW
  exact if_neg (by simp)
 ·intro i hs hi hp hok o ho
  refine Rl.up (f:=fun k n=>qU k n i m0 m1 m2 m3) ?_
  show Rl (fun k n=>qaW k (qU k n) _ _ _ _ _) _
  unfold qaW
  have hg:=getD_some (0,0) hi
  refine Rl.t (decide_eq_true (by omega)) (Rl.t (by omega) ?_)
  rw [Int.toNat_natCast]
  refine Rl.at hg (Rl.bind (qdm _ _) (Rl.f (by rw [hok.1];decide) ?_))
  have e2:(IntKind.i64.wrap ((i:Int)+1))=(i:Int)+1:=qe (by omega)
  rw [e2]
  by_cases k1:m1=100
  ·refine Rl.t (by rw [beq_iff_eq];exact k1) ?_
   by_cases k2:1≤i
   ·have e1:(IntKind.i64.wrap ((i:Int)-1))=((i-1:Nat):Int):=by rw [qe (by omega)];omega
    rw [e1,Int.toNat_natCast]
    obtain⟨s,p,t,r,s',p',t',r',c1,c2,c3⟩:=hh i k2 hi (hp (i-1) (by omega) (by omega)).1 hok.1
    exact Rl.t (decide_eq_true (by omega)) (Rl.t (by omega) (Rl.at (getD_some (0,0) (by omega)) (Rl.bind c1 (Rl.t (by omega) (Rl.at hg (Rl.bind c2 (Rl.bind c3 (Rl.f (by rw [decide_eq_true_eq,qjA];exact fun h=>h (hok.2 k1 k2)) ho))))))))
   ·exact Rl.f (by rw [decide_eq_true_eq];omega) ho
  ·exact Rl.f (by rw [beq_iff_eq];exact k1) ho
 ·intro i hs hi hp hok
  refine⟨(false,m0,m1,m2,m3),rfl,Rl.up (f:=fun k n=>qU k n i m0 m1 m2 m3) ?_⟩
  show Rl (fun k n=>qaW k (qU k n) _ _ _ _ _) _
  unfold qaW
  have hg:=getD_some (0,0) hi
  refine Rl.t (decide_eq_true (by omega)) (Rl.t (by omega) ?_)
  rw [Int.toNat_natCast]
  refine Rl.at hg (Rl.bind (qdm _ _) ?_)
  by_cases k0:okN (m3.getD i (0,0)).1 (m3.getD i (0,0)).2=true
  rotate_left
  ·exact Rl.t (by rw [Bool.eq_false_iff.2 k0];decide) (Rl.pure _)
  refine Rl.f (by rw [k0];decide) ?_
  have k1:m1=100:=Classical.byContradiction fun k1=>hok ⟨k0,fun h=>absurd h k1⟩
  have k2:1≤i:=Classical.byContradiction fun k2=>hok ⟨k0,fun _ h=>absurd h k2⟩
  have k3:¬qed m3 (i-1)<qed m3 i:=fun h=>hok ⟨k0,fun _ _=>h⟩
  refine Rl.t (by rw [beq_iff_eq];exact k1) ?_
  have e1:(IntKind.i64.wrap ((i:Int)-1))=((i-1:Nat):Int):=by rw [qe (by omega)];omega
  rw [e1,Int.toNat_natCast]
  obtain⟨s,p,t,r,s',p',t',r',c1,c2,c3⟩:=hh i k2 hi (hp (i-1) (by omega) (by omega)).1 k0
  exact Rl.t (decide_eq_true (by omega)) (Rl.t (by omega) (Rl.at (getD_some (0,0) (by omega)) (Rl.bind c1 (Rl.t (by omega) (Rl.at hg (Rl.bind c2 (Rl.bind c3 (Rl.t (by rw [decide_eq_true_eq,qjA];exact k3) (Rl.pure _)))))))))
theorem qob:Rn (fun k=>qh k m0 m1 m2 m3) (okM m0 m1 m2 m3):=by
 refine Rn.up (f:=fun k=>qh k m0 m1 m2 m3) ?_
 show Rn (fun k=>qfw k m0 m1 m2 m3) _
 unfold qfw
 refine Rn.bind (qkd m0 h0) ?_
 by_cases hn:qdP m0=true
 rotate_left
 ·refine Rn.t (by simp [hn]) (Rn.const (congrArg some (qcf (by simp [hn]))))
 refine Rn.f (by simp [hn]) ?_
 obtain⟨o,a1,a2⟩:=qtl m0 m1 m2 m3 h0 h2 h3
 refine Rn.bind a1.diag ?_
 rcases a2 with ⟨g1,rfl⟩ | ⟨a2,⟨q1,q2,q3,q4,q5⟩,e,rfl⟩
 rotate_left
 ·exact Rn.const (congrArg some (qcf (by simp only at e;subst e;simp only [Bool.false_eq_true,false_iff];exact fun h=>a2 h.2.gs)))
 obtain⟨o,b1,b2⟩:=qtm m0 m1 m2 m3 h0 h2 h3
 refine Rn.bind b1.diag ?_
 rcases b2 with ⟨g2,rfl⟩ | ⟨a2,⟨q1,q2,q3,q4,q5⟩,e,rfl⟩
 rotate_left
 ·refine Rn.const (congrArg some (qcf ?_))
  simp only at e
  subst e
  simp only [Bool.false_eq_true,false_iff]
  rintro⟨_,h⟩
  refine a2 fun j _ j2=>⟨h.vs j (by omega) j2,fun k1 j1=> ?_⟩
  rcases h.kind with k | k
  ·omega
  ·exact k.2.2.2.2 j j1 j2
 have g3:qgS m3:=fun j j1 j2=>(g2 j j1 j2).1
 show Rn (fun k=>if(m1 == 115)=true then _ else if(m1 == 100)=true then _ else _) _
 by_cases k1:m1=115
 ·refine Rn.t (by rw [beq_iff_eq];exact k1) ?_
  by_cases c1:m2.length=2
  ·refine Rn.t (by rw [beq_iff_eq];exact congrArg _ c1) (Rn.const (congrArg some (qcf ?_)))
   rw [beq_iff_eq]
   constructor
   ·intro h;have h:(m3.length:Int)=1:=h;exact⟨hn,g1,g3,.inl ⟨k1,c1,by omega⟩⟩
   ·rintro⟨_,h⟩;show(m3.length:Int)=1;have:=h.kind;omega
  ·refine Rn.f (by rw [beq_iff_eq];show ¬(m2.length:Int)=2;omega) (Rn.const (congrArg some (qcf ?_)))
   simp only [Bool.false_eq_true,false_iff]
   rintro⟨_,h⟩;have:=h.kind;omega
 refine Rn.f (by rw [beq_iff_eq];exact k1) ?_
 by_cases k2:m1=100
 rotate_left
 ·refine Rn.f (by rw [beq_iff_eq];exact k2) (Rn.const (congrArg some (qcf ?_)))
  simp only [Bool.false_eq_true,false_iff]
  rintro⟨_,h⟩;have:=h.kind;omega
 refine Rn.t (by rw [beq_iff_eq];exact k2) ?_
 by_cases c1:m2.length<1
 ·refine Rn.f (by rw [decide_eq_true_eq];show ¬(m2.length:Int)≥1;omega) (Rn.const (congrArg some (qcf ?_)))
  simp only [Bool.false_eq_true,false_iff]
  rintro⟨_,h⟩;have:=h.kind;omega
 refine Rn.t (decide_eq_true (show(m2.length:Int)≥1 by omega)) ?_
 by_cases c2:m2.length>4
 ·refine Rn.f (by rw [decide_eq_true_eq];show ¬(m2.length:Int)≤4;omega) (Rn.const (congrArg some (qcf ?_)))
  simp only [Bool.false_eq_true,false_iff]
  rintro⟨_,h⟩;have:=h.kind;omega
 refine Rn.t (decide_eq_true (show(m2.length:Int)≤4 by omega)) (Rn.const (congrArg some (qcf ?_)))
 have e1:(IntKind.i64.wrap ((m3.length:Int)+1))=(m3.length:Int)+1:=qe (by omega)
 rw [beq_iff_eq]
 show IntKind.i64.wrap ((m3.length:Int)+1)=(m2.length:Int)↔_
 rw [e1]
 constructor
 ·intro h;exact⟨hn,g1,g3,.inr ⟨k2,by omega,by omega,by omega,fun j j1 j2=>(g2 j (by omega) j2).2 k2 j1⟩⟩
 ·rintro⟨_,h⟩;have:=h.kind;omega
omit h0 h2 h3 in
omit h0 h2 h3 in
omit h0 h2 h3 in
end
section
variable {m0 : ByteArray} {m1 : Int} {m2 m3 : List (Int × Int)} (hv : qgS m3)
include hv
end
theorem qkh (a b:List (Int×Int)) (ha:a.length≤1000000000000000000):Rn (fun k=>qcK k a b) (decide (a=b)):=by
 refine Rn.up (f:=fun k=>qcK k a b) ?_
 show Rn (fun k=>qf6 k a b) _
 unfold qf6
 by_cases hl:a.length=b.length
 rotate_left
 ·refine Rn.t (by rw [bne_iff_ne];omega) (Rn.const (congrArg some (decide_eq_false fun e=>hl (by rw [e])).symm))
 refine Rn.f (by rw [bne_iff_ne];omega) ?_
 obtain⟨o,b1,b2⟩:=qdG a.length 0 (fun k q i=>qau k q a b i) () (fun x=>x=false) (fun j=>a[j]? =b[j]?) (by
   refine Rl.up (f:=fun k q=>qau k q a b a.length) ?_
   show Rl (fun k q=>qbl k (qau k q) _ _ _) _
   unfold qbl
   exact Rl.f (by simp) (Rl.pure _)) (by
   intro i hs hi hok o ho
   refine Rl.up (f:=fun k q=>qau k q a b i) ?_
   show Rl (fun k q=>qbl k (qau k q) _ _ _) _
   unfold qbl
   rw [qe (x:=(i:Int)+1) (by omega)]
   have ea:=List.getElem?_eq_getElem hi
   have eb:=hok
   rw [ea] at eb
   exact Rl.t (by first | omega | (simp only [decide_eq_true_eq,decide_eq_false_iff_not,Int.toNat_natCast,beq_iff_eq,bne_iff_ne,ne_eq,Int.not_lt,Int.not_le,ge_iff_le,gt_iff_lt,beq_eq_false_iff_ne,Nat.zero_add];omega)) (Rl.t (by first | omega | (simp only [decide_eq_true_eq,decide_eq_false_iff_not,Int.toNat_natCast,beq_iff_eq,bne_iff_ne,ne_eq,Int.not_lt,Int.not_le,ge_iff_le,gt_iff_lt,beq_eq_false_iff_ne,Nat.zero_add];omega)) (Rl.at (by rw [Int.toNat_natCast];exact ea) (Rl.t (by first | omega | (simp only [decide_eq_true_eq,decide_eq_false_iff_not,Int.toNat_natCast,beq_iff_eq,bne_iff_ne,ne_eq,Int.not_lt,Int.not_le,ge_iff_le,gt_iff_lt,beq_eq_false_iff_ne,Nat.zero_add];omega)) (Rl.at (by rw [Int.toNat_natCast];exact eb.symm) (Rl.t (by simp) (Rl.t (by simp) ho))))))) (by
   intro i hs hi hok
   refine⟨false,rfl,Rl.up (f:=fun k q=>qau k q a b i) ?_⟩
   show Rl (fun k q=>qbl k (qau k q) _ _ _) _
   unfold qbl
   have ea:=List.getElem?_eq_getElem hi
   have eb:=List.getElem?_eq_getElem (show i<b.length by omega)
   refine Rl.t (by first | omega | (simp only [decide_eq_true_eq,decide_eq_false_iff_not,Int.toNat_natCast,beq_iff_eq,bne_iff_ne,ne_eq,Int.not_lt,Int.not_le,ge_iff_le,gt_iff_lt,beq_eq_false_iff_ne,Nat.zero_add];omega)) (Rl.t (by first | omega | (simp only [decide_eq_true_eq,decide_eq_false_iff_not,Int.toNat_natCast,beq_iff_eq,bne_iff_ne,ne_eq,Int.not_lt,Int.not_le,ge_iff_le,gt_iff_lt,beq_eq_false_iff_ne,Nat.zero_add];omega)) (Rl.at (by rw [Int.toNat_natCast];exact ea) (Rl.t (by first | omega | (simp only [decide_eq_true_eq,decide_eq_false_iff_not,Int.toNat_natCast,beq_iff_eq,bne_iff_ne,ne_eq,Int.not_lt,Int.not_le,ge_iff_le,gt_iff_lt,beq_eq_false_iff_ne,Nat.zero_add];omega)) (Rl.at (by rw [Int.toNat_natCast];exact eb) ?_))))
   by_cases c1:(a[i]).1=(b[i]'(by omega)).1
   ·refine Rl.t (by rw [beq_iff_eq];exact c1) (Rl.f (by rw [beq_iff_eq];intro c2;exact hok (by rw [ea,eb];exact congrArg some (Prod.ext c1 c2))) (Rl.pure _))
   ·exact Rl.f (by rw [beq_iff_eq];exact c1) (Rl.pure _)) a.length 0 (by omega) (by omega)
 refine Rn.bind b1.diag ?_
 rcases b2 with ⟨b2,rfl⟩ | ⟨b2,x,rfl,rfl⟩
 ·rw [decide_eq_true (List.ext_getElem? fun j=>by
   rcases Nat.lt_or_ge j a.length with h | h
   ·exact b2 j (Nat.zero_le _) h
   ·rw [List.getElem?_eq_none h,List.getElem?_eq_none (by omega)])]
  exact Rn.pure _
 ·rw [decide_eq_false (fun e=>b2 fun j _ _=>by rw [e])]
  exact Rn.pure _
theorem qnJ (a0:Int) (a1:List (Int×Int)) (a2:List Int) (c0:Int) (c1:List (Int×Int)) (c2:List Int) (h1:a1.length≤1000000000000000000) (h2:a2.length≤1000000000000000000):
  Rn (fun k=>qv k a0 a1 a2 c0 c1 c2) (decide (a0=c0∧a1=c1∧a2=c2)):=by
 refine Rn.up (f:=fun k=>qv k a0 a1 a2 c0 c1 c2) ?_
 show Rn (fun k=>qf7 k a0 a1 a2 c0 c1 c2) _
 unfold qf7
 by_cases h0:a0=c0
 rotate_left
 ·exact Rn.f (by simp [h0]) (Rn.const (congrArg some (decide_eq_false (fun h=>h0 h.1)).symm))
 refine Rn.t (by simp [h0]) ?_
 by_cases hl:a2.length=c2.length
 rotate_left
 ·exact Rn.t (by rw [bne_iff_ne];omega) (Rn.const (congrArg some (decide_eq_false (fun h=>hl (by rw [h.2.2]))).symm))
 refine Rn.f (by rw [bne_iff_ne];omega) ?_
 obtain⟨o,b1,b2⟩:=qdG a2.length 0 (fun k q i=>qav k q i a0 a1 a2 c0 c1 c2) (a0,a1,a2,c0,c1,c2) (fun x=>x.1=false) (fun j=>a2[j]? =c2[j]?) (by
   refine Rl.up (f:=fun k q=>qav k q a2.length a0 a1 a2 c0 c1 c2) ?_
   show Rl (fun k q=>qbm k (qav k q) _ _ _ _ _ _ _) _
   unfold qbm
   exact Rl.f (by simp) (Rl.pure _)) (by
   intro i hs hi hok o ho
   refine Rl.up (f:=fun k q=>qav k q i a0 a1 a2 c0 c1 c2) ?_
   show Rl (fun k q=>qbm k (qav k q) _ _ _ _ _ _ _) _
   unfold qbm
   rw [qe (x:=(i:Int)+1) (by omega)]
   have ea:=List.getElem?_eq_getElem hi
   have eb:=hok
   rw [ea] at eb
   exact Rl.t (by first | omega | (simp only [decide_eq_true_eq,decide_eq_false_iff_not,Int.toNat_natCast,beq_iff_eq,bne_iff_ne,ne_eq,Int.not_lt,Int.not_le,ge_iff_le,gt_iff_lt,beq_eq_false_iff_ne,Nat.zero_add];omega)) (Rl.t (by first | omega | (simp only [decide_eq_true_eq,decide_eq_false_iff_not,Int.toNat_natCast,beq_iff_eq,bne_iff_ne,ne_eq,Int.not_lt,Int.not_le,ge_iff_le,gt_iff_lt,beq_eq_false_iff_ne,Nat.zero_add];omega)) (Rl.at (by rw [Int.toNat_natCast];exact ea) (Rl.t (by first | omega | (simp only [decide_eq_true_eq,decide_eq_false_iff_not,Int.toNat_natCast,beq_iff_eq,bne_iff_ne,ne_eq,Int.not_lt,Int.not_le,ge_iff_le,gt_iff_lt,beq_eq_false_iff_ne,Nat.zero_add];omega)) (Rl.at (by rw [Int.toNat_natCast];exact eb.symm) (Rl.f (by simp) ho)))))) (by
   intro i hs hi hok
   refine⟨(false,a0,a1,a2,c0,c1,c2),rfl,Rl.up (f:=fun k q=>qav k q i a0 a1 a2 c0 c1 c2) ?_⟩
   show Rl (fun k q=>qbm k (qav k q) _ _ _ _ _ _ _) _
   unfold qbm
   have ea:=List.getElem?_eq_getElem hi
   have eb:=List.getElem?_eq_getElem (show i<c2.length by omega)
   exact Rl.t (by first | omega | (simp only [decide_eq_true_eq,decide_eq_false_iff_not,Int.toNat_natCast,beq_iff_eq,bne_iff_ne,ne_eq,Int.not_lt,Int.not_le,ge_iff_le,gt_iff_lt,beq_eq_false_iff_ne,Nat.zero_add];omega)) (Rl.t (by first | omega | (simp only [decide_eq_true_eq,decide_eq_false_iff_not,Int.toNat_natCast,beq_iff_eq,bne_iff_ne,ne_eq,Int.not_lt,Int.not_le,ge_iff_le,gt_iff_lt,beq_eq_false_iff_ne,Nat.zero_add];omega)) (Rl.at (by rw [Int.toNat_natCast];exact ea) (Rl.t (by first | omega | (simp only [decide_eq_true_eq,decide_eq_false_iff_not,Int.toNat_natCast,beq_iff_eq,bne_iff_ne,ne_eq,Int.not_lt,Int.not_le,ge_iff_le,gt_iff_lt,beq_eq_false_iff_ne,Nat.zero_add];omega)) (Rl.at (by rw [Int.toNat_natCast];exact eb) (Rl.t (by rw [bne_iff_ne];intro e;exact hok (by rw [ea,eb,e])) (Rl.pure _))))))) a2.length 0 (by omega) (by omega)
 refine Rn.bind b1.diag ?_
 rcases b2 with ⟨b2,rfl⟩ | ⟨b2,x,hx,rfl⟩
 ·have e2:a2=c2:=List.ext_getElem? fun j=>by
   rcases Nat.lt_or_ge j a2.length with h | h
   ·exact b2 j (Nat.zero_le _) h
   ·rw [List.getElem?_eq_none h,List.getElem?_eq_none (by omega)]
  have e:decide (a0=c0∧a1=c1∧a2=c2)=decide (a1=c1):=decide_eq_decide.2 ⟨fun h=>h.2.1,fun h=>⟨h0,h,e2⟩⟩
  rw [e]
  exact Rn.bind (qkh a1 c1 h1) (Rn.pure _)
 ·rw [decide_eq_false (fun e=>b2 fun j _ _=>by rw [e.2.2])]
  show Rn (fun k=>some x.1) false
  rw [hx]
  exact Rn.pure _
theorem qnK (a0:ByteArray) (a1:Int) (a2 a3:List (Int×Int)) (c0:ByteArray) (c1:Int) (c2 c3:List (Int×Int)) (h1:a2.length≤1000000000000000000) (h2:a3.length≤1000000000000000000):
  Rn (fun k=>qj k a0 a1 a2 a3 c0 c1 c2 c3) (decide (dl a0=dl c0∧a1=c1∧a2=c2∧a3=c3)):=by
 refine Rn.up (f:=fun k=>qj k a0 a1 a2 a3 c0 c1 c2 c3) ?_
 show Rn (fun k=>qf8 k a0 a1 a2 a3 c0 c1 c2 c3) _
 unfold qf8
 by_cases e0:dl a0=dl c0
 rotate_left
 ·exact Rn.f (by rw [beq_iff_eq];exact e0) (Rn.const (congrArg some (decide_eq_false (fun h=>e0 h.1)).symm))
 refine Rn.t (by rw [beq_iff_eq];exact e0) ?_
 by_cases e1:a1=c1
 rotate_left
 ·exact Rn.f (by rw [beq_iff_eq];exact e1) (Rn.const (congrArg some (decide_eq_false (fun h=>e1 h.2.1)).symm))
 refine Rn.t (by rw [beq_iff_eq];exact e1) (Rn.bind (qkh a2 c2 h1) ?_)
 by_cases e2:a2=c2
 rotate_left
 ·exact Rn.f (by rw [decide_eq_true_eq];exact e2) (Rn.const (congrArg some (decide_eq_false (fun h=>e2 h.2.2.1)).symm))
 refine Rn.t (decide_eq_true e2) (Rn.bind (qkh a3 c3 h2) (Rn.const (congrArg some (decide_eq_decide.2 ?_))))
 exact⟨fun h=>⟨e0,e1,e2,h⟩,fun h=>h.2.2.2⟩
theorem qtn (d6:Int) (d7:List (Int×Int)) (d8:List Int):decide (d6=0∧d7= []∧d8= [])=noW d6 d7 d8:=by
 unfold noW;exact decide_eq_decide.2 (by rw [List.length_eq_zero_iff,List.length_eq_zero_iff])
theorem qto (d9:ByteArray) (d10:Int) (d11 d12:List (Int×Int)):decide (dl d9=dl (ByteArray.mk (List.toArray []))∧d10=0∧d11= []∧d12= [])=noM d9 d10 d11 d12:=by
 unfold noM;exact decide_eq_decide.2 (by rw [List.length_eq_zero_iff,List.length_eq_zero_iff])
section
variable (f0 : List ByteArray) (f1 : List Dv) (f2 f3 f4 : Int) (d0 : Int) (d1 : ByteArray) (d2 : List Int) (d3 d4 d5 d6 : Int) (d7 : List (Int × Int)) (d8 : List Int) (d9 : ByteArray) (d10 : Int) (d11 d12 : List (Int × Int))
variable (h1 : d1.size ≤ 1000000000000) (h2 : d2.length ≤ 1000000000000000000) (h7 : d7.length ≤ 1000000000000000000) (h8 : d8.length ≤ 1000000000000000000) (h9 : d9.size ≤ 1000000000000000000) (h11 : d11.length ≤ 1000000000000000000) (h12 : d12.length ≤ 1000000000000000000)
include h2
theorem qbJ (nodes:Int) (r v s m:Bool) (hn:(d2.length:Int)=nodes):Rn (fun k=>qq k k nodes r v s m 0 f0 f1 f2 f3 f4 d0 d1 d2 d3 d4 d5 d6 d7 d8 d9 d10 d11 d12)
  (if qee f0.length d2=true then .inr (r,v,s,m,f0,f1,f2,f3,f4,d0,d1,d2,d3,d4,d5,d6,d7,d8,d9,d10,d11,d12)else .inl (false,f0,f1,f2,f3,f4,d0,d1,d2,d3,d4,d5,d6,d7,d8,d9,d10,d11,d12)):=by
 subst hn
 obtain⟨o,b1,b2⟩:=qdG d2.length 0 (fun k q i=>qq k q d2.length r v s m i f0 f1 f2 f3 f4 d0 d1 d2 d3 d4 d5 d6 d7 d8 d9 d10 d11 d12) (r,v,s,m,f0,f1,f2,f3,f4,d0,d1,d2,d3,d4,d5,d6,d7,d8,d9,d10,d11,d12)
  (fun a=>a=(false,f0,f1,f2,f3,f4,d0,d1,d2,d3,d4,d5,d6,d7,d8,d9,d10,d11,d12)) (fun j=>0≤d2.getD j 0∧d2.getD j 0<f0.length) (by
   refine Rl.up (f:=fun k q=>qq k q d2.length r v s m d2.length f0 f1 f2 f3 f4 d0 d1 d2 d3 d4 d5 d6 d7 d8 d9 d10 d11 d12) ?_
   show Rl (fun k q=>qaX k (qq k q) _ _ _ _ _ _ _ _ _ _ _ _ _ _ _ _ _ _ _ _ _ _ _ _) _
   unfold qaX
   exact Rl.f (by simp) (Rl.pure _)) (by
   intro i hs hi hok o ho
   refine Rl.up (f:=fun k q=>qq k q d2.length r v s m i f0 f1 f2 f3 f4 d0 d1 d2 d3 d4 d5 d6 d7 d8 d9 d10 d11 d12) ?_
   show Rl (fun k q=>qaX k (qq k q) _ _ _ _ _ _ _ _ _ _ _ _ _ _ _ _ _ _ _ _ _ _ _ _) _
   unfold qaX
   rw [qe (x:=(i:Int)+1) (by omega)]
   exact Rl.t (by first | omega | (simp only [decide_eq_true_eq,decide_eq_false_iff_not,Int.toNat_natCast,beq_iff_eq,bne_iff_ne,ne_eq,Int.not_lt,Int.not_le,ge_iff_le,gt_iff_lt,beq_eq_false_iff_ne,Nat.zero_add];omega)) (Rl.t (by first | omega | (simp only [decide_eq_true_eq,decide_eq_false_iff_not,Int.toNat_natCast,beq_iff_eq,bne_iff_ne,ne_eq,Int.not_lt,Int.not_le,ge_iff_le,gt_iff_lt,beq_eq_false_iff_ne,Nat.zero_add];omega)) (Rl.at (by rw [Int.toNat_natCast];exact getD_some 0 hi) (Rl.t (decide_eq_false (by omega)) (Rl.t (by first | omega | (simp only [decide_eq_true_eq,decide_eq_false_iff_not,Int.toNat_natCast,beq_iff_eq,bne_iff_ne,ne_eq,Int.not_lt,Int.not_le,ge_iff_le,gt_iff_lt,beq_eq_false_iff_ne,Nat.zero_add];omega)) (Rl.at (by rw [Int.toNat_natCast];exact getD_some 0 hi) (Rl.f (by rw [decide_eq_true_eq];omega) ho))))))) (by
   intro i hs hi hok
   refine⟨_,rfl,Rl.up (f:=fun k q=>qq k q d2.length r v s m i f0 f1 f2 f3 f4 d0 d1 d2 d3 d4 d5 d6 d7 d8 d9 d10 d11 d12) ?_⟩
   show Rl (fun k q=>qaX k (qq k q) _ _ _ _ _ _ _ _ _ _ _ _ _ _ _ _ _ _ _ _ _ _ _ _) _
   unfold qaX
   refine Rl.t (by first | omega | (simp only [decide_eq_true_eq,decide_eq_false_iff_not,Int.toNat_natCast,beq_iff_eq,bne_iff_ne,ne_eq,Int.not_lt,Int.not_le,ge_iff_le,gt_iff_lt,beq_eq_false_iff_ne,Nat.zero_add];omega)) (Rl.t (by first | omega | (simp only [decide_eq_true_eq,decide_eq_false_iff_not,Int.toNat_natCast,beq_iff_eq,bne_iff_ne,ne_eq,Int.not_lt,Int.not_le,ge_iff_le,gt_iff_lt,beq_eq_false_iff_ne,Nat.zero_add];omega)) (Rl.at (by rw [Int.toNat_natCast];exact getD_some 0 hi) ?_))
   by_cases c:d2.getD i 0<0
   ·exact Rl.f (by simp;exact c) (Rl.pure _)
   ·exact Rl.t (decide_eq_false c) (Rl.t (by first | omega | (simp only [decide_eq_true_eq,decide_eq_false_iff_not,Int.toNat_natCast,beq_iff_eq,bne_iff_ne,ne_eq,Int.not_lt,Int.not_le,ge_iff_le,gt_iff_lt,beq_eq_false_iff_ne,Nat.zero_add];omega)) (Rl.at (by rw [Int.toNat_natCast];exact getD_some 0 hi) (Rl.t (by rw [decide_eq_true_eq];omega) (Rl.pure _))))) d2.length 0 (by omega) (by omega)
 have hall:qee f0.length d2=true↔∀j,0≤j→j<d2.length→0≤d2.getD j 0∧d2.getD j 0<f0.length:=by
  unfold qee
  rw [qgf]
  simp only [decide_eq_true_eq]
 rcases b2 with ⟨b2,rfl⟩ | ⟨b2,a,rfl,rfl⟩
 ·rw [if_pos (hall.2 b2)];exact b1.diag
 ·rw [if_neg (fun h=>b2 (hall.1 h))];exact b1.diag
end
section
variable (f0 : List ByteArray) (f1 : List Dv) (f2 f3 f4 : Int) (d0 : Int) (d1 : ByteArray) (d2 : List Int) (d3 d4 d5 d6 : Int) (d7 : List (Int × Int)) (d8 : List Int) (d9 : ByteArray) (d10 : Int) (d11 d12 : List (Int × Int))
variable (h1 : d1.size ≤ 1000000000000) (h2 : d2.length ≤ 1000000000000000000) (h7 : d7.length ≤ 1000000000000000000) (h8 : d8.length ≤ 1000000000000000000) (h9 : d9.size ≤ 1000000000000000000) (h11 : d11.length ≤ 1000000000000000000) (h12 : d12.length ≤ 1000000000000000000)
include h1 h2 h7 h8 h9 h11 h12
theorem qrQ:Rn (fun k=>qdc k f0 f1 f2 f3 f4 d0 d1 d2 d3 d4 d5 d6 d7 d8 d9 d10 d11 d12) (okR f0.length f1 d0 d1 d2 d3 d4 d5 d6 d7 d8 d9 d10 d11 d12):=by
 refine Rn.up (f:=fun k=>qdc k f0 f1 f2 f3 f4 d0 d1 d2 d3 d4 d5 d6 d7 d8 d9 d10 d11 d12) ?_
 show Rn (fun k=>qfx k f0 f1 f2 f3 f4 d0 d1 d2 d3 d4 d5 d6 d7 d8 d9 d10 d11 d12) _
 have g1:=qkf d1 (by omega)
 have g3:=qp0 d6 d7 d8 h7 h8
 have g4:=qnK d9 d10 d11 d12 (ByteArray.mk (List.toArray [])) 0 [] [] h11 h12
 rw [qto] at g4
 have g5:=qnJ d6 d7 d8 0 [] [] h7 h8
 rw [qtn] at g5
 have g6:=qob d9 d10 d11 d12 h9 h11 h12
 have g7:=qdm d4 d5
 unfold qfx
 by_cases k114:d0=114
 ·refine Rn.t (by simp [k114]) ?_
  by_cases z4:d4=0
  ·refine Rn.t (by simp [z4]) (Rn.const (congrArg some ?_))
   simp [okR,k114,z4]
  refine Rn.f (by simp [z4]) ?_
  by_cases c1:(d2.length:Int)=2
  rotate_left
  ·refine Rn.f (by simp [c1]) (Rn.const (congrArg some ?_))
   simp [okR,k114,qQ,c1]
  refine Rn.t (by simp [c1]) (Rn.bind g1 ?_)
  have g2:=qbJ f0 f1 f2 f3 f4 d0 d1 d2 d3 d4 d5 d6 d7 d8 d9 d10 d11 d12 h2 2 false true false false c1
  cases hl:qb0 d1
  ·refine Rn.t (by rfl) (Rn.const (congrArg some ?_))
   simp [okR,hl]
  refine Rn.f (by decide) (Rn.bind g2 ?_)
  cases hr:qee f0.length d2
  ·refine Rn.const (congrArg some ?_)
   simp [okR,hr]
  rw [if_pos (show true=true from rfl)]
  have hok:okR f0.length f1 d0 d1 d2 d3 d4 d5 d6 d7 d8 d9 d10 d11 d12=(decide (d3=0) && okN d4 d5 && noW d6 d7 d8 && noM d9 d10 d11 d12):=by
   simp [okR,k114,qQ,c1,hl,hr,z4]
  rw [hok]
  show Rn (fun k=>qf k _) _
  unfold qf
  dsimp only
  refine Rn.f (fun h=>by cases h) ?_
  by_cases z3:d3=0
  rotate_left
  ·refine Rn.t (by simp [z3]) (Rn.const (congrArg some ?_))
   simp [z3]
  refine Rn.f (by simp [z3]) (Rn.t rfl (Rn.bind g7 ?_))
  cases hn:okN d4 d5
  ·refine Rn.f (by decide) (Rn.const (congrArg some ?_))
   simp
  refine Rn.t (by decide) (Rn.f (fun h=>by cases h) (Rn.f (fun h=>by cases h) (Rn.t rfl (Rn.bind g5 ?_))))
  cases hw:noW d6 d7 d8
  ·refine Rn.t (by decide) (Rn.const (congrArg some ?_))
   simp
  refine Rn.f (by decide) (Rn.f (fun h=>by cases h) (Rn.bind g4 (Rn.const (congrArg some ?_))))
  simp [z3]
 refine Rn.f (by simp [k114]) ?_
 by_cases k99:d0=99
 ·refine Rn.t (by simp [k99]) ?_
  by_cases z4:d4=0
  ·refine Rn.t (by simp [z4]) (Rn.const (congrArg some ?_))
   simp [okR,k99,z4]
  refine Rn.f (by simp [z4]) ?_
  by_cases c1:(d2.length:Int)=2
  rotate_left
  ·refine Rn.f (by simp [c1]) (Rn.const (congrArg some ?_))
   simp [okR,k99,qQ,c1]
  refine Rn.t (by simp [c1]) (Rn.bind g1 ?_)
  have g2:=qbJ f0 f1 f2 f3 f4 d0 d1 d2 d3 d4 d5 d6 d7 d8 d9 d10 d11 d12 h2 2 false true false false c1
  cases hl:qb0 d1
  ·refine Rn.t (by rfl) (Rn.const (congrArg some ?_))
   simp [okR,hl]
  refine Rn.f (by decide) (Rn.bind g2 ?_)
  cases hr:qee f0.length d2
  ·refine Rn.const (congrArg some ?_)
   simp [okR,hr]
  rw [if_pos (show true=true from rfl)]
  have hok:okR f0.length f1 d0 d1 d2 d3 d4 d5 d6 d7 d8 d9 d10 d11 d12=(decide (d3=0) && okN d4 d5 && noW d6 d7 d8 && noM d9 d10 d11 d12):=by
   simp [okR,k99,qQ,c1,hl,hr,z4]
  rw [hok]
  show Rn (fun k=>qf k _) _
  unfold qf
  dsimp only
  refine Rn.f (fun h=>by cases h) ?_
  by_cases z3:d3=0
  rotate_left
  ·refine Rn.t (by simp [z3]) (Rn.const (congrArg some ?_))
   simp [z3]
  refine Rn.f (by simp [z3]) (Rn.t rfl (Rn.bind g7 ?_))
  cases hn:okN d4 d5
  ·refine Rn.f (by decide) (Rn.const (congrArg some ?_))
   simp
  refine Rn.t (by decide) (Rn.f (fun h=>by cases h) (Rn.f (fun h=>by cases h) (Rn.t rfl (Rn.bind g5 ?_))))
  cases hw:noW d6 d7 d8
  ·refine Rn.t (by decide) (Rn.const (congrArg some ?_))
   simp
  refine Rn.f (by decide) (Rn.f (fun h=>by cases h) (Rn.bind g4 (Rn.const (congrArg some ?_))))
  simp [z3]
 refine Rn.f (by simp [k99]) ?_
 by_cases k108:d0=108
 ·refine Rn.t (by simp [k108]) ?_
  by_cases z4:d4=0
  ·refine Rn.t (by simp [z4]) (Rn.const (congrArg some ?_))
   simp [okR,k108,z4]
  refine Rn.f (by simp [z4]) ?_
  by_cases c1:(d2.length:Int)=2
  rotate_left
  ·refine Rn.f (by simp [c1]) (Rn.const (congrArg some ?_))
   simp [okR,k108,qQ,c1]
  refine Rn.t (by simp [c1]) (Rn.bind g1 ?_)
  have g2:=qbJ f0 f1 f2 f3 f4 d0 d1 d2 d3 d4 d5 d6 d7 d8 d9 d10 d11 d12 h2 2 false true false false c1
  cases hl:qb0 d1
  ·refine Rn.t (by rfl) (Rn.const (congrArg some ?_))
   simp [okR,hl]
  refine Rn.f (by decide) (Rn.bind g2 ?_)
  cases hr:qee f0.length d2
  ·refine Rn.const (congrArg some ?_)
   simp [okR,hr]
  rw [if_pos (show true=true from rfl)]
  have hok:okR f0.length f1 d0 d1 d2 d3 d4 d5 d6 d7 d8 d9 d10 d11 d12=(decide (d3=0) && okN d4 d5 && noW d6 d7 d8 && noM d9 d10 d11 d12):=by
   simp [okR,k108,qQ,c1,hl,hr,z4]
  rw [hok]
  show Rn (fun k=>qf k _) _
  unfold qf
  dsimp only
  refine Rn.f (fun h=>by cases h) ?_
  by_cases z3:d3=0
  rotate_left
  ·refine Rn.t (by simp [z3]) (Rn.const (congrArg some ?_))
   simp [z3]
  refine Rn.f (by simp [z3]) (Rn.t rfl (Rn.bind g7 ?_))
  cases hn:okN d4 d5
  ·refine Rn.f (by decide) (Rn.const (congrArg some ?_))
   simp
  refine Rn.t (by decide) (Rn.f (fun h=>by cases h) (Rn.f (fun h=>by cases h) (Rn.t rfl (Rn.bind g5 ?_))))
  cases hw:noW d6 d7 d8
  ·refine Rn.t (by decide) (Rn.const (congrArg some ?_))
   simp
  refine Rn.f (by decide) (Rn.f (fun h=>by cases h) (Rn.bind g4 (Rn.const (congrArg some ?_))))
  simp [z3]
 refine Rn.f (by simp [k108]) ?_
 by_cases k118:d0=118
 ·refine Rn.t (by simp [k118]) ?_
  by_cases c1:(d2.length:Int)=2
  rotate_left
  ·refine Rn.f (by simp [c1]) (Rn.const (congrArg some ?_))
   simp [okR,k118,qQ,c1]
  refine Rn.t (by simp [c1]) (Rn.bind g1 ?_)
  have g2:=qbJ f0 f1 f2 f3 f4 d0 d1 d2 d3 d4 d5 d6 d7 d8 d9 d10 d11 d12 h2 2 false false true false c1
  cases hl:qb0 d1
  ·refine Rn.t (by rfl) (Rn.const (congrArg some ?_))
   simp [okR,hl]
  refine Rn.f (by decide) (Rn.bind g2 ?_)
  cases hr:qee f0.length d2
  ·refine Rn.const (congrArg some ?_)
   simp [okR,hr]
  rw [if_pos (show true=true from rfl)]
  have hok:okR f0.length f1 d0 d1 d2 d3 d4 d5 d6 d7 d8 d9 d10 d11 d12=(okW d6 d7 d8 && decide (d4=0) && decide (d5=0) && noM d9 d10 d11 d12 && decide (d3=0)):=by
   simp [okR,k118,qQ,c1,hl,hr]
  rw [hok]
  show Rn (fun k=>qf k _) _
  unfold qf
  dsimp only
  refine Rn.f (fun h=>by cases h) ?_
  by_cases z3:d3=0
  rotate_left
  ·refine Rn.t (by simp [z3]) (Rn.const (congrArg some ?_))
   simp [z3]
  refine Rn.f (by simp [z3]) (Rn.f (fun h=>by cases h) (Rn.t rfl ?_))
  by_cases z4:d4=0
  rotate_left
  ·refine Rn.f (by simp [z4]) (Rn.const (congrArg some ?_))
   simp [z4]
  refine Rn.t (by simp [z4]) ?_
  by_cases z5:d5=0
  rotate_left
  ·refine Rn.f (by simp [z5]) (Rn.const (congrArg some ?_))
   simp [z5]
  refine Rn.t (by simp [z5]) (Rn.t rfl (Rn.bind g3 ?_))
  cases hw:okW d6 d7 d8
  ·refine Rn.f (by decide) (Rn.const (congrArg some ?_))
   simp
  refine Rn.t (by decide) (Rn.f (fun h=>by cases h) (Rn.f (fun h=>by cases h) (Rn.bind g4 (Rn.const (congrArg some ?_)))))
  simp [z3,z4,z5]
 refine Rn.f (by simp [k118]) ?_
 by_cases k105:d0=105
 ·refine Rn.t (by simp [k105]) ?_
  by_cases c1:(d2.length:Int)=2
  rotate_left
  ·refine Rn.f (by simp [c1]) (Rn.const (congrArg some ?_))
   simp [okR,k105,qQ,c1]
  refine Rn.t (by simp [c1]) (Rn.bind g1 ?_)
  have g2:=qbJ f0 f1 f2 f3 f4 d0 d1 d2 d3 d4 d5 d6 d7 d8 d9 d10 d11 d12 h2 2 false false true false c1
  cases hl:qb0 d1
  ·refine Rn.t (by rfl) (Rn.const (congrArg some ?_))
   simp [okR,hl]
  refine Rn.f (by decide) (Rn.bind g2 ?_)
  cases hr:qee f0.length d2
  ·refine Rn.const (congrArg some ?_)
   simp [okR,hr]
  rw [if_pos (show true=true from rfl)]
  have hok:okR f0.length f1 d0 d1 d2 d3 d4 d5 d6 d7 d8 d9 d10 d11 d12=(okW d6 d7 d8 && decide (d4=0) && decide (d5=0) && noM d9 d10 d11 d12 && decide (d3=0)):=by
   simp [okR,k105,qQ,c1,hl,hr]
  rw [hok]
  show Rn (fun k=>qf k _) _
  unfold qf
  dsimp only
  refine Rn.f (fun h=>by cases h) ?_
  by_cases z3:d3=0
  rotate_left
  ·refine Rn.t (by simp [z3]) (Rn.const (congrArg some ?_))
   simp [z3]
  refine Rn.f (by simp [z3]) (Rn.f (fun h=>by cases h) (Rn.t rfl ?_))
  by_cases z4:d4=0
  rotate_left
  ·refine Rn.f (by simp [z4]) (Rn.const (congrArg some ?_))
   simp [z4]
  refine Rn.t (by simp [z4]) ?_
  by_cases z5:d5=0
  rotate_left
  ·refine Rn.f (by simp [z5]) (Rn.const (congrArg some ?_))
   simp [z5]
  refine Rn.t (by simp [z5]) (Rn.t rfl (Rn.bind g3 ?_))
  cases hw:okW d6 d7 d8
  ·refine Rn.f (by decide) (Rn.const (congrArg some ?_))
   simp
  refine Rn.t (by decide) (Rn.f (fun h=>by cases h) (Rn.f (fun h=>by cases h) (Rn.bind g4 (Rn.const (congrArg some ?_)))))
  simp [z3,z4,z5]
 refine Rn.f (by simp [k105]) ?_
 by_cases k101:d0=101
 ·refine Rn.t (by simp [k101]) ?_
  by_cases c1:(d2.length:Int)=4
  rotate_left
  ·refine Rn.f (by simp [c1]) (Rn.const (congrArg some ?_))
   simp [okR,k101,qQ,c1]
  refine Rn.t (by simp [c1]) (Rn.bind g1 ?_)
  have g2:=qbJ f0 f1 f2 f3 f4 d0 d1 d2 d3 d4 d5 d6 d7 d8 d9 d10 d11 d12 h2 4 false true false false c1
  cases hl:qb0 d1
  ·refine Rn.t (by rfl) (Rn.const (congrArg some ?_))
   simp [okR,hl]
  refine Rn.f (by decide) (Rn.bind g2 ?_)
  cases hr:qee f0.length d2
  ·refine Rn.const (congrArg some ?_)
   simp [okR,hr]
  rw [if_pos (show true=true from rfl)]
  have hok:okR f0.length f1 d0 d1 d2 d3 d4 d5 d6 d7 d8 d9 d10 d11 d12=(decide (d3=0) && okN d4 d5 && noW d6 d7 d8 && noM d9 d10 d11 d12):=by
   simp [okR,k101,qQ,c1,hl,hr]
  rw [hok]
  show Rn (fun k=>qf k _) _
  unfold qf
  dsimp only
  refine Rn.f (fun h=>by cases h) ?_
  by_cases z3:d3=0
  rotate_left
  ·refine Rn.t (by simp [z3]) (Rn.const (congrArg some ?_))
   simp [z3]
  refine Rn.f (by simp [z3]) (Rn.t rfl (Rn.bind g7 ?_))
  cases hn:okN d4 d5
  ·refine Rn.f (by decide) (Rn.const (congrArg some ?_))
   simp
  refine Rn.t (by decide) (Rn.f (fun h=>by cases h) (Rn.f (fun h=>by cases h) (Rn.t rfl (Rn.bind g5 ?_))))
  cases hw:noW d6 d7 d8
  ·refine Rn.t (by decide) (Rn.const (congrArg some ?_))
   simp
  refine Rn.f (by decide) (Rn.f (fun h=>by cases h) (Rn.bind g4 (Rn.const (congrArg some ?_))))
  simp [z3]
 refine Rn.f (by simp [k101]) ?_
 by_cases k103:d0=103
 ·refine Rn.t (by simp [k103]) ?_
  by_cases c1:(d2.length:Int)=4
  rotate_left
  ·refine Rn.f (by simp [c1]) (Rn.const (congrArg some ?_))
   simp [okR,k103,qQ,c1]
  refine Rn.t (by simp [c1]) (Rn.bind g1 ?_)
  have g2:=qbJ f0 f1 f2 f3 f4 d0 d1 d2 d3 d4 d5 d6 d7 d8 d9 d10 d11 d12 h2 4 false true false false c1
  cases hl:qb0 d1
  ·refine Rn.t (by rfl) (Rn.const (congrArg some ?_))
   simp [okR,hl]
  refine Rn.f (by decide) (Rn.bind g2 ?_)
  cases hr:qee f0.length d2
  ·refine Rn.const (congrArg some ?_)
   simp [okR,hr]
  rw [if_pos (show true=true from rfl)]
  have hok:okR f0.length f1 d0 d1 d2 d3 d4 d5 d6 d7 d8 d9 d10 d11 d12=(decide (d3=0) && okN d4 d5 && noW d6 d7 d8 && noM d9 d10 d11 d12):=by
   simp [okR,k103,qQ,c1,hl,hr]
  rw [hok]
  show Rn (fun k=>qf k _) _
  unfold qf
  dsimp only
  refine Rn.f (fun h=>by cases h) ?_
  by_cases z3:d3=0
  rotate_left
  ·refine Rn.t (by simp [z3]) (Rn.const (congrArg some ?_))
   simp [z3]
  refine Rn.f (by simp [z3]) (Rn.t rfl (Rn.bind g7 ?_))
  cases hn:okN d4 d5
  ·refine Rn.f (by decide) (Rn.const (congrArg some ?_))
   simp
  refine Rn.t (by decide) (Rn.f (fun h=>by cases h) (Rn.f (fun h=>by cases h) (Rn.t rfl (Rn.bind g5 ?_))))
  cases hw:noW d6 d7 d8
  ·refine Rn.t (by decide) (Rn.const (congrArg some ?_))
   simp
  refine Rn.f (by decide) (Rn.f (fun h=>by cases h) (Rn.bind g4 (Rn.const (congrArg some ?_))))
  simp [z3]
 refine Rn.f (by simp [k103]) ?_
 by_cases k116:d0=116
 ·refine Rn.t (by simp [k116]) ?_
  by_cases c1:(d2.length:Int)=4
  rotate_left
  ·refine Rn.f (by simp [c1]) (Rn.const (congrArg some ?_))
   simp [okR,k116,qQ,c1]
  refine Rn.t (by simp [c1]) (Rn.bind g1 ?_)
  have g2:=qbJ f0 f1 f2 f3 f4 d0 d1 d2 d3 d4 d5 d6 d7 d8 d9 d10 d11 d12 h2 4 false true false false c1
  cases hl:qb0 d1
  ·refine Rn.t (by rfl) (Rn.const (congrArg some ?_))
   simp [okR,hl]
  refine Rn.f (by decide) (Rn.bind g2 ?_)
  cases hr:qee f0.length d2
  ·refine Rn.const (congrArg some ?_)
   simp [okR,hr]
  rw [if_pos (show true=true from rfl)]
  have hok:okR f0.length f1 d0 d1 d2 d3 d4 d5 d6 d7 d8 d9 d10 d11 d12=(decide (d3=0) && okN d4 d5 && noW d6 d7 d8 && noM d9 d10 d11 d12):=by
   simp [okR,k116,qQ,c1,hl,hr]
  rw [hok]
  show Rn (fun k=>qf k _) _
  unfold qf
  dsimp only
  refine Rn.f (fun h=>by cases h) ?_
  by_cases z3:d3=0
  rotate_left
  ·refine Rn.t (by simp [z3]) (Rn.const (congrArg some ?_))
   simp [z3]
  refine Rn.f (by simp [z3]) (Rn.t rfl (Rn.bind g7 ?_))
  cases hn:okN d4 d5
  ·refine Rn.f (by decide) (Rn.const (congrArg some ?_))
   simp
  refine Rn.t (by decide) (Rn.f (fun h=>by cases h) (Rn.f (fun h=>by cases h) (Rn.t rfl (Rn.bind g5 ?_))))
  cases hw:noW d6 d7 d8
  ·refine Rn.t (by decide) (Rn.const (congrArg some ?_))
   simp
  refine Rn.f (by decide) (Rn.f (fun h=>by cases h) (Rn.bind g4 (Rn.const (congrArg some ?_))))
  simp [z3]
 refine Rn.f (by simp [k116]) ?_
 by_cases k102:d0=102
 ·refine Rn.t (by simp [k102]) ?_
  by_cases c1:(d2.length:Int)=2
  rotate_left
  ·refine Rn.f (by simp [c1]) (Rn.const (congrArg some ?_))
   simp [okR,k102,qQ,c1]
  refine Rn.t (by simp [c1]) (Rn.bind g1 ?_)
  have g2:=qbJ f0 f1 f2 f3 f4 d0 d1 d2 d3 d4 d5 d6 d7 d8 d9 d10 d11 d12 h2 2 true true false false c1
  cases hl:qb0 d1
  ·refine Rn.t (by rfl) (Rn.const (congrArg some ?_))
   simp [okR,hl]
  refine Rn.f (by decide) (Rn.bind g2 ?_)
  cases hr:qee f0.length d2
  ·refine Rn.const (congrArg some ?_)
   simp [okR,hr]
  rw [if_pos (show true=true from rfl)]
  have hok:okR f0.length f1 d0 d1 d2 d3 d4 d5 d6 d7 d8 d9 d10 d11 d12=(qcY f1 d3 && okN d4 d5 && noW d6 d7 d8 && noM d9 d10 d11 d12):=by
   simp [okR,k102,qQ,c1,hl,hr]
  rw [hok]
  show Rn (fun k=>qf k _) _
  unfold qf
  dsimp only
  refine Rn.t rfl ?_
  by_cases r1:d3<0
  ·refine Rn.f (by simpa using r1) (Rn.const (congrArg some ?_))
   have hv:qcY f1 d3=false:=by unfold qcY;rw [decide_eq_false (by omega),Bool.false_and]
   simp [hv]
  refine Rn.t (by simpa using r1) ?_
  by_cases r2:d3≥(f1.length:Int)
  ·refine Rn.f (by simpa using r2) (Rn.const (congrArg some ?_))
   have hv:qcY f1 d3=false:=by unfold qcY;rw [decide_eq_false (by omega),Bool.false_and]
   simp [hv]
  obtain⟨x,hx⟩:∃x,f1[d3.toNat]? =some x:=⟨_,List.getElem?_eq_getElem (by omega)⟩
  refine Rn.t (by simpa using r2) (Rn.t (show(0:Int)≤d3 by omega) (Rn.at hx ?_))
  by_cases r3:x.1=118
  rotate_left
  ·refine Rn.t (by simpa using r3) (Rn.const (congrArg some ?_))
   have hv:qcY f1 d3=false:=by unfold qcY;rw [hx];simp [r3]
   simp [hv]
  have hv:qcY f1 d3=true:=by simp [qcY,hx,r3];omega
  refine Rn.f (by simpa using r3) (Rn.t rfl (Rn.bind g7 ?_))
  cases hn:okN d4 d5
  ·refine Rn.f (by decide) (Rn.const (congrArg some ?_))
   simp
  refine Rn.t (by decide) (Rn.f (fun h=>by cases h) (Rn.f (fun h=>by cases h) (Rn.t rfl (Rn.bind g5 ?_))))
  cases hw:noW d6 d7 d8
  ·refine Rn.t (by decide) (Rn.const (congrArg some ?_))
   simp
  refine Rn.f (by decide) (Rn.f (fun h=>by cases h) (Rn.bind g4 (Rn.const (congrArg some ?_))))
  simp [hv]
 refine Rn.f (by simp [k102]) ?_
 by_cases k104:d0=104
 ·refine Rn.t (by simp [k104]) ?_
  by_cases c1:(d2.length:Int)=2
  rotate_left
  ·refine Rn.f (by simp [c1]) (Rn.const (congrArg some ?_))
   simp [okR,k104,qQ,c1]
  refine Rn.t (by simp [c1]) (Rn.bind g1 ?_)
  have g2:=qbJ f0 f1 f2 f3 f4 d0 d1 d2 d3 d4 d5 d6 d7 d8 d9 d10 d11 d12 h2 2 true true false false c1
  cases hl:qb0 d1
  ·refine Rn.t (by rfl) (Rn.const (congrArg some ?_))
   simp [okR,hl]
  refine Rn.f (by decide) (Rn.bind g2 ?_)
  cases hr:qee f0.length d2
  ·refine Rn.const (congrArg some ?_)
   simp [okR,hr]
  rw [if_pos (show true=true from rfl)]
  have hok:okR f0.length f1 d0 d1 d2 d3 d4 d5 d6 d7 d8 d9 d10 d11 d12=(qcY f1 d3 && okN d4 d5 && noW d6 d7 d8 && noM d9 d10 d11 d12):=by
   simp [okR,k104,qQ,c1,hl,hr]
  rw [hok]
  show Rn (fun k=>qf k _) _
  unfold qf
  dsimp only
  refine Rn.t rfl ?_
  by_cases r1:d3<0
  ·refine Rn.f (by simpa using r1) (Rn.const (congrArg some ?_))
   have hv:qcY f1 d3=false:=by unfold qcY;rw [decide_eq_false (by omega),Bool.false_and]
   simp [hv]
  refine Rn.t (by simpa using r1) ?_
  by_cases r2:d3≥(f1.length:Int)
  ·refine Rn.f (by simpa using r2) (Rn.const (congrArg some ?_))
   have hv:qcY f1 d3=false:=by unfold qcY;rw [decide_eq_false (by omega),Bool.false_and]
   simp [hv]
  obtain⟨x,hx⟩:∃x,f1[d3.toNat]? =some x:=⟨_,List.getElem?_eq_getElem (by omega)⟩
  refine Rn.t (by simpa using r2) (Rn.t (show(0:Int)≤d3 by omega) (Rn.at hx ?_))
  by_cases r3:x.1=118
  rotate_left
  ·refine Rn.t (by simpa using r3) (Rn.const (congrArg some ?_))
   have hv:qcY f1 d3=false:=by unfold qcY;rw [hx];simp [r3]
   simp [hv]
  have hv:qcY f1 d3=true:=by simp [qcY,hx,r3];omega
  refine Rn.f (by simpa using r3) (Rn.t rfl (Rn.bind g7 ?_))
  cases hn:okN d4 d5
  ·refine Rn.f (by decide) (Rn.const (congrArg some ?_))
   simp
  refine Rn.t (by decide) (Rn.f (fun h=>by cases h) (Rn.f (fun h=>by cases h) (Rn.t rfl (Rn.bind g5 ?_))))
  cases hw:noW d6 d7 d8
  ·refine Rn.t (by decide) (Rn.const (congrArg some ?_))
   simp
  refine Rn.f (by decide) (Rn.f (fun h=>by cases h) (Rn.bind g4 (Rn.const (congrArg some ?_))))
  simp [hv]
 refine Rn.f (by simp [k104]) ?_
 by_cases k100:d0=100
 ·refine Rn.t (by simp [k100]) ?_
  by_cases c1:(d2.length:Int)=2
  rotate_left
  ·refine Rn.f (by simp [c1]) (Rn.const (congrArg some ?_))
   simp [okR,k100,qQ,c1]
  refine Rn.t (by simp [c1]) (Rn.bind g1 ?_)
  have g2:=qbJ f0 f1 f2 f3 f4 d0 d1 d2 d3 d4 d5 d6 d7 d8 d9 d10 d11 d12 h2 2 false false false true c1
  cases hl:qb0 d1
  ·refine Rn.t (by rfl) (Rn.const (congrArg some ?_))
   simp [okR,hl]
  refine Rn.f (by decide) (Rn.bind g2 ?_)
  cases hr:qee f0.length d2
  ·refine Rn.const (congrArg some ?_)
   simp [okR,hr]
  rw [if_pos (show true=true from rfl)]
  have hok:okR f0.length f1 d0 d1 d2 d3 d4 d5 d6 d7 d8 d9 d10 d11 d12=(noW d6 d7 d8 && decide (d4=0) && decide (d5=0) && okM d9 d10 d11 d12 && decide (d10=d0) && decide (d3=0)):=by
   simp [okR,k100,qQ,c1,hl,hr]
  rw [hok]
  show Rn (fun k=>qf k _) _
  unfold qf
  dsimp only
  refine Rn.f (fun h=>by cases h) ?_
  by_cases z3:d3=0
  rotate_left
  ·refine Rn.t (by simp [z3]) (Rn.const (congrArg some ?_))
   simp [z3]
  refine Rn.f (by simp [z3]) (Rn.f (fun h=>by cases h) (Rn.t rfl ?_))
  by_cases z4:d4=0
  rotate_left
  ·refine Rn.f (by simp [z4]) (Rn.const (congrArg some ?_))
   simp [z4]
  refine Rn.t (by simp [z4]) ?_
  by_cases z5:d5=0
  rotate_left
  ·refine Rn.f (by simp [z5]) (Rn.const (congrArg some ?_))
   simp [z5]
  refine Rn.t (by simp [z5]) (Rn.f (fun h=>by cases h) (Rn.t rfl (Rn.bind g5 ?_)))
  cases hw:noW d6 d7 d8
  ·refine Rn.t (by decide) (Rn.const (congrArg some ?_))
   simp
  refine Rn.f (by decide) (Rn.t rfl (Rn.bind g6 ?_))
  cases hm:okM d9 d10 d11 d12
  ·refine Rn.f (by decide) (Rn.const (congrArg some ?_))
   simp
  refine Rn.t rfl (Rn.const (congrArg some ?_))
  rw [Bool.eq_iff_iff,beq_iff_eq]
  simp [z3,z4,z5]
 refine Rn.f (by simp [k100]) ?_
 by_cases k115:d0=115
 ·refine Rn.t (by simp [k115]) ?_
  by_cases c1:(d2.length:Int)=4
  rotate_left
  ·refine Rn.f (by simp [c1]) (Rn.const (congrArg some ?_))
   simp [okR,k115,qQ,c1]
  refine Rn.t (by simp [c1]) (Rn.bind g1 ?_)
  have g2:=qbJ f0 f1 f2 f3 f4 d0 d1 d2 d3 d4 d5 d6 d7 d8 d9 d10 d11 d12 h2 4 false false false true c1
  cases hl:qb0 d1
  ·refine Rn.t (by rfl) (Rn.const (congrArg some ?_))
   simp [okR,hl]
  refine Rn.f (by decide) (Rn.bind g2 ?_)
  cases hr:qee f0.length d2
  ·refine Rn.const (congrArg some ?_)
   simp [okR,hr]
  rw [if_pos (show true=true from rfl)]
  have hok:okR f0.length f1 d0 d1 d2 d3 d4 d5 d6 d7 d8 d9 d10 d11 d12=(noW d6 d7 d8 && decide (d4=0) && decide (d5=0) && okM d9 d10 d11 d12 && decide (d10=d0) && decide (d3=0)):=by
   simp [okR,k115,qQ,c1,hl,hr]
  rw [hok]
  show Rn (fun k=>qf k _) _
  unfold qf
  dsimp only
  refine Rn.f (fun h=>by cases h) ?_
  by_cases z3:d3=0
  rotate_left
  ·refine Rn.t (by simp [z3]) (Rn.const (congrArg some ?_))
   simp [z3]
  refine Rn.f (by simp [z3]) (Rn.f (fun h=>by cases h) (Rn.t rfl ?_))
  by_cases z4:d4=0
  rotate_left
  ·refine Rn.f (by simp [z4]) (Rn.const (congrArg some ?_))
   simp [z4]
  refine Rn.t (by simp [z4]) ?_
  by_cases z5:d5=0
  rotate_left
  ·refine Rn.f (by simp [z5]) (Rn.const (congrArg some ?_))
   simp [z5]
  refine Rn.t (by simp [z5]) (Rn.f (fun h=>by cases h) (Rn.t rfl (Rn.bind g5 ?_)))
  cases hw:noW d6 d7 d8
  ·refine Rn.t (by decide) (Rn.const (congrArg some ?_))
   simp
  refine Rn.f (by decide) (Rn.t rfl (Rn.bind g6 ?_))
  cases hm:okM d9 d10 d11 d12
  ·refine Rn.f (by decide) (Rn.const (congrArg some ?_))
   simp
  refine Rn.t rfl (Rn.const (congrArg some ?_))
  rw [Bool.eq_iff_iff,beq_iff_eq]
  simp [z3,z4,z5]
 refine Rn.f (by simp [k115]) ?_
 refine Rn.const (congrArg some ?_)
 have:qQ d0=0:=by unfold qQ;rw [if_neg (by omega),if_neg (by omega)]
 simp [okR,this]
end
theorem qvp {d:Dv} (g:GoodD d):brB d=true↔d.1=118∨d.1=101∨d.1=104∨d.1=99∨d.1=108∨d.1=116:=by
 unfold brB
 rw [decide_eq_true_eq,qfb]
 change d.1.toNat.toUInt8∈ [(118:UInt8),101,104,99,108,116]↔_
 simp only [List.mem_cons,List.not_mem_nil,or_false]
 have h:=fun n hn=>qqg g.kd n hn
 have h1:=h 118 (by omega)
 have h2:=h 101 (by omega)
 have h3:=h 104 (by omega)
 have h4:=h 99 (by omega)
 have h5:=h 108 (by omega)
 have h6:=h 116 (by omega)
 exact or_congr h1 (or_congr h2 (or_congr h3 (or_congr h4 (or_congr h5 h6))))
theorem qoc {d:Dv} (g:GoodD d):Rn (fun k=>qdi k d.1) (brB d):=by
 refine Rn.up (f:=fun k=>qdi k d.1) ?_
 show Rn (fun k=>qep k d.1) _
 have h:=qvp g
 generalize brB d=b at h
 unfold qep
 have key:∀c:Prop,(b=true↔c)→∀(x:Bool),(x=true↔c)→x=b:=fun c hb x hx=>Bool.eq_iff_iff.2 (hx.trans hb.symm)
 by_cases k1:d.1=118
 ·exact Rn.f (by simp [k1]) (Rn.const (congrArg some (h.2 (.inl k1)).symm))
 refine Rn.t (by simp [k1]) ?_
 by_cases k2:d.1=101
 ·exact Rn.f (by simp [k2]) (Rn.const (congrArg some (h.2 (by omega)).symm))
 refine Rn.t (by simp [k2]) ?_
 by_cases k3:d.1=104
 ·exact Rn.f (by simp [k3]) (Rn.const (congrArg some (h.2 (by omega)).symm))
 refine Rn.t (by simp [k3]) ?_
 by_cases k4:d.1=99
 ·exact Rn.f (by simp [k4]) (Rn.const (congrArg some (h.2 (by omega)).symm))
 refine Rn.t (by simp [k4]) ?_
 by_cases k5:d.1=108
 ·exact Rn.f (by simp [k5]) (Rn.const (congrArg some (h.2 (by omega)).symm))
 refine Rn.t (by simp [k5]) (Rn.const (congrArg some (key _ h _ ?_)))
 rw [beq_iff_eq]
 omega
section
variable (f0 : List ByteArray) (f1 : List Dv) (f2 f3 f4 : Int) (g : Gd f0 f1)
include g
theorem qod:∀(d i:Nat) (n:Int) (ls:List Int),i+d=f1.length→ls.length=i→0≤n+1→n≤1000000000+i→
  Rl (fun k q=>qbp k q n ls.length (i:Int) f0 f1 f2 f3 f4 ls) (n+qgg (f1.drop i),f1.length,f0,f1,f2,f3,f4,ls++brL n (f1.drop i)):=by
 intro d
 induction d with
 | zero=>
  intro i n ls e h1 h2 h3
  obtain rfl:i=f1.length:=by omega
  rw [List.drop_length]
  refine Rl.up (f:=fun k q=>qbp k q n ls.length (f1.length:Int) f0 f1 f2 f3 f4 ls) ?_
  show Rl (fun k q=>qcp k (qbp k q) _ _ _ _ _ _ _ _ _) _
  unfold qcp
  simp only [brL,List.append_nil]
  rw [h1]
  exact Rl.f (by simp) (by simpa [qgg] using Rl.pure _)
 | succ d ih=>
  intro i n ls e h1 h2 h3
  have hi:i<f1.length:=by omega
  have hgd:=g.dv _ (List.getElem_mem hi)
  have hl1:=g.l1
  have eg:f1[i]? =some f1[i]:=List.getElem?_eq_getElem hi
  have edr:f1.drop i=f1[i]::f1.drop (i+1):=List.drop_eq_getElem_cons hi
  generalize f1[i]=x at eg edr hgd
  rw [edr]
  refine Rl.up (f:=fun k q=>qbp k q n ls.length (i:Int) f0 f1 f2 f3 f4 ls) ?_
  show Rl (fun k q=>qcp k (qbp k q) _ _ _ _ _ _ _ _ _) _
  unfold qcp
  rw [qe (x:=(i:Int)+1) (by omega)]
  refine Rl.t (by first | omega | (simp only [decide_eq_true_eq,decide_eq_false_iff_not,Int.toNat_natCast,beq_iff_eq,bne_iff_ne,ne_eq,Int.not_lt,Int.not_le,ge_iff_le,gt_iff_lt,beq_eq_false_iff_ne,Nat.zero_add];omega)) (Rl.t (by first | omega | (simp only [decide_eq_true_eq,decide_eq_false_iff_not,Int.toNat_natCast,beq_iff_eq,bne_iff_ne,ne_eq,Int.not_lt,Int.not_le,ge_iff_le,gt_iff_lt,beq_eq_false_iff_ne,Nat.zero_add];omega)) (Rl.at (by rw [Int.toNat_natCast];exact eg) (Rl.bind (qoc hgd) ?_)))
  by_cases hb:brB x=true
  ·have ih':=ih (i+1) (n+1) (ls++ [n]) (by omega) (by rw [List.length_append];simp;omega) (by omega) (by omega)
   rw [qe (x:=n+1) (by omega)]
   have e1:List.take 1 [n]= [n]:=rfl
   refine Rl.t hb (Rl.t (Nat.le_refl _) (Rl.t (by rw [e1];simp only [List.length_singleton];omega) ?_))
   rw [e1,List.take_length]
   rw [List.length_append] at ih'
   rw [brL,if_pos hb,qgg,List.countP_cons_of_pos hb]
   rw [show n+((List.countP brB (f1.drop (i+1))+1:Nat):Int)=n+1+((List.countP brB (f1.drop (i+1)):Nat):Int) by omega]
   rw [List.append_assoc] at ih'
   exact ih'
  ·have ih':=ih (i+1) n (ls++ [-1]) (by omega) (by rw [List.length_append];simp;omega) (by omega) (by omega)
   have e1:List.take 1 [(-1:Int)]= [-1]:=rfl
   refine Rl.f hb (Rl.t (Nat.le_refl _) (Rl.t (by omega) ?_))
   rw [e1,List.take_length]
   rw [List.length_append] at ih'
   rw [brL,if_neg hb,qgg,List.countP_cons_of_neg hb]
   rw [List.append_assoc] at ih'
   exact ih'
theorem qtp:Rn (fun k=>qdd k f0 f1 f2 f3 f4) ((f0.length:Int)-1+qgg f1,brL ((f0.length:Int)-1) f1):=by
 have h0:=g.l0
 have h:=qod f0 f1 f2 f3 f4 g f1.length 0 ((f0.length:Int)-1) [] (by omega) rfl (by omega) (by omega)
 rw [List.drop_zero] at h
 refine Rn.up (f:=fun k=>qdd k f0 f1 f2 f3 f4) ?_
 show Rn (fun k=>qfz k f0 f1 f2 f3 f4) _
 unfold qfz
 rw [qe (x:=(f0.length:Int)-1) (by omega)]
 refine Rn.bind h.diag (Rn.t (by simp [qif]) (Rn.const (congrArg some ?_)))
 simp only [List.nil_append]
 rw [List.take_of_length_le (by rw [qif];exact Nat.le_refl _)]
theorem qqh (d:Dv) (hd:d∈f1):Rn (fun k=>qdc k f0 f1 f2 f3 f4 d.1 d.2.1 d.2.2.1 d.2.2.2.1 d.2.2.2.2.1.1 d.2.2.2.2.1.2 d.2.2.2.2.2.1.1 d.2.2.2.2.2.1.2.1 d.2.2.2.2.2.1.2.2 d.2.2.2.2.2.2.1 d.2.2.2.2.2.2.2.1 d.2.2.2.2.2.2.2.2.1 d.2.2.2.2.2.2.2.2.2) (qeU f0.length f1 d):=by
 have h:=g.dv d hd
 have a1:=h.nm
 have a2:=h.nd
 have a3:=h.wv
 have a4:=h.ws
 have a5:=h.mn
 have a6:=h.mg
 have a7:=h.mv
 exact qrQ f0 f1 f2 f3 f4 _ _ _ _ _ _ _ _ _ _ _ _ _ a1 (by omega) (by omega) (by omega) (by omega) (by omega) (by omega)
theorem qoe:∀(d i:Nat) (ls:List ByteArray),i+d=f1.length→ls=(f1.take i).map (fun d=>d.2.1)→
  ∃a,a.1=(90:Int)∧Rl (fun k q=>qaj k q ls.length (i:Int) f0 f1 f2 f3 f4 ls) (if(f1.drop i).all (qeU f0.length f1)=true then .inr (f1.length,f0,f1,f2,f3,f4,f1.map fun d=>d.2.1)else .inl a):=by
 intro d
 induction d with
 | zero=>
  intro i ls e hl
  obtain rfl:i=f1.length:=by omega
  rw [List.take_length] at hl
  refine⟨(90,f0,f1,f2,f3,f4,[]),rfl,Rl.up (f:=fun k q=>qaj k q ls.length (f1.length:Int) f0 f1 f2 f3 f4 ls) ?_⟩
  show Rl (fun k q=>qaZ k (qaj k q) _ _ _ _ _ _ _ _) _
  unfold qaZ
  rw [List.drop_length,if_pos (show([]:List Dv).all (qeU f0.length f1)=true from rfl),hl,List.length_map]
  exact Rl.f (by simp) (Rl.pure _)
 | succ d ih=>
  intro i ls e hl
  have hi:i<f1.length:=by omega
  have hm:=List.getElem_mem hi
  have eg:f1[i]? =some f1[i]:=List.getElem?_eq_getElem hi
  have edr:f1.drop i=f1[i]::f1.drop (i+1):=List.drop_eq_getElem_cons hi
  have et:f1.take (i+1)=f1.take i++ [f1[i]]:=by rw [List.take_add_one,eg];rfl
  generalize f1[i]=x at eg edr et hm
  have hx:=qqh f0 f1 f2 f3 f4 g x hm
  have hg:=g.l1
  have hlen:ls.length=i:=by rw [hl,List.length_map,List.length_take];omega
  rw [edr,List.all_cons]
  cases hb:qeU f0.length f1 x
  ·rw [hb] at hx
   refine⟨(90,f0,f1,f2,f3,f4,ls),rfl,Rl.up (f:=fun k q=>qaj k q ls.length (i:Int) f0 f1 f2 f3 f4 ls) ?_⟩
   show Rl (fun k q=>qaZ k (qaj k q) _ _ _ _ _ _ _ _) _
   unfold qaZ
   rw [Bool.false_and,if_neg (show ¬false=true by decide)]
   exact Rl.t (by first | omega | (simp only [decide_eq_true_eq,decide_eq_false_iff_not,Int.toNat_natCast,beq_iff_eq,bne_iff_ne,ne_eq,Int.not_lt,Int.not_le,ge_iff_le,gt_iff_lt,beq_eq_false_iff_ne,Nat.zero_add];omega)) (Rl.t (by first | omega | (simp only [decide_eq_true_eq,decide_eq_false_iff_not,Int.toNat_natCast,beq_iff_eq,bne_iff_ne,ne_eq,Int.not_lt,Int.not_le,ge_iff_le,gt_iff_lt,beq_eq_false_iff_ne,Nat.zero_add];omega)) (Rl.at (by rw [Int.toNat_natCast];exact eg) (Rl.bind hx (Rl.t (by decide) (Rl.pure _)))))
  ·rw [hb] at hx
   obtain⟨a,ha,b⟩:=ih (i+1) (ls++ [x.2.1]) (by omega) (by rw [et,List.map_append,←hl];rfl)
   refine⟨a,ha,Rl.up (f:=fun k q=>qaj k q ls.length (i:Int) f0 f1 f2 f3 f4 ls) ?_⟩
   show Rl (fun k q=>qaZ k (qaj k q) _ _ _ _ _ _ _ _) _
   unfold qaZ
   rw [qe (x:=(i:Int)+1) (by omega),Bool.true_and]
   have e1:List.take 1 [x.2.1]= [x.2.1]:=rfl
   refine Rl.t (by first | omega | (simp only [decide_eq_true_eq,decide_eq_false_iff_not,Int.toNat_natCast,beq_iff_eq,bne_iff_ne,ne_eq,Int.not_lt,Int.not_le,ge_iff_le,gt_iff_lt,beq_eq_false_iff_ne,Nat.zero_add];omega)) (Rl.t (by first | omega | (simp only [decide_eq_true_eq,decide_eq_false_iff_not,Int.toNat_natCast,beq_iff_eq,bne_iff_ne,ne_eq,Int.not_lt,Int.not_le,ge_iff_le,gt_iff_lt,beq_eq_false_iff_ne,Nat.zero_add];omega)) (Rl.at (by rw [Int.toNat_natCast];exact eg) (Rl.bind hx (Rl.f (by decide) (Rl.t (by first | omega | (simp only [decide_eq_true_eq,decide_eq_false_iff_not,Int.toNat_natCast,beq_iff_eq,bne_iff_ne,ne_eq,Int.not_lt,Int.not_le,ge_iff_le,gt_iff_lt,beq_eq_false_iff_ne,Nat.zero_add];omega)) (Rl.at (by rw [Int.toNat_natCast];exact eg) (Rl.t (Nat.le_refl _) (Rl.t (by rw [e1];simp only [List.length_singleton];omega) ?_))))))))
   rw [e1,List.take_length]
   rw [List.length_append] at b
   exact b
theorem qnL (n:Nat) (nl:List ByteArray):∃a,a.1=(90:Int)∧Rn (fun k=>qL k k n 0 f0 f1 f2 f3 f4 nl) (if f0.all qb0=true then .inr (n,f0,f1,f2,f3,f4,nl)else .inl a):=by
 obtain⟨o,b1,b2⟩:=qdG f0.length 0 (fun k q i=>qL k q n i f0 f1 f2 f3 f4 nl) (n,f0,f1,f2,f3,f4,nl) (fun a=>a=(90,f0,f1,f2,f3,f4,nl)) (fun j=>∀x,f0[j]? =some x→qb0 x=true) (by
   refine Rl.up (f:=fun k q=>qL k q n f0.length f0 f1 f2 f3 f4 nl) ?_
   show Rl (fun k q=>qa0 k (qL k q) _ _ _ _ _ _ _ _) _
   unfold qa0
   exact Rl.f (by simp) (Rl.pure _)) (by
   intro i hs hi hok o ho
   refine Rl.up (f:=fun k q=>qL k q n i f0 f1 f2 f3 f4 nl) ?_
   show Rl (fun k q=>qa0 k (qL k q) _ _ _ _ _ _ _ _) _
   unfold qa0
   have eg:=List.getElem?_eq_getElem hi
   have hnm:=g.nm _ (List.getElem_mem hi)
   have hx:=qkf (f0[i]'hi) (by omega)
   rw [hok _ eg] at hx
   have:=g.l0
   rw [qe (x:=(i:Int)+1) (by omega)]
   exact Rl.t (by first | omega | (simp only [decide_eq_true_eq,decide_eq_false_iff_not,Int.toNat_natCast,beq_iff_eq,bne_iff_ne,ne_eq,Int.not_lt,Int.not_le,ge_iff_le,gt_iff_lt,beq_eq_false_iff_ne,Nat.zero_add];omega)) (Rl.t (by first | omega | (simp only [decide_eq_true_eq,decide_eq_false_iff_not,Int.toNat_natCast,beq_iff_eq,bne_iff_ne,ne_eq,Int.not_lt,Int.not_le,ge_iff_le,gt_iff_lt,beq_eq_false_iff_ne,Nat.zero_add];omega)) (Rl.at (by rw [Int.toNat_natCast];exact eg) (Rl.bind hx (Rl.f (by decide) ho))))) (by
   intro i hs hi hok
   refine⟨_,rfl,Rl.up (f:=fun k q=>qL k q n i f0 f1 f2 f3 f4 nl) ?_⟩
   show Rl (fun k q=>qa0 k (qL k q) _ _ _ _ _ _ _ _) _
   unfold qa0
   have eg:=List.getElem?_eq_getElem hi
   have hnm:=g.nm _ (List.getElem_mem hi)
   have hx:=qkf (f0[i]'hi) (by omega)
   have hf:qb0 (f0[i]'hi)=false:=by
    rw [←Bool.not_eq_true]
    exact fun h=>hok fun x hx=>by rw [eg] at hx;cases hx;exact h
   rw [hf] at hx
   exact Rl.t (by first | omega | (simp only [decide_eq_true_eq,decide_eq_false_iff_not,Int.toNat_natCast,beq_iff_eq,bne_iff_ne,ne_eq,Int.not_lt,Int.not_le,ge_iff_le,gt_iff_lt,beq_eq_false_iff_ne,Nat.zero_add];omega)) (Rl.t (by first | omega | (simp only [decide_eq_true_eq,decide_eq_false_iff_not,Int.toNat_natCast,beq_iff_eq,bne_iff_ne,ne_eq,Int.not_lt,Int.not_le,ge_iff_le,gt_iff_lt,beq_eq_false_iff_ne,Nat.zero_add];omega)) (Rl.at (by rw [Int.toNat_natCast];exact eg) (Rl.bind hx (Rl.t (by decide) (Rl.pure _)))))) f0.length 0 (by omega) (by omega)
 have hall:f0.all qb0=true↔∀j,0≤j→j<f0.length→∀x,f0[j]? =some x→qb0 x=true:=by
  rw [List.all_eq_true]
  exact⟨fun h j _ _ x hx=>h x (List.mem_of_getElem? hx),fun h x hx=>by
   obtain⟨j,hj,e⟩:=List.mem_iff_getElem.1 hx
   exact h j (Nat.zero_le _) hj x (by rw [List.getElem?_eq_getElem hj,e])⟩
 refine⟨(90,f0,f1,f2,f3,f4,nl),rfl,?_⟩
 rcases b2 with ⟨b2,rfl⟩ | ⟨b2,a,rfl,rfl⟩
 ·rw [if_pos (hall.2 b2)];exact b1.diag
 ·rw [if_neg (fun h=>b2 (hall.1 h))];exact b1.diag
theorem qrR:Rn (fun k=>qdX k f0 f1 f2 f3 f4) (chk f0 f1 f2 f3 f4):=by
 refine Rn.up (f:=fun k=>qdX k f0 f1 f2 f3 f4) ?_
 show Rn (fun k=>qfA k f0 f1 f2 f3 f4) _
 have g0:=g.l0
 have g1:=g.l1
 have hno:qex f0 f1 f2 f3 f4=false→chk f0 f1 f2 f3 f4=90:=fun h=>if_neg (by rw [h];decide)
 unfold qfA
 refine Rn.bind (qdm f2 f3) ?_
 cases hn:okN f2 f3
 ·rw [hno (by simp [qex,hn])];exact Rn.f (by decide) (Rn.pure _)
 refine Rn.t (by decide) ?_
 by_cases p2:0<f2
 rotate_left
 ·rw [hno (by simp [qex,p2])];exact Rn.f (by rw [decide_eq_false_iff_not];omega) (Rn.pure _)
 refine Rn.t (by rw [decide_eq_false_iff_not];omega) ?_
 by_cases q:f4=1∨f4=2
 rotate_left
 ·rw [hno (by simp [qex,q])]
  by_cases q1:f4<1
  ·exact Rn.f (by rw [decide_eq_false_iff_not];omega) (Rn.pure _)
  ·exact Rn.t (by rw [decide_eq_false_iff_not];omega) (Rn.f (by rw [decide_eq_false_iff_not];omega) (Rn.pure _))
 refine Rn.t (by rw [decide_eq_false_iff_not];omega) (Rn.t (by rw [decide_eq_false_iff_not];omega) ?_)
 by_cases l1:1≤f0.length
 rotate_left
 ·rw [hno (by simp [qex,l1])];exact Rn.f (by rw [decide_eq_false_iff_not];omega) (Rn.pure _)
 refine Rn.t (by rw [decide_eq_false_iff_not];omega) ?_
 by_cases l2:f0.length≤32
 rotate_left
 ·rw [hno (by simp [qex,l2])];exact Rn.f (by rw [decide_eq_false_iff_not];omega) (Rn.pure _)
 refine Rn.t (by rw [decide_eq_false_iff_not];omega) ?_
 by_cases l3:f1.length≤64
 rotate_left
 ·rw [hno (by simp [qex,l3])];exact Rn.f (by rw [decide_eq_false_iff_not];omega) (Rn.pure _)
 refine Rn.t (by rw [decide_eq_false_iff_not];omega) ?_
 obtain⟨x,r,ex⟩:∃x r,f0=x::r:=by cases f0 with | nil=>simp at l1 | cons x r=>exact⟨x,r,rfl⟩
 have ex0:f0[0]? =some x:=by rw [ex];rfl
 have exh:(f0.map dl).headD []=dl x:=by rw [ex];rfl
 refine Rn.at ex0 ?_
 by_cases hz:dl x=b0
 rotate_left
 ·rw [hno (by unfold qex;rw [decide_eq_false (p:=(f0.map dl).headD []=b0) (by rw [exh];exact hz)];simp)]
  exact Rn.t (by simp only [Bool.not_eq_true',beq_eq_false_iff_ne,ne_eq];exact hz) (Rn.pure _)
 refine Rn.f (by simp only [Bool.not_eq_true',beq_eq_false_iff_ne,ne_eq];exact fun h=>h hz) ?_
 obtain⟨c1,c2,c3⟩:=qoe f0 f1 f2 f3 f4 g f1.length 0 [] (by omega) rfl
 rw [List.drop_zero] at c3
 refine Rn.bind c3.diag ?_
 cases hd:f1.all (qeU f0.length f1)
 ·rw [hno (by simp only [qex,hd];simp)]
  show Rn (fun k=>some c1.1) 90
  rw [c2];exact Rn.pure _
 obtain⟨a1,a2,h1⟩:=qnL f0 f1 f2 f3 f4 g f1.length (f1.map fun d=>d.2.1)
 show Rn (fun k=>Option.bind (qL k k f1.length 0 f0 f1 f2 f3 f4 (f1.map fun d=>d.2.1)) _) _
 refine Rn.bind h1 ?_
 cases hl:f0.all qb0
 ·rw [hno (by simp only [qex,hl];simp)]
  show Rn (fun k=>some a1.1) 90
  rw [a2];exact Rn.pure _
 show Rn (fun k=>if 0+f1.length≤(f1.map fun d=>d.2.1).length then Option.bind (qbP k (List.take f1.length (f1.map fun d=>d.2.1))) _ else none) _
 have tk:List.take f1.length (f1.map fun d=>d.2.1)=f1.map fun d=>d.2.1:=List.take_of_length_le (by rw [List.length_map];omega)
 rw [tk]
 refine Rn.t (by rw [List.length_map];omega) (Rn.bind (qlJ _ (by rw [List.length_map];omega)) ?_)
 cases hw:twB (f1.map fun d=>d.2.1)
 rotate_left
 ·rw [hno (by simp only [qex,hw];simp)];exact Rn.f (by decide) (Rn.pure _)
 refine Rn.t rfl ?_
 show Rn (fun k=>Option.bind (qbP k f0) _) _
 refine Rn.bind (qlJ f0 (by omega)) ?_
 cases ht:twB f0
 rotate_left
 ·rw [hno (by simp only [qex,ht];simp)];exact Rn.t rfl (Rn.pure _)
 refine Rn.f (by decide) ?_
 show Rn (fun k=>Option.bind (qdd k f0 f1 f2 f3 f4) _) _
 refine Rn.bind (qtp f0 f1 f2 f3 f4 g) ?_
 have hyes:qex f0 f1 f2 f3 f4=true:=by
  unfold qex
  rw [hn,hd,hl,hw,ht,decide_eq_true p2,decide_eq_true q,decide_eq_true (show 1≤f0.length∧f0.length≤32 from⟨l1,l2⟩),decide_eq_true l3,decide_eq_true (show(f0.map dl).headD []=b0 by rw [exh];exact hz)]
  rfl
 have hc:chk f0 f1 f2 f3 f4=if(48:Int)<(f0.length:Int)-1+qgg f1 then 5 else 0:=if_pos hyes
 rw [hc]
 by_cases l4:(48:Int)<(f0.length:Int)-1+qgg f1
 ·rw [if_pos l4];exact Rn.t (by rw [decide_eq_true_eq];exact l4) (Rn.pure _)
 ·rw [if_neg l4];exact Rn.f (by rw [decide_eq_true_eq];exact l4) (Rn.pure _)
end
def edR (mode:Int) (d:Dv):List (Nat×Nat):=(if d.1=105∨d.1=102∨d.1=103∨(d.1=99∧mode≠2)then [] else [(nd d 0,nd d 1)])++(if d.1=101∨d.1=103∨d.1=116 then [(nd d 2,nd d 3)] else [])
theorem qiN {k:Int} (h:qQ k≠0):k=114∨k=99∨k=108∨k=118∨k=105∨k=102∨k=104∨k=100∨k=101∨k=103∨k=116∨k=115:=by
 unfold qQ at h
 split at h
 ·omega
 ·split at h
  ·omega
  ·exact absurd rfl h
theorem qvq {mode:Int} (hm:mode=1∨mode=2) {d:Dv} (hk:qQ d.1≠0):edR mode d=edg (if mode=2 then qg0 else bOp) d:=by
 have hi:∀c:Int,(0≤qci (if mode=2 then qg0 else bOp) c↔(c.toNat.toUInt8∈ [(114:UInt8),108,118,101,104,116,100,115]∨mode=2∧c.toNat.toUInt8=99)):=by
  intro c
  rw [qfb]
  rcases hm with rfl | rfl
  ·rw [if_neg (by decide),qth];simp
  ·rw [if_pos rfl,qqc];simp [or_assoc]
 have he:∀c:Int,(0≤qci qi6 c↔c.toNat.toUInt8∈ [(101:UInt8),103,116]):=fun c=>qfb _ _
 unfold edR edg
 have h1:=hi d.1
 have h2:=he d.1
 generalize d.1=k at*
 congr 1
 ·rcases qiN hk with rfl | rfl | rfl | rfl | rfl | rfl | rfl | rfl | rfl | rfl | rfl | rfl<;>rcases hm with rfl | rfl
  all_goals
   first
    | (rw [if_pos (by decide),if_neg (fun q=>absurd (h1.1 q) (by decide))])
    | (rw [if_neg (by decide),if_pos (h1.2 (by decide))])
 ·rcases qiN hk with rfl | rfl | rfl | rfl | rfl | rfl | rfl | rfl | rfl | rfl | rfl | rfl
  all_goals
   first
    | (rw [if_pos (by decide),if_pos (h2.2 (by decide))])
    | (rw [if_neg (by decide),if_neg (fun q=>absurd (h2.1 q) (by decide))])
theorem qkY (a b:List (Nat×Nat)):tsI (a++b)=tsI a++tsI b:=List.map_append ..
section
variable (f0 : List ByteArray) (f1 : List Dv) (f2 f3 f4 : Int) (hl : f1.length ≤ 1000000000)
include hl
theorem qyY (k:Nat) (rec:Int→Nat→Int→List ByteArray→List Dv→Int→Int→Int→List (Int×Int)→Option (Nat×List ByteArray×List Dv×Int×Int×Int×List (Int×Int))) (mode:Int) (i:Nat) (hi:i<f1.length) (ls:List (Int×Int)) (hls:ls.length≤2*i) (x:Dv) (eg:f1[i]? =some x) (h1:OkD f0.length x) (h2:x.1=114):
  qi k rec mode ls.length (i:Int) f0 f1 f2 f3 f4 ls=rec mode (ls++tsI (edR mode x)).length ((i+1:Nat):Int) f0 f1 f2 f3 f4 (ls++tsI (edR mode x)):=by
 have g0:=(h1.at (i:=0) (by have:=h1.two;omega)).1
 have g1:=(h1.at (i:=1) (by have:=h1.two;omega)).1
 have w1:IntKind.i64.wrap ((i:Int)+1)=((i+1:Nat):Int):=by rw [qe (by omega)];omega
 have hE:tsI (edR mode x)= [(((nd x 0:Nat):Int),((nd x 1:Nat):Int))]:=by
  unfold edR
  rw [if_neg (by omega),if_neg (by omega)];rfl
 rw [hE]
 have q1:∀(m:List (Int×Int)) (p:Int×Int),m.length≤2*i+1→(m.length+(List.take 1 [p]).length)*16≤140737488355328:=fun m p h=>by
  have:(List.take 1 [p]).length=1:=rfl
  omega
 have q2:∀p:Int×Int,ls.length+(List.take 1 [p]).length=(ls++ [p]).length:=fun p=>by rw [List.length_append];rfl
 have q3:∀p:Int×Int,List.take ls.length ls++List.take 1 [p]=ls++ [p]:=fun p=>by rw [List.take_length];rfl
 unfold qi
 rw [if_pos (by rw [decide_eq_true_eq];omega),if_pos (by omega),Int.toNat_natCast,eg,Option.bind_some]
 repeat (first | rw [if_pos (by rw [h2];decide)] | rw [if_neg (by rw [h2];decide)]  | rw [g0,Option.bind_some,g1,Option.bind_some,if_pos (Nat.le_refl _),if_pos (q1 ls _ (by omega)),q2,q3])
 rw [w1]
theorem qyZ (k:Nat) (rec:Int→Nat→Int→List ByteArray→List Dv→Int→Int→Int→List (Int×Int)→Option (Nat×List ByteArray×List Dv×Int×Int×Int×List (Int×Int))) (mode:Int) (i:Nat) (hi:i<f1.length) (ls:List (Int×Int)) (hls:ls.length≤2*i) (x:Dv) (eg:f1[i]? =some x) (h1:OkD f0.length x) (h2:x.1=108):
  qi k rec mode ls.length (i:Int) f0 f1 f2 f3 f4 ls=rec mode (ls++tsI (edR mode x)).length ((i+1:Nat):Int) f0 f1 f2 f3 f4 (ls++tsI (edR mode x)):=by
 have g0:=(h1.at (i:=0) (by have:=h1.two;omega)).1
 have g1:=(h1.at (i:=1) (by have:=h1.two;omega)).1
 have w1:IntKind.i64.wrap ((i:Int)+1)=((i+1:Nat):Int):=by rw [qe (by omega)];omega
 have hE:tsI (edR mode x)= [(((nd x 0:Nat):Int),((nd x 1:Nat):Int))]:=by
  unfold edR
  rw [if_neg (by omega),if_neg (by omega)];rfl
 rw [hE]
 have q1:∀(m:List (Int×Int)) (p:Int×Int),m.length≤2*i+1→(m.length+(List.take 1 [p]).length)*16≤140737488355328:=fun m p h=>by
  have:(List.take 1 [p]).length=1:=rfl
  omega
 have q2:∀p:Int×Int,ls.length+(List.take 1 [p]).length=(ls++ [p]).length:=fun p=>by rw [List.length_append];rfl
 have q3:∀p:Int×Int,List.take ls.length ls++List.take 1 [p]=ls++ [p]:=fun p=>by rw [List.take_length];rfl
 unfold qi
 rw [if_pos (by rw [decide_eq_true_eq];omega),if_pos (by omega),Int.toNat_natCast,eg,Option.bind_some]
 repeat (first | rw [if_pos (by rw [h2];decide)] | rw [if_neg (by rw [h2];decide)]  | rw [g0,Option.bind_some,g1,Option.bind_some,if_pos (Nat.le_refl _),if_pos (q1 ls _ (by omega)),q2,q3])
 rw [w1]
theorem qy0 (k:Nat) (rec:Int→Nat→Int→List ByteArray→List Dv→Int→Int→Int→List (Int×Int)→Option (Nat×List ByteArray×List Dv×Int×Int×Int×List (Int×Int))) (mode:Int) (i:Nat) (hi:i<f1.length) (ls:List (Int×Int)) (hls:ls.length≤2*i) (x:Dv) (eg:f1[i]? =some x) (h1:OkD f0.length x) (h2:x.1=118):
  qi k rec mode ls.length (i:Int) f0 f1 f2 f3 f4 ls=rec mode (ls++tsI (edR mode x)).length ((i+1:Nat):Int) f0 f1 f2 f3 f4 (ls++tsI (edR mode x)):=by
 have g0:=(h1.at (i:=0) (by have:=h1.two;omega)).1
 have g1:=(h1.at (i:=1) (by have:=h1.two;omega)).1
 have w1:IntKind.i64.wrap ((i:Int)+1)=((i+1:Nat):Int):=by rw [qe (by omega)];omega
 have hE:tsI (edR mode x)= [(((nd x 0:Nat):Int),((nd x 1:Nat):Int))]:=by
  unfold edR
  rw [if_neg (by omega),if_neg (by omega)];rfl
 rw [hE]
 have q1:∀(m:List (Int×Int)) (p:Int×Int),m.length≤2*i+1→(m.length+(List.take 1 [p]).length)*16≤140737488355328:=fun m p h=>by
  have:(List.take 1 [p]).length=1:=rfl
  omega
 have q2:∀p:Int×Int,ls.length+(List.take 1 [p]).length=(ls++ [p]).length:=fun p=>by rw [List.length_append];rfl
 have q3:∀p:Int×Int,List.take ls.length ls++List.take 1 [p]=ls++ [p]:=fun p=>by rw [List.take_length];rfl
 unfold qi
 rw [if_pos (by rw [decide_eq_true_eq];omega),if_pos (by omega),Int.toNat_natCast,eg,Option.bind_some]
 repeat (first | rw [if_pos (by rw [h2];decide)] | rw [if_neg (by rw [h2];decide)]  | rw [g0,Option.bind_some,g1,Option.bind_some,if_pos (Nat.le_refl _),if_pos (q1 ls _ (by omega)),q2,q3])
 rw [w1]
theorem qy1 (k:Nat) (rec:Int→Nat→Int→List ByteArray→List Dv→Int→Int→Int→List (Int×Int)→Option (Nat×List ByteArray×List Dv×Int×Int×Int×List (Int×Int))) (mode:Int) (i:Nat) (hi:i<f1.length) (ls:List (Int×Int)) (hls:ls.length≤2*i) (x:Dv) (eg:f1[i]? =some x) (h1:OkD f0.length x) (h2:x.1=104):
  qi k rec mode ls.length (i:Int) f0 f1 f2 f3 f4 ls=rec mode (ls++tsI (edR mode x)).length ((i+1:Nat):Int) f0 f1 f2 f3 f4 (ls++tsI (edR mode x)):=by
 have g0:=(h1.at (i:=0) (by have:=h1.two;omega)).1
 have g1:=(h1.at (i:=1) (by have:=h1.two;omega)).1
 have w1:IntKind.i64.wrap ((i:Int)+1)=((i+1:Nat):Int):=by rw [qe (by omega)];omega
 have hE:tsI (edR mode x)= [(((nd x 0:Nat):Int),((nd x 1:Nat):Int))]:=by
  unfold edR
  rw [if_neg (by omega),if_neg (by omega)];rfl
 rw [hE]
 have q1:∀(m:List (Int×Int)) (p:Int×Int),m.length≤2*i+1→(m.length+(List.take 1 [p]).length)*16≤140737488355328:=fun m p h=>by
  have:(List.take 1 [p]).length=1:=rfl
  omega
 have q2:∀p:Int×Int,ls.length+(List.take 1 [p]).length=(ls++ [p]).length:=fun p=>by rw [List.length_append];rfl
 have q3:∀p:Int×Int,List.take ls.length ls++List.take 1 [p]=ls++ [p]:=fun p=>by rw [List.take_length];rfl
 unfold qi
 rw [if_pos (by rw [decide_eq_true_eq];omega),if_pos (by omega),Int.toNat_natCast,eg,Option.bind_some]
 repeat (first | rw [if_pos (by rw [h2];decide)] | rw [if_neg (by rw [h2];decide)]  | rw [g0,Option.bind_some,g1,Option.bind_some,if_pos (Nat.le_refl _),if_pos (q1 ls _ (by omega)),q2,q3])
 rw [w1]
theorem qy2 (k:Nat) (rec:Int→Nat→Int→List ByteArray→List Dv→Int→Int→Int→List (Int×Int)→Option (Nat×List ByteArray×List Dv×Int×Int×Int×List (Int×Int))) (mode:Int) (i:Nat) (hi:i<f1.length) (ls:List (Int×Int)) (hls:ls.length≤2*i) (x:Dv) (eg:f1[i]? =some x) (h1:OkD f0.length x) (h2:x.1=100):
  qi k rec mode ls.length (i:Int) f0 f1 f2 f3 f4 ls=rec mode (ls++tsI (edR mode x)).length ((i+1:Nat):Int) f0 f1 f2 f3 f4 (ls++tsI (edR mode x)):=by
 have g0:=(h1.at (i:=0) (by have:=h1.two;omega)).1
 have g1:=(h1.at (i:=1) (by have:=h1.two;omega)).1
 have w1:IntKind.i64.wrap ((i:Int)+1)=((i+1:Nat):Int):=by rw [qe (by omega)];omega
 have hE:tsI (edR mode x)= [(((nd x 0:Nat):Int),((nd x 1:Nat):Int))]:=by
  unfold edR
  rw [if_neg (by omega),if_neg (by omega)];rfl
 rw [hE]
 have q1:∀(m:List (Int×Int)) (p:Int×Int),m.length≤2*i+1→(m.length+(List.take 1 [p]).length)*16≤140737488355328:=fun m p h=>by
  have:(List.take 1 [p]).length=1:=rfl
  omega
 have q2:∀p:Int×Int,ls.length+(List.take 1 [p]).length=(ls++ [p]).length:=fun p=>by rw [List.length_append];rfl
 have q3:∀p:Int×Int,List.take ls.length ls++List.take 1 [p]=ls++ [p]:=fun p=>by rw [List.take_length];rfl
 unfold qi
 rw [if_pos (by rw [decide_eq_true_eq];omega),if_pos (by omega),Int.toNat_natCast,eg,Option.bind_some]
 repeat (first | rw [if_pos (by rw [h2];decide)] | rw [if_neg (by rw [h2];decide)]  | rw [g0,Option.bind_some,g1,Option.bind_some,if_pos (Nat.le_refl _),if_pos (q1 ls _ (by omega)),q2,q3])
 rw [w1]
theorem qy3 (k:Nat) (rec:Int→Nat→Int→List ByteArray→List Dv→Int→Int→Int→List (Int×Int)→Option (Nat×List ByteArray×List Dv×Int×Int×Int×List (Int×Int))) (mode:Int) (i:Nat) (hi:i<f1.length) (ls:List (Int×Int)) (hls:ls.length≤2*i) (x:Dv) (eg:f1[i]? =some x) (h1:OkD f0.length x) (h2:x.1=115):
  qi k rec mode ls.length (i:Int) f0 f1 f2 f3 f4 ls=rec mode (ls++tsI (edR mode x)).length ((i+1:Nat):Int) f0 f1 f2 f3 f4 (ls++tsI (edR mode x)):=by
 have g0:=(h1.at (i:=0) (by have:=h1.two;omega)).1
 have g1:=(h1.at (i:=1) (by have:=h1.two;omega)).1
 have w1:IntKind.i64.wrap ((i:Int)+1)=((i+1:Nat):Int):=by rw [qe (by omega)];omega
 have hE:tsI (edR mode x)= [(((nd x 0:Nat):Int),((nd x 1:Nat):Int))]:=by
  unfold edR
  rw [if_neg (by omega),if_neg (by omega)];rfl
 rw [hE]
 have q1:∀(m:List (Int×Int)) (p:Int×Int),m.length≤2*i+1→(m.length+(List.take 1 [p]).length)*16≤140737488355328:=fun m p h=>by
  have:(List.take 1 [p]).length=1:=rfl
  omega
 have q2:∀p:Int×Int,ls.length+(List.take 1 [p]).length=(ls++ [p]).length:=fun p=>by rw [List.length_append];rfl
 have q3:∀p:Int×Int,List.take ls.length ls++List.take 1 [p]=ls++ [p]:=fun p=>by rw [List.take_length];rfl
 unfold qi
 rw [if_pos (by rw [decide_eq_true_eq];omega),if_pos (by omega),Int.toNat_natCast,eg,Option.bind_some]
 repeat (first | rw [if_pos (by rw [h2];decide)] | rw [if_neg (by rw [h2];decide)]  | rw [g0,Option.bind_some,g1,Option.bind_some,if_pos (Nat.le_refl _),if_pos (q1 ls _ (by omega)),q2,q3])
 rw [w1]
theorem qy4 (k:Nat) (rec:Int→Nat→Int→List ByteArray→List Dv→Int→Int→Int→List (Int×Int)→Option (Nat×List ByteArray×List Dv×Int×Int×Int×List (Int×Int))) (mode:Int) (i:Nat) (hi:i<f1.length) (ls:List (Int×Int)) (hls:ls.length≤2*i) (x:Dv) (eg:f1[i]? =some x) (h1:OkD f0.length x) (h2:x.1=105):
  qi k rec mode ls.length (i:Int) f0 f1 f2 f3 f4 ls=rec mode (ls++tsI (edR mode x)).length ((i+1:Nat):Int) f0 f1 f2 f3 f4 (ls++tsI (edR mode x)):=by
 have g0:=(h1.at (i:=0) (by have:=h1.two;omega)).1
 have g1:=(h1.at (i:=1) (by have:=h1.two;omega)).1
 have w1:IntKind.i64.wrap ((i:Int)+1)=((i+1:Nat):Int):=by rw [qe (by omega)];omega
 have hE:tsI (edR mode x)= []:=by
  unfold edR
  rw [if_pos (by omega),if_neg (by omega)];rfl
 rw [hE]
 have q1:∀(m:List (Int×Int)) (p:Int×Int),m.length≤2*i+1→(m.length+(List.take 1 [p]).length)*16≤140737488355328:=fun m p h=>by
  have:(List.take 1 [p]).length=1:=rfl
  omega
 have q2:∀p:Int×Int,ls.length+(List.take 1 [p]).length=(ls++ [p]).length:=fun p=>by rw [List.length_append];rfl
 have q3:∀p:Int×Int,List.take ls.length ls++List.take 1 [p]=ls++ [p]:=fun p=>by rw [List.take_length];rfl
 unfold qi
 rw [if_pos (by rw [decide_eq_true_eq];omega),if_pos (by omega),Int.toNat_natCast,eg,Option.bind_some]
 repeat (first | rw [if_pos (by rw [h2];decide)] | rw [if_neg (by rw [h2];decide)]  | rw [g0,Option.bind_some,g1,Option.bind_some,if_pos (Nat.le_refl _),if_pos (q1 ls _ (by omega)),q2,q3])
 rw [w1]
 rw [List.append_nil]
theorem qy5 (k:Nat) (rec:Int→Nat→Int→List ByteArray→List Dv→Int→Int→Int→List (Int×Int)→Option (Nat×List ByteArray×List Dv×Int×Int×Int×List (Int×Int))) (mode:Int) (i:Nat) (hi:i<f1.length) (ls:List (Int×Int)) (hls:ls.length≤2*i) (x:Dv) (eg:f1[i]? =some x) (h1:OkD f0.length x) (h2:x.1=102):
  qi k rec mode ls.length (i:Int) f0 f1 f2 f3 f4 ls=rec mode (ls++tsI (edR mode x)).length ((i+1:Nat):Int) f0 f1 f2 f3 f4 (ls++tsI (edR mode x)):=by
 have g0:=(h1.at (i:=0) (by have:=h1.two;omega)).1
 have g1:=(h1.at (i:=1) (by have:=h1.two;omega)).1
 have w1:IntKind.i64.wrap ((i:Int)+1)=((i+1:Nat):Int):=by rw [qe (by omega)];omega
 have hE:tsI (edR mode x)= []:=by
  unfold edR
  rw [if_pos (by omega),if_neg (by omega)];rfl
 rw [hE]
 have q1:∀(m:List (Int×Int)) (p:Int×Int),m.length≤2*i+1→(m.length+(List.take 1 [p]).length)*16≤140737488355328:=fun m p h=>by
  have:(List.take 1 [p]).length=1:=rfl
  omega
 have q2:∀p:Int×Int,ls.length+(List.take 1 [p]).length=(ls++ [p]).length:=fun p=>by rw [List.length_append];rfl
 have q3:∀p:Int×Int,List.take ls.length ls++List.take 1 [p]=ls++ [p]:=fun p=>by rw [List.take_length];rfl
 unfold qi
 rw [if_pos (by rw [decide_eq_true_eq];omega),if_pos (by omega),Int.toNat_natCast,eg,Option.bind_some]
 repeat (first | rw [if_pos (by rw [h2];decide)] | rw [if_neg (by rw [h2];decide)]  | rw [g0,Option.bind_some,g1,Option.bind_some,if_pos (Nat.le_refl _),if_pos (q1 ls _ (by omega)),q2,q3])
 rw [w1]
 rw [List.append_nil]
theorem qy6 (k:Nat) (rec:Int→Nat→Int→List ByteArray→List Dv→Int→Int→Int→List (Int×Int)→Option (Nat×List ByteArray×List Dv×Int×Int×Int×List (Int×Int))) (mode:Int) (i:Nat) (hi:i<f1.length) (ls:List (Int×Int)) (hls:ls.length≤2*i) (x:Dv) (eg:f1[i]? =some x) (h1:OkD f0.length x) (h2:x.1=99) (hm:mode=2):
  qi k rec mode ls.length (i:Int) f0 f1 f2 f3 f4 ls=rec mode (ls++tsI (edR mode x)).length ((i+1:Nat):Int) f0 f1 f2 f3 f4 (ls++tsI (edR mode x)):=by
 have g0:=(h1.at (i:=0) (by have:=h1.two;omega)).1
 have g1:=(h1.at (i:=1) (by have:=h1.two;omega)).1
 have w1:IntKind.i64.wrap ((i:Int)+1)=((i+1:Nat):Int):=by rw [qe (by omega)];omega
 have hE:tsI (edR mode x)= [(((nd x 0:Nat):Int),((nd x 1:Nat):Int))]:=by
  unfold edR
  rw [if_neg (by omega),if_neg (by omega)];rfl
 rw [hE]
 have q1:∀(m:List (Int×Int)) (p:Int×Int),m.length≤2*i+1→(m.length+(List.take 1 [p]).length)*16≤140737488355328:=fun m p h=>by
  have:(List.take 1 [p]).length=1:=rfl
  omega
 have q2:∀p:Int×Int,ls.length+(List.take 1 [p]).length=(ls++ [p]).length:=fun p=>by rw [List.length_append];rfl
 have q3:∀p:Int×Int,List.take ls.length ls++List.take 1 [p]=ls++ [p]:=fun p=>by rw [List.take_length];rfl
 unfold qi
 rw [if_pos (by rw [decide_eq_true_eq];omega),if_pos (by omega),Int.toNat_natCast,eg,Option.bind_some]
 repeat (first | rw [if_pos (by rw [h2];decide)] | rw [if_neg (by rw [h2];decide)] | rw [if_pos (by rw [hm];decide)] | rw [g0,Option.bind_some,g1,Option.bind_some,if_pos (Nat.le_refl _),if_pos (q1 ls _ (by omega)),q2,q3])
 rw [w1]
theorem qy7 (k:Nat) (rec:Int→Nat→Int→List ByteArray→List Dv→Int→Int→Int→List (Int×Int)→Option (Nat×List ByteArray×List Dv×Int×Int×Int×List (Int×Int))) (mode:Int) (i:Nat) (hi:i<f1.length) (ls:List (Int×Int)) (hls:ls.length≤2*i) (x:Dv) (eg:f1[i]? =some x) (h1:OkD f0.length x) (h2:x.1=99) (hm:mode≠2):
  qi k rec mode ls.length (i:Int) f0 f1 f2 f3 f4 ls=rec mode (ls++tsI (edR mode x)).length ((i+1:Nat):Int) f0 f1 f2 f3 f4 (ls++tsI (edR mode x)):=by
 have g0:=(h1.at (i:=0) (by have:=h1.two;omega)).1
 have g1:=(h1.at (i:=1) (by have:=h1.two;omega)).1
 have w1:IntKind.i64.wrap ((i:Int)+1)=((i+1:Nat):Int):=by rw [qe (by omega)];omega
 have hE:tsI (edR mode x)= []:=by
  unfold edR
  rw [if_pos (by omega),if_neg (by omega)];rfl
 rw [hE]
 have q1:∀(m:List (Int×Int)) (p:Int×Int),m.length≤2*i+1→(m.length+(List.take 1 [p]).length)*16≤140737488355328:=fun m p h=>by
  have:(List.take 1 [p]).length=1:=rfl
  omega
 have q2:∀p:Int×Int,ls.length+(List.take 1 [p]).length=(ls++ [p]).length:=fun p=>by rw [List.length_append];rfl
 have q3:∀p:Int×Int,List.take ls.length ls++List.take 1 [p]=ls++ [p]:=fun p=>by rw [List.take_length];rfl
 unfold qi
 rw [if_pos (by rw [decide_eq_true_eq];omega),if_pos (by omega),Int.toNat_natCast,eg,Option.bind_some]
 repeat (first | rw [if_pos (by rw [h2];decide)] | rw [if_neg (by rw [h2];decide)] | rw [if_neg (by rw [beq_iff_eq];exact hm)] | rw [g0,Option.bind_some,g1,Option.bind_some,if_pos (Nat.le_refl _),if_pos (q1 ls _ (by omega)),q2,q3])
 rw [w1]
 rw [List.append_nil]
theorem qy8 (k:Nat) (rec:Int→Nat→Int→List ByteArray→List Dv→Int→Int→Int→List (Int×Int)→Option (Nat×List ByteArray×List Dv×Int×Int×Int×List (Int×Int))) (mode:Int) (i:Nat) (hi:i<f1.length) (ls:List (Int×Int)) (hls:ls.length≤2*i) (x:Dv) (eg:f1[i]? =some x) (h1:OkD f0.length x) (h2:x.1=101):
  qi k rec mode ls.length (i:Int) f0 f1 f2 f3 f4 ls=rec mode (ls++tsI (edR mode x)).length ((i+1:Nat):Int) f0 f1 f2 f3 f4 (ls++tsI (edR mode x)):=by
 have g0:=(h1.at (i:=0) (by have:=h1.two;omega)).1
 have g1:=(h1.at (i:=1) (by have:=h1.two;omega)).1
 have h4:=h1.four (by rw [qfb];change x.1.toNat.toUInt8∈ [(101:UInt8),103,116];rw [h2];decide)
 have g2:=(h1.at (i:=2) (by omega)).1
 have g3:=(h1.at (i:=3) (by omega)).1
 have w1:IntKind.i64.wrap ((i:Int)+1)=((i+1:Nat):Int):=by rw [qe (by omega)];omega
 have hE:tsI (edR mode x)= [(((nd x 0:Nat):Int),((nd x 1:Nat):Int)),(((nd x 2:Nat):Int),((nd x 3:Nat):Int))]:=by
  unfold edR
  rw [if_neg (by omega),if_pos (by omega)];rfl
 rw [hE]
 have q1:∀(m:List (Int×Int)) (p:Int×Int),m.length≤2*i+1→(m.length+(List.take 1 [p]).length)*16≤140737488355328:=fun m p h=>by
  have:(List.take 1 [p]).length=1:=rfl
  omega
 have q2:∀p:Int×Int,ls.length+(List.take 1 [p]).length=(ls++ [p]).length:=fun p=>by rw [List.length_append];rfl
 have q3:∀p:Int×Int,List.take ls.length ls++List.take 1 [p]=ls++ [p]:=fun p=>by rw [List.take_length];rfl
 unfold qi
 rw [if_pos (by rw [decide_eq_true_eq];omega),if_pos (by omega),Int.toNat_natCast,eg,Option.bind_some]
 repeat (first | rw [if_pos (by rw [h2];decide)] | rw [if_neg (by rw [h2];decide)]  | rw [g0,Option.bind_some,g1,Option.bind_some,if_pos (Nat.le_refl _),if_pos (q1 ls _ (by omega)),q2,q3] | rw [g2,Option.bind_some,g3,Option.bind_some,if_pos (Nat.le_refl _),if_pos (q1 (ls++ [(((nd x 0:Nat):Int),((nd x 1:Nat):Int))]) _ (by rw [List.length_append,List.length_singleton];omega)),List.take_length])
 rw [w1]
 rw [show ls++ [(((nd x 0:Nat):Int),((nd x 1:Nat):Int)),(((nd x 2:Nat):Int),((nd x 3:Nat):Int))]=(ls++ [(((nd x 0:Nat):Int),((nd x 1:Nat):Int))])++ [(((nd x 2:Nat):Int),((nd x 3:Nat):Int))] from by rw [List.append_assoc];rfl,show(ls++ [(((nd x 0:Nat):Int),((nd x 1:Nat):Int))]++ [(((nd x 2:Nat):Int),((nd x 3:Nat):Int))]).length=(ls++ [(((nd x 0:Nat):Int),((nd x 1:Nat):Int))]).length+(List.take 1 [(((nd x 2:Nat):Int),((nd x 3:Nat):Int))]).length from by rw [List.length_append];rfl]<;>rfl
theorem qy9 (k:Nat) (rec:Int→Nat→Int→List ByteArray→List Dv→Int→Int→Int→List (Int×Int)→Option (Nat×List ByteArray×List Dv×Int×Int×Int×List (Int×Int))) (mode:Int) (i:Nat) (hi:i<f1.length) (ls:List (Int×Int)) (hls:ls.length≤2*i) (x:Dv) (eg:f1[i]? =some x) (h1:OkD f0.length x) (h2:x.1=116):
  qi k rec mode ls.length (i:Int) f0 f1 f2 f3 f4 ls=rec mode (ls++tsI (edR mode x)).length ((i+1:Nat):Int) f0 f1 f2 f3 f4 (ls++tsI (edR mode x)):=by
 have g0:=(h1.at (i:=0) (by have:=h1.two;omega)).1
 have g1:=(h1.at (i:=1) (by have:=h1.two;omega)).1
 have h4:=h1.four (by rw [qfb];change x.1.toNat.toUInt8∈ [(101:UInt8),103,116];rw [h2];decide)
 have g2:=(h1.at (i:=2) (by omega)).1
 have g3:=(h1.at (i:=3) (by omega)).1
 have w1:IntKind.i64.wrap ((i:Int)+1)=((i+1:Nat):Int):=by rw [qe (by omega)];omega
 have hE:tsI (edR mode x)= [(((nd x 0:Nat):Int),((nd x 1:Nat):Int)),(((nd x 2:Nat):Int),((nd x 3:Nat):Int))]:=by
  unfold edR
  rw [if_neg (by omega),if_pos (by omega)];rfl
 rw [hE]
 have q1:∀(m:List (Int×Int)) (p:Int×Int),m.length≤2*i+1→(m.length+(List.take 1 [p]).length)*16≤140737488355328:=fun m p h=>by
  have:(List.take 1 [p]).length=1:=rfl
  omega
 have q2:∀p:Int×Int,ls.length+(List.take 1 [p]).length=(ls++ [p]).length:=fun p=>by rw [List.length_append];rfl
 have q3:∀p:Int×Int,List.take ls.length ls++List.take 1 [p]=ls++ [p]:=fun p=>by rw [List.take_length];rfl
 unfold qi
 rw [if_pos (by rw [decide_eq_true_eq];omega),if_pos (by omega),Int.toNat_natCast,eg,Option.bind_some]
 repeat (first | rw [if_pos (by rw [h2];decide)] | rw [if_neg (by rw [h2];decide)]  | rw [g0,Option.bind_some,g1,Option.bind_some,if_pos (Nat.le_refl _),if_pos (q1 ls _ (by omega)),q2,q3] | rw [g2,Option.bind_some,g3,Option.bind_some,if_pos (Nat.le_refl _),if_pos (q1 (ls++ [(((nd x 0:Nat):Int),((nd x 1:Nat):Int))]) _ (by rw [List.length_append,List.length_singleton];omega)),List.take_length])
 rw [w1]
 rw [show ls++ [(((nd x 0:Nat):Int),((nd x 1:Nat):Int)),(((nd x 2:Nat):Int),((nd x 3:Nat):Int))]=(ls++ [(((nd x 0:Nat):Int),((nd x 1:Nat):Int))])++ [(((nd x 2:Nat):Int),((nd x 3:Nat):Int))] from by rw [List.append_assoc];rfl,show(ls++ [(((nd x 0:Nat):Int),((nd x 1:Nat):Int))]++ [(((nd x 2:Nat):Int),((nd x 3:Nat):Int))]).length=(ls++ [(((nd x 0:Nat):Int),((nd x 1:Nat):Int))]).length+(List.take 1 [(((nd x 2:Nat):Int),((nd x 3:Nat):Int))]).length from by rw [List.length_append];rfl]<;>rfl
theorem qza (k:Nat) (rec:Int→Nat→Int→List ByteArray→List Dv→Int→Int→Int→List (Int×Int)→Option (Nat×List ByteArray×List Dv×Int×Int×Int×List (Int×Int))) (mode:Int) (i:Nat) (hi:i<f1.length) (ls:List (Int×Int)) (hls:ls.length≤2*i) (x:Dv) (eg:f1[i]? =some x) (h1:OkD f0.length x) (h2:x.1=103):
  qi k rec mode ls.length (i:Int) f0 f1 f2 f3 f4 ls=rec mode (ls++tsI (edR mode x)).length ((i+1:Nat):Int) f0 f1 f2 f3 f4 (ls++tsI (edR mode x)):=by
 have g0:=(h1.at (i:=0) (by have:=h1.two;omega)).1
 have g1:=(h1.at (i:=1) (by have:=h1.two;omega)).1
 have h4:=h1.four (by rw [qfb];change x.1.toNat.toUInt8∈ [(101:UInt8),103,116];rw [h2];decide)
 have g2:=(h1.at (i:=2) (by omega)).1
 have g3:=(h1.at (i:=3) (by omega)).1
 have w1:IntKind.i64.wrap ((i:Int)+1)=((i+1:Nat):Int):=by rw [qe (by omega)];omega
 have hE:tsI (edR mode x)= [(((nd x 2:Nat):Int),((nd x 3:Nat):Int))]:=by
  unfold edR
  rw [if_pos (by omega),if_pos (by omega)];rfl
 rw [hE]
 have q1:∀(m:List (Int×Int)) (p:Int×Int),m.length≤2*i+1→(m.length+(List.take 1 [p]).length)*16≤140737488355328:=fun m p h=>by
  have:(List.take 1 [p]).length=1:=rfl
  omega
 have q2:∀p:Int×Int,ls.length+(List.take 1 [p]).length=(ls++ [p]).length:=fun p=>by rw [List.length_append];rfl
 have q3:∀p:Int×Int,List.take ls.length ls++List.take 1 [p]=ls++ [p]:=fun p=>by rw [List.take_length];rfl
 unfold qi
 rw [if_pos (by rw [decide_eq_true_eq];omega),if_pos (by omega),Int.toNat_natCast,eg,Option.bind_some]
 repeat (first | rw [if_pos (by rw [h2];decide)] | rw [if_neg (by rw [h2];decide)]  | rw [g0,Option.bind_some,g1,Option.bind_some,if_pos (Nat.le_refl _),if_pos (q1 ls _ (by omega)),q2,q3] | rw [g2,Option.bind_some,g3,Option.bind_some,if_pos (Nat.le_refl _),if_pos (q1 ls _ (by omega)),q2,q3])
 rw [w1]
variable (hd : ∀ d ∈ f1, OkD f0.length d ∧ qQ d.1 ≠ 0)
include hd
theorem qrS (k:Nat) (rec:Int→Nat→Int→List ByteArray→List Dv→Int→Int→Int→List (Int×Int)→Option (Nat×List ByteArray×List Dv×Int×Int×Int×List (Int×Int))) (mode:Int) (i:Nat) (hi:i<f1.length) (ls:List (Int×Int)) (hls:ls.length≤2*i):
  qi k rec mode ls.length (i:Int) f0 f1 f2 f3 f4 ls=rec mode (ls++tsI (edR mode f1[i])).length ((i+1:Nat):Int) f0 f1 f2 f3 f4 (ls++tsI (edR mode f1[i])):=by
 have eg:f1[i]? =some f1[i]:=List.getElem?_eq_getElem hi
 obtain⟨h1,h2⟩:=hd _ (List.getElem_mem hi)
 generalize f1[i]=x at eg h1 h2 ⊢
 rcases qiN h2 with e | e | e | e | e | e | e | e | e | e | e | e
 ·exact qyY f0 f1 f2 f3 f4 hl k rec mode i hi ls hls x eg h1 e
 ·by_cases hm:mode=2
  ·exact qy6 f0 f1 f2 f3 f4 hl k rec mode i hi ls hls x eg h1 e hm
  ·exact qy7 f0 f1 f2 f3 f4 hl k rec mode i hi ls hls x eg h1 e hm
 ·exact qyZ f0 f1 f2 f3 f4 hl k rec mode i hi ls hls x eg h1 e
 ·exact qy0 f0 f1 f2 f3 f4 hl k rec mode i hi ls hls x eg h1 e
 ·exact qy4 f0 f1 f2 f3 f4 hl k rec mode i hi ls hls x eg h1 e
 ·exact qy5 f0 f1 f2 f3 f4 hl k rec mode i hi ls hls x eg h1 e
 ·exact qy1 f0 f1 f2 f3 f4 hl k rec mode i hi ls hls x eg h1 e
 ·exact qy2 f0 f1 f2 f3 f4 hl k rec mode i hi ls hls x eg h1 e
 ·exact qy8 f0 f1 f2 f3 f4 hl k rec mode i hi ls hls x eg h1 e
 ·exact qza f0 f1 f2 f3 f4 hl k rec mode i hi ls hls x eg h1 e
 ·exact qy9 f0 f1 f2 f3 f4 hl k rec mode i hi ls hls x eg h1 e
 ·exact qy3 f0 f1 f2 f3 f4 hl k rec mode i hi ls hls x eg h1 e
theorem qrT (mode:Int):∀(d i:Nat) (ls:List (Int×Int)),i+d=f1.length→ls.length≤2*i→
  Rl (fun k q=>qbB k q mode ls.length (i:Int) f0 f1 f2 f3 f4 ls) ((ls++tsI ((f1.drop i).flatMap (edR mode))).length,f0,f1,f2,f3,f4,ls++tsI ((f1.drop i).flatMap (edR mode))):=by
 intro d
 induction d with
 | zero=>
  intro i ls e h
  refine Rl.up (f:=fun k q=>qbB k q mode ls.length (i:Int) f0 f1 f2 f3 f4 ls) ?_
  show Rl (fun k q=>qi k (qbB k q) _ _ _ _ _ _ _ _ _) _
  unfold qi
  rw [List.drop_eq_nil_of_le (by omega),List.flatMap_nil]
  change Rl _ ((ls++ []).length,f0,f1,f2,f3,f4,ls++ [])
  rw [List.append_nil]
  exact Rl.f (by rw [decide_eq_true_eq];omega) (Rl.pure _)
 | succ d ih=>
  intro i ls e h
  have hi:i<f1.length:=by omega
  have hlen:(tsI (edR mode f1[i])).length≤2:=by unfold edR tsI;(repeat' split)<;>simp
  have:=ih (i+1) (ls++tsI (edR mode f1[i])) (by omega) (by rw [List.length_append];omega)
  rw [List.drop_eq_getElem_cons hi,List.flatMap_cons,qkY,←List.append_assoc]
  refine Rl.up (f:=fun k q=>qbB k q mode ls.length (i:Int) f0 f1 f2 f3 f4 ls) ?_
  show Rl (fun k q=>qi k (qbB k q) _ _ _ _ _ _ _ _ _) _
  simp only [qrS f0 f1 f2 f3 f4 hl hd _ _ mode i hi ls h]
  exact this
end
theorem qtq {n:Nat} (hn:n≤1000000000) (rt:Nat→Nat):∀(d i:Nat),i+d=n→
  Rl (fun k q=>qa3 k q n (flo rt i).length (i:Int) (blB n fun v=>decide (rt v=rt 0)) (flo rt i)) ((flo rt n).length,(blB n fun v=>decide (rt v=rt 0)),flo rt n):=by
 intro d
 induction d with
 | zero=>
  intro i e
  obtain rfl:i=n:=by omega
  refine Rl.up (f:=fun k q=>qa3 k q i (flo rt i).length (i:Int) (blB i fun v=>decide (rt v=rt 0)) (flo rt i)) ?_
  show Rl (fun k q=>qce k (qa3 k q) _ _ _ _ _) _
  unfold qce
  exact Rl.f (by rw [decide_eq_true_eq];omega) (Rl.pure _)
 | succ d ih=>
  intro i e
  have hi:i<n:=by omega
  have:=ih (i+1) (by omega)
  have hfl:=qjx rt i
  have w1:IntKind.i64.wrap ((i:Int)+1)=((i+1:Nat):Int):=by rw [qe (by omega)];omega
  refine Rl.up (f:=fun k q=>qa3 k q n (flo rt i).length (i:Int) (blB n fun v=>decide (rt v=rt 0)) (flo rt i)) ?_
  show Rl (fun k q=>qce k (qa3 k q) _ _ _ _ _) _
  unfold qce
  simp only [w1]
  refine Rl.t (by rw [decide_eq_true_eq];omega) (Rl.t (by omega) (Rl.at (x:=decide (rt i=rt 0)) (by rw [Nat.zero_add,Int.toNat_natCast];exact qgn _ hi) ?_))
  rw [flo] at this
  by_cases c:rt i=rt 0
  ·rw [if_pos c] at this
   exact Rl.f (by simp [c]) this
  ·rw [if_neg c] at this
   refine Rl.t (by simp [c]) (Rl.t (Nat.le_refl _) (Rl.t (by simp only [List.take_succ_cons,List.take_zero,List.length_singleton];omega) ?_))
   rw [List.take_length]
   rw [List.length_append] at this
   exact this
theorem qnM {α β:Type} {f g:α→List β}:∀(l:List α),(∀d∈l,f d=g d)→l.flatMap f=l.flatMap g
 | [],_=>rfl
 | d::l,h=>by rw [List.flatMap_cons,List.flatMap_cons,h d (List.mem_cons_self ..),qnM l fun x hx=>h x (List.mem_cons_of_mem _ hx)]
theorem qrU {n:Nat} (f1:List Dv) {mode:Int} (hm:mode=1∨mode=2) (h:∀d∈f1,OkD n d∧qQ d.1≠0):(f1.flatMap (edR mode)).foldl J id=flR (if mode=2 then qg0 else bOp) f1:=by
 unfold flR
 rw [qiJ]
 congr 1
 exact qnM _ fun d hd=>qvq hm (h d hd).2
theorem qzb {n:Nat} {mode:Int} {d:Dv} (h:OkD n d):∀p∈edR mode d,p.1<n∧p.2<n:=by
 have t0:=(h.at (i:=0) (by have:=h.two;omega)).2
 have t1:=(h.at (i:=1) (by have:=h.two;omega)).2
 intro p hp
 unfold edR at hp
 rcases List.mem_append.1 hp with hp | hp
 ·split at hp
  ·cases hp
  ·rw [List.mem_singleton] at hp;subst hp;exact⟨t0,t1⟩
 ·split at hp
  ·rename_i e
   have h4:=h.four (by rw [qfb];change d.1.toNat.toUInt8∈ [(101:UInt8),103,116];rcases e with e | e | e<;>rw [e]<;>decide)
   rw [List.mem_singleton] at hp;subst hp
   exact⟨(h.at (i:=2) (by omega)).2,(h.at (i:=3) (by omega)).2⟩
  ·cases hp
section
variable (f0 : List ByteArray) (f1 : List Dv) (f2 f3 f4 : Int) (g : Gd f0 f1)
include g
theorem qjM (mode:Int):Rn (fun k=>qde k f0 f1 f2 f3 f4 mode) (qct (chk f0 f1 f2 f3 f4) mode):=by
 have hr:=qrR f0 f1 f2 f3 f4 g
 generalize chk f0 f1 f2 f3 f4=c at hr
 refine Rn.up (f:=fun k=>qde k f0 f1 f2 f3 f4 mode) ?_
 show Rn (fun k=>qfD k f0 f1 f2 f3 f4 mode) _
 unfold qfD
 refine Rn.bind hr ?_
 by_cases c0:c=0
 ·refine Rn.t (by simp [c0]) ?_
  by_cases m1:mode=1
  ·rw [qiM c0 (.inl m1)]
   exact Rn.f (by simp [m1]) (Rn.const (by rw [c0]))
  ·refine Rn.t (by simp [m1]) ?_
   by_cases m2:mode=2
   ·rw [qiM c0 (.inr m2)]
    exact Rn.f (by simp [m2]) (Rn.const (by rw [c0]))
   ·rw [qi9 c0 (by omega)]
    exact Rn.t (by simp [m2]) (Rn.pure _)
 ·rw [qkg c0]
  exact Rn.f (by simp [c0]) (Rn.pure _)
theorem qrV (h:chk f0 f1 f2 f3 f4=0):f1.length≤1000000000∧1≤f0.length∧f0.length≤1000000000∧∀d∈f1,OkD f0.length d∧qQ d.1≠0:=by
 obtain⟨h1,h2,h3,h4⟩:=qlg g (f2:=f2) (f3:=f3) (f4:=f4) h
 refine⟨h3,h1,h2,fun d hd=>⟨h4 d hd,fun e=> ?_⟩⟩
 have hb:=qnH h
 unfold qex at hb
 simp only [Bool.and_eq_true,List.all_eq_true] at hb
 have:=hb.1.2 d hd
 unfold qeU okR at this
 simp only [Bool.and_eq_true,decide_eq_true_eq] at this
 obtain⟨⟨⟨⟨q1,q2⟩,q3⟩,q4⟩,q5⟩:=this
 simp_all
theorem qja (mode:Int):Rn (fun k=>qcV k f0 f1 f2 f3 f4 mode) (qgG f0 f1 (chk f0 f1 f2 f3 f4) mode,qct (chk f0 f1 f2 f3 f4) mode):=by
 have hf:=qjM f0 f1 f2 f3 f4 g mode
 have hk:=qrV f0 f1 f2 f3 f4 g
 generalize chk f0 f1 f2 f3 f4=c at hf hk
 refine Rn.up (f:=fun k=>qcV k f0 f1 f2 f3 f4 mode) ?_
 show Rn (fun k=>qe8 k f0 f1 f2 f3 f4 mode) _
 unfold qe8
 refine Rn.bind hf ?_
 by_cases he:qct c mode=0
 rotate_left
 ·rw [show qgG f0 f1 c mode= [] from if_neg he]
  exact Rn.t (by simp [he]) (Rn.pure _)
 obtain⟨c0,hm⟩:=qho he
 obtain⟨k1,k2,k3,k4⟩:=hk c0
 refine Rn.f (by simp [he]) ?_
 have ht:Rn (fun k=>qev k f0 f1 f2 f3 f4 mode) (tsI (f1.flatMap (edR mode))):=by
  refine Rn.up (f:=fun k=>qev k f0 f1 f2 f3 f4 mode) ?_
  show Rn (fun k=>qgb k f0 f1 f2 f3 f4 mode) _
  unfold qgb
  have:=qrT f0 f1 f2 f3 f4 k1 k4 mode f1.length 0 [] (by omega) (by simp)
  refine Rn.bind this.diag ?_
  simp only [List.drop_zero,List.nil_append,List.take_length,Nat.zero_add]
  exact Rn.t (Nat.le_refl _) (Rn.pure _)
 have hlt:∀p∈f1.flatMap (edR mode),p.1<f0.length∧p.2<f0.length:=by
  intro p hp
  obtain⟨d,hd,hp⟩:=List.mem_flatMap.1 hp
  exact qzb (k4 d hd).1 p hp
 have hlen:(f1.flatMap (edR mode)).length≤1000000000000:=by
  have:∀l:List Dv,(l.flatMap (edR mode)).length≤2*l.length:=by
   intro l
   induction l with
   | nil=>exact Nat.le_refl _
   | cons d l ih=>
    rw [List.flatMap_cons,List.length_append,List.length_cons]
    have:(edR mode d).length≤2:=by unfold edR;(repeat' split)<;>simp
    omega
  have:=this f1
  omega
 have hfr:=qoV (f1.flatMap (edR mode)) hlen hlt k3 (at1:=0) (by omega)
 rw [qrU f1 hm k4] at hfr
 have h8:=qtq k3 (flR (if mode=2 then qg0 else bOp) f1) f0.length 0 (by omega)
 rw [show qgG f0 f1 c mode=flo (flR (if mode=2 then qg0 else bOp) f1) f0.length from if_pos he]
 refine Rn.bind ht (Rn.bind hfr (Rn.bind h8.diag ?_))
 refine Rn.t (by simp) (Rn.const ?_)
 rw [List.take_length,he]
end
theorem qqi (a:List ByteArray) (ha:a.length≤1000000000):Rn (fun k=>qd0 k a a) true:=by
 have loop:∀(d i:Nat),i+d=a.length→Rl (fun k q=>qbr k q a a (i:Int)) (.inr ()):=by
  intro d
  induction d with
  | zero=>
   intro i e
   refine Rl.up (f:=fun k q=>qbr k q a a (i:Int)) ?_
   show Rl (fun k q=>qcr k (qbr k q) _ _ _) _
   unfold qcr
   exact Rl.f (by rw [decide_eq_true_eq];omega) (Rl.pure _)
  | succ d ih=>
   intro i e
   have hi:i<a.length:=by omega
   have:=ih (i+1) (by omega)
   have w1:IntKind.i64.wrap ((i:Int)+1)=((i+1:Nat):Int):=by rw [qe (by omega)];omega
   refine Rl.up (f:=fun k q=>qbr k q a a (i:Int)) ?_
   show Rl (fun k q=>qcr k (qbr k q) _ _ _) _
   unfold qcr
   rw [w1]
   have eg:a[Int.toNat (i:Int)]? =some a[i]:=by rw [Int.toNat_natCast];exact List.getElem?_eq_getElem hi
   exact Rl.t (by rw [decide_eq_true_eq];omega) (Rl.t (by omega) (Rl.at eg (Rl.t (by omega) (Rl.at eg (Rl.f (by simp) this)))))
 refine Rn.up (f:=fun k=>qd0 k a a) ?_
 show Rn (fun k=>qfG k a a) _
 unfold qfG
 exact Rn.f (by simp) (Rn.bind (loop a.length 0 (by omega)).diag (Rn.pure _))
theorem qqj {d:Dv} (h:GoodD d):Rn (fun k=>qdD k d.1 d.2.1 d.2.2.1 d.2.2.2.1 d.2.2.2.2.1.1 d.2.2.2.2.1.2 d.2.2.2.2.2.1.1 d.2.2.2.2.2.1.2.1 d.2.2.2.2.2.1.2.2 d.2.2.2.2.2.2.1 d.2.2.2.2.2.2.2.1 d.2.2.2.2.2.2.2.2.1 d.2.2.2.2.2.2.2.2.2 d.1 d.2.1 d.2.2.1 d.2.2.2.1 d.2.2.2.2.1.1 d.2.2.2.2.1.2 d.2.2.2.2.2.1.1 d.2.2.2.2.2.1.2.1 d.2.2.2.2.2.1.2.2 d.2.2.2.2.2.2.1 d.2.2.2.2.2.2.2.1 d.2.2.2.2.2.2.2.2.1 d.2.2.2.2.2.2.2.2.2) true:=by
 have a2:=h.nd
 have a3:=h.wv
 have a4:=h.ws
 have a6:=h.mg
 have a7:=h.mv
 obtain⟨k0,nm,nds,rf,⟨v0,v1⟩,⟨w0,w1,w2⟩,m0,m1,m2,m3⟩:=d
 simp only [] at a2 a3 a4 a6 a7 ⊢
 refine Rn.up (f:=fun k=>qdD k k0 nm nds rf v0 v1 w0 w1 w2 m0 m1 m2 m3 k0 nm nds rf v0 v1 w0 w1 w2 m0 m1 m2 m3) ?_
 show Rn (fun k=>qeR k _ _ _ _ _ _ _ _ _ _ _ _ _ _ _ _ _ _ _ _ _ _ _ _ _ _) _
 unfold qeR
 have h1:=qlh nds nds (by omega)
 have h2:=qnJ w0 w1 w2 w0 w1 w2 (by omega) (by omega)
 have h3:=qnK m0 m1 m2 m3 m0 m1 m2 m3 (by omega) (by omega)
 simp only [and_self,decide_true] at h1 h2 h3
 exact Rn.t (by simp) (Rn.t (by simp) (Rn.bind h1 (Rn.t rfl (Rn.t (by simp) (Rn.t (by simp) (Rn.t (by simp) (Rn.bind h2 (Rn.t rfl (Rn.bind h3 (Rn.pure _))))))))))
theorem qrW (f0:List ByteArray) (f1:List Dv) (f2 f3 f4:Int) (hl:f1.length≤1000000000) (h0:f0.length≤1000000000) (hd:∀d∈f1,OkD f0.length d) (mode:Int):∀(d i:Nat) (ls:List Int) (tl:List (Nat×Nat)),i+d=f1.length→ls.length≤i→tl.length≤i→(∀p∈tl,p.1<f0.length∧p.2<f0.length)→
  ∃tt,Rl (fun k q=>qB k q mode ls.length (tsI tl).length (i:Int) f0 f1 f2 f3 f4 ls (tsI tl)) ((ls++lps mode (f1.drop i) i (tl.foldl J id)).length,f0,f1,f2,f3,f4,ls++lps mode (f1.drop i) i (tl.foldl J id),tt):=by
 intro d
 induction d with
 | zero=>
  intro i ls tl e h1 h2 h3
  refine⟨tsI tl,Rl.up (f:=fun k q=>qB k q mode ls.length (tsI tl).length (i:Int) f0 f1 f2 f3 f4 ls (tsI tl)) ?_⟩
  show Rl (fun k q=>qa4 k (qB k q) _ _ _ _ _ _ _ _ _ _ _) _
  unfold qa4
  rw [List.drop_eq_nil_of_le (by omega),lps,List.append_nil]
  exact Rl.f (by rw [decide_eq_true_eq];omega) (Rl.pure _)
 | succ d ih=>
  intro i ls tl e h1 h2 h3
  have hi:i<f1.length:=by omega
  have hx:=hd _ (List.getElem_mem hi)
  have w1:IntKind.i64.wrap ((i:Int)+1)=((i+1:Nat):Int):=by rw [qe (by omega)];omega
  have eg:f1[Int.toNat (i:Int)]? =some f1[i]:=by rw [Int.toNat_natCast];exact List.getElem?_eq_getElem hi
  rw [List.drop_eq_getElem_cons hi,lps]
  generalize f1[i]=x at hx eg
  obtain⟨e0,n0⟩:=hx.at (i:=0) (by have:=hx.two;omega)
  obtain⟨e1,n1⟩:=hx.at (i:=1) (by have:=hx.two;omega)
  have hlt:(tsI tl).length=tl.length:=by simp [tsI]
  by_cases lk:LK mode x
  rotate_left
  ·rw [if_neg lk]
   obtain⟨tt,ht⟩:=ih (i+1) ls tl (by omega) (by omega) (by omega) h3
   refine⟨tt,Rl.up (f:=fun k q=>qB k q mode ls.length (tsI tl).length (i:Int) f0 f1 f2 f3 f4 ls (tsI tl)) ?_⟩
   show Rl (fun k q=>qa4 k (qB k q) _ _ _ _ _ _ _ _ _ _ _) _
   unfold qa4
   rw [w1]
   have c1:x.1≠118:=fun q=>lk (.inl q)
   refine Rl.t (by rw [decide_eq_true_eq];omega) (Rl.t (by omega) (Rl.at eg (Rl.t (by simp [c1]) ?_)))
   by_cases c2:x.1=108
   ·have c3:mode≠1:=fun q=>lk (.inr ⟨c2,q⟩)
    exact Rl.t (by simp [c2]) (Rl.t (by simp [c3]) ht)
   ·exact Rl.f (by simp [c2]) ht
  ·rw [if_pos lk]
   have hfr:=qoV tl (by omega) h3 h0 n0
   have h3':∀p∈tl++ [(nd x 0,nd x 1)],p.1<f0.length∧p.2<f0.length:=by
    intro p hp
    rcases List.mem_append.1 hp with hp | hp
    ·exact h3 p hp
    ·rw [List.mem_singleton] at hp;subst hp;exact⟨n0,n1⟩
   have hfold:(tl++ [(nd x 0,nd x 1)]).foldl J id=jn (tl.foldl J id) (nd x 0) (nd x 1):=by rw [List.foldl_append];rfl
   have hts:tsI (tl++ [(nd x 0,nd x 1)])=tsI tl++ [(((nd x 0:Nat):Int),((nd x 1:Nat):Int))]:=qkY _ _
   -- what follows
   have tail:∀ls2:List Int,ls2.length≤i+1→∃tt,Rl (fun k q=>qB k q mode ls2.length ((tsI tl).length+1) ((i+1:Nat):Int) f0 f1 f2 f3 f4 ls2 (tsI tl++ [(((nd x 0:Nat):Int),((nd x 1:Nat):Int))]))
     ((ls2++lps mode (f1.drop (i+1)) (i+1) (jn (tl.foldl J id) (nd x 0) (nd x 1))).length,f0,f1,f2,f3,f4,ls2++lps mode (f1.drop (i+1)) (i+1) (jn (tl.foldl J id) (nd x 0) (nd x 1)),tt):=by
    intro ls2 h4
    obtain⟨tt,ht⟩:=ih (i+1) ls2 (tl++ [(nd x 0,nd x 1)]) (by omega) h4 (by simp;omega) h3'
    rw [hfold,hts,List.length_append] at ht
    exact⟨tt,ht⟩
   have body:∀(r:Nat×List ByteArray×List Dv×Int×Int×Int×List Int×List (Int×Int)),
     (∀ls2:List Int,ls2=(if(tl.foldl J id) (nd x 1)=(tl.foldl J id) (nd x 0)then ls++ [(i:Int)] else ls)→
      Rl (fun k q=>qB k q mode ls2.length ((tsI tl).length+1) ((i+1:Nat):Int) f0 f1 f2 f3 f4 ls2 (tsI tl++ [(((nd x 0:Nat):Int),((nd x 1:Nat):Int))])) r)→
     Rl (fun k q=>qB k q mode ls.length (tsI tl).length (i:Int) f0 f1 f2 f3 f4 ls (tsI tl)) r:=by
    intro r hr
    have hr:=hr _ rfl
    refine Rl.up (f:=fun k q=>qB k q mode ls.length (tsI tl).length (i:Int) f0 f1 f2 f3 f4 ls (tsI tl)) ?_
    show Rl (fun k q=>qa4 k (qB k q) _ _ _ _ _ _ _ _ _ _ _) _
    unfold qa4
    simp only [w1,List.take_succ_cons,List.take_zero,List.length_singleton,List.length_cons,List.length_nil,Nat.zero_add,List.take_length]
    have hgx:(blB f0.length fun v=>decide (tl.foldl J id v=tl.foldl J id (nd x 0)))[Int.toNat ((nd x 1:Nat):Int)]? =some (decide (tl.foldl J id (nd x 1)=tl.foldl J id (nd x 0))):=by
     rw [Int.toNat_natCast];exact qgn _ n1
    have fin:Rl (fun k q=>(x.2.2.1[0]?).bind fun x1=>if(tsI tl).length≤(tsI tl).length then(qb5 k ((f0.length:Nat):Int) x1 (tsI tl)).bind fun r7=>(x.2.2.1[1]?).bind fun x2=>if(0:Int)≤x2∧x2<((r7.1:Nat):Int)then(r7.2[Int.toNat x2]?).bind fun x3=>
      if x3=true then(if ls.length≤ls.length then(if(ls.length+1)*8≤140737488355328 then(x.2.2.1[0]?).bind fun x4=>(x.2.2.1[1]?).bind fun x5=>if(tsI tl).length≤(tsI tl).length then(if((tsI tl).length+1)*16≤140737488355328 then qB k q mode (ls.length+1) ((tsI tl).length+1) ((i+1:Nat):Int) f0 f1 f2 f3 f4 (ls++ [(i:Int)]) (tsI tl++ [(x4,x5)])else none)else none else none)else none)
      else(x.2.2.1[0]?).bind fun x4=>(x.2.2.1[1]?).bind fun x5=>if(tsI tl).length≤(tsI tl).length then(if((tsI tl).length+1)*16≤140737488355328 then qB k q mode ls.length ((tsI tl).length+1) ((i+1:Nat):Int) f0 f1 f2 f3 f4 ls (tsI tl++ [(x4,x5)])else none)else none else none else none) r:=by
     refine Rl.at e0 (Rl.t (Nat.le_refl _) (Rl.bind hfr (Rl.at e1 (Rl.t (by simp only [];omega) (Rl.at hgx ?_)))))
     by_cases c:tl.foldl J id (nd x 1)=tl.foldl J id (nd x 0)
     ·rw [if_pos c,List.length_append] at hr
      exact Rl.t (by simp [c]) (Rl.t (Nat.le_refl _) (Rl.t (by omega) (Rl.at e0 (Rl.at e1 (Rl.t (Nat.le_refl _) (Rl.t (by omega) hr))))))
     ·rw [if_neg c] at hr
      exact Rl.f (by simp [c]) (Rl.at e0 (Rl.at e1 (Rl.t (Nat.le_refl _) (Rl.t (by omega) hr))))
    refine Rl.t (by rw [decide_eq_true_eq];omega) (Rl.t (by omega) (Rl.at eg ?_))
    by_cases c1:x.1=118
    ·exact Rl.f (by simp [c1]) fin
    ·have c2:x.1=108∧mode=1:=lk.resolve_left c1
     exact Rl.t (by simp [c1]) (Rl.t (by simp [c2.1]) (Rl.f (by simp [c2.2]) fin))
   by_cases c:tl.foldl J id (nd x 0)=tl.foldl J id (nd x 1)
   ·rw [if_pos c]
    obtain⟨tt,ht⟩:=tail (ls++ [(i:Int)]) (by simp;omega)
    rw [List.append_assoc,List.singleton_append] at ht
    exact⟨tt,body _ fun ls2 q=>by rw [q,if_pos c.symm];exact ht⟩
   ·rw [if_neg c]
    obtain⟨tt,ht⟩:=tail ls (by omega)
    exact⟨tt,body _ fun ls2 q=>by rw [q,if_neg (fun q=>c q.symm)];exact ht⟩
section
variable (f0 : List ByteArray) (f1 : List Dv) (f2 f3 f4 : Int) (g : Gd f0 f1)
include g
theorem qtr:Rn (fun k=>qew k f0 f1 f2 f3 f4 f0 f1 f2 f3 f4) true:=by
 have hl0:=g.l0
 have hl1:=g.l1
 have loop:∀(d i:Nat),i+d=f1.length→Rl (fun k q=>qbE k q (i:Int) f0 f1 f2 f3 f4 f0 f1 f2 f3 f4) (.inr (f0,f1,f2,f3,f4,f0,f1,f2,f3,f4)):=by
  intro d
  induction d with
  | zero=>
   intro i e
   refine Rl.up (f:=fun k q=>qbE k q (i:Int) f0 f1 f2 f3 f4 f0 f1 f2 f3 f4) ?_
   show Rl (fun k q=>qcA k (qbE k q) _ _ _ _ _ _ _ _ _ _ _) _
   unfold qcA
   exact Rl.f (by rw [decide_eq_true_eq];omega) (Rl.pure _)
  | succ d ih=>
   intro i e
   have hi:i<f1.length:=by omega
   have:=ih (i+1) (by omega)
   have w1:IntKind.i64.wrap ((i:Int)+1)=((i+1:Nat):Int):=by rw [qe (by omega)];omega
   refine Rl.up (f:=fun k q=>qbE k q (i:Int) f0 f1 f2 f3 f4 f0 f1 f2 f3 f4) ?_
   show Rl (fun k q=>qcA k (qbE k q) _ _ _ _ _ _ _ _ _ _ _) _
   unfold qcA
   rw [w1]
   have eg:f1[Int.toNat (i:Int)]? =some f1[i]:=by rw [Int.toNat_natCast];exact List.getElem?_eq_getElem hi
   exact Rl.t (by rw [decide_eq_true_eq];omega) (Rl.t (by omega) (Rl.at eg (Rl.t (by omega) (Rl.at eg (Rl.bind (qqj (g.dv _ (List.getElem_mem hi))) (Rl.f (by simp) this))))))
 refine Rn.up (f:=fun k=>qew k f0 f1 f2 f3 f4 f0 f1 f2 f3 f4) ?_
 show Rn (fun k=>qge k f0 f1 f2 f3 f4 f0 f1 f2 f3 f4) _
 unfold qge
 exact Rn.bind (qqi f0 (by omega)) (Rn.t rfl (Rn.t (by simp) (Rn.t (by simp) (Rn.t (by simp) (Rn.f (by simp) (Rn.bind (loop f1.length 0 (by omega)).diag (Rn.pure _)))))))
theorem qjN (mode:Int):Rn (fun k=>qdf k f0 f1 f2 f3 f4 mode) (qgH f1 (chk f0 f1 f2 f3 f4) mode,qct (chk f0 f1 f2 f3 f4) mode):=by
 have hf:=qjM f0 f1 f2 f3 f4 g mode
 have hk:=qrV f0 f1 f2 f3 f4 g
 generalize chk f0 f1 f2 f3 f4=c at hf hk
 refine Rn.up (f:=fun k=>qdf k f0 f1 f2 f3 f4 mode) ?_
 show Rn (fun k=>qfE k f0 f1 f2 f3 f4 mode) _
 unfold qfE
 refine Rn.bind hf ?_
 by_cases he:qct c mode=0
 rotate_left
 ·rw [show qgH f1 c mode= [] from if_neg he]
  exact Rn.t (by simp [he]) (Rn.pure _)
 obtain⟨c0,hm⟩:=qho he
 obtain⟨k1,k2,k3,k4⟩:=hk c0
 refine Rn.f (by simp [he]) ?_
 obtain⟨tt,ht⟩:=qrW f0 f1 f2 f3 f4 k1 k3 (fun d hd=>(k4 d hd).1) mode f1.length 0 [] [] (by omega) (by simp) (by simp) (fun p hp=>by cases hp)
 rw [show qgH f1 c mode=lps mode f1 0 id from if_pos he]
 refine Rn.bind ht.diag ?_
 refine Rn.t (by simp) (Rn.const ?_)
 simp only [List.nil_append,List.drop_zero,List.foldl_nil,List.take_length,he]
noncomputable def qnN (mode:Int):Int:=if qct (chk f0 f1 f2 f3 f4) mode≠0 then qct (chk f0 f1 f2 f3 f4) mode else if 0<(qgG f0 f1 (chk f0 f1 f2 f3 f4) mode).length then 100 else if 0<(qgH f1 (chk f0 f1 f2 f3 f4) mode).length then 101 else 0
theorem qof (mode:Int):Rn (fun k=>qdZ k f0 f1 f2 f3 f4 mode) (qnN f0 f1 f2 f3 f4 mode):=by
 have h1:=qja f0 f1 f2 f3 f4 g mode
 have h2:=qjN f0 f1 f2 f3 f4 g mode
 refine Rn.up (f:=fun k=>qdZ k f0 f1 f2 f3 f4 mode) ?_
 show Rn (fun k=>qfF k f0 f1 f2 f3 f4 mode) _
 unfold qfF
 unfold qnN
 generalize chk f0 f1 f2 f3 f4=c at h1 h2
 refine Rn.bind h1 ?_
 by_cases he:qct c mode=0
 rotate_left
 ·rw [if_pos he];exact Rn.t (by simp [he]) (Rn.pure _)
 rw [if_neg (by simp [he])]
 refine Rn.f (by simp [he]) ?_
 by_cases h:0<(qgG f0 f1 c mode).length
 ·rw [if_pos h];exact Rn.t (by rw [decide_eq_true_eq];simp only [];omega) (Rn.pure _)
 rw [if_neg h]
 refine Rn.f (by rw [decide_eq_true_eq];simp only [];omega) (Rn.bind h2 ?_)
 by_cases h:0<(qgH f1 c mode).length
 ·rw [if_pos h];exact Rn.t (by rw [decide_eq_true_eq];simp only [];omega) (Rn.pure _)
 ·rw [if_neg h];exact Rn.f (by rw [decide_eq_true_eq];simp only [];omega) (Rn.pure _)
theorem qqk (mode:Int):Rn (fun k=>qdV k f0 f1 f2 f3 f4 mode) (qnN f0 f1 f2 f3 f4 mode):=by
 have hc:=qlK f0 f1 f2 f3 f4 g
 have hk:=qlg g (f2:=f2) (f3:=f3) (f4:=f4)
 unfold qnN
 generalize chk f0 f1 f2 f3 f4=c at hc hk
 have h1:=qkX f0 f1 f2 f3 f4 c hc hk mode
 have h2:=qlM f0 f1 f2 f3 f4 c hc hk mode
 refine Rn.up (f:=fun k=>qdV k f0 f1 f2 f3 f4 mode) ?_
 show Rn (fun k=>qh3 k f0 f1 f2 f3 f4 mode) _
 unfold qh3
 refine Rn.bind h1 ?_
 by_cases he:qct c mode=0
 rotate_left
 ·rw [if_pos he];exact Rn.t (by simp [he]) (Rn.pure _)
 rw [if_neg (by simp [he])]
 refine Rn.f (by simp [he]) ?_
 by_cases h:0<(qgG f0 f1 c mode).length
 ·rw [if_pos h];exact Rn.t (by rw [decide_eq_true_eq];simp only [];omega) (Rn.pure _)
 rw [if_neg h]
 refine Rn.f (by rw [decide_eq_true_eq];simp only [];omega) (Rn.bind h2 ?_)
 by_cases h:0<(qgH f1 c mode).length
 ·rw [if_pos h];exact Rn.t (by rw [decide_eq_true_eq];simp only [];omega) (Rn.pure _)
 ·rw [if_neg h];exact Rn.f (by rw [decide_eq_true_eq];simp only [];omega) (Rn.pure _)
end
end Go.Proofs.YtlnailgfialgnaaGreatDoor.Am

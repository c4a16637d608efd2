/- qi reckoning: qbz, and which models are right. -/
import Derived.Test.YtlnailgfialgnaaGreatDoorMProbeDifferenceUpto1
import Derived.Lib.IndexLaws
import Derived.KernelRfl

set_option linter.unusedVariables false
set_option linter.unusedSectionVars false
set_option linter.unusedSimpArgs false
set_option maxRecDepth 10000
namespace Go.Proofs.YtlnailgfialgnaaGreatDoor.Am
open Go
def nmB (x:Int):Bool:=decide (97≤x∧x≤122∨48≤x∧x≤57∨x=95)
def byL (s:ByteArray):List Int:=s.data.toList.map fun b:UInt8=>((b.toNat:Nat):Int)
theorem qpc (s:ByteArray):(byL s).length=s.size:=by unfold byL;rw [List.length_map];exact Array.length_toList
def qdF (s:ByteArray):Bool:=(byL s).all nmB && decide (1≤s.size∧s.size≤16)
theorem qgP {l:List Int} {p:Int→Bool}:l.all p=true↔∀j,0≤j→j<l.length→p (l.getD j 0)=true:=by
 rw [List.all_eq_true]
 constructor
 ·intro h j _ hj
  have:=h (l[j]'hj) (List.getElem_mem hj)
  simpa [List.getD,hj] using this
 ·intro h x hx
  obtain⟨j,hj,rfl⟩:=List.mem_iff_getElem.1 hx
  have:=h j (Nat.zero_le _) hj
  simpa [List.getD,hj] using this
theorem qrU (l:List Int) (hl:l.length≤1000000000000000000):∃o,Rl (fun k n=>qbN k n l l.length 0) o∧((∀j,0≤j→j<l.length→nmB (l.getD j 0)=true)∧o= .inr ()∨(¬ ∀j,0≤j→j<l.length→nmB (l.getD j 0)=true)∧∃a:Bool,a=false∧o= .inl a):=by
 have key:∀(k:Nat) (rec:List Int→Int→Int→Option (Bool ⊕ Unit)) (i:Nat),i<l.length→qcz k rec l l.length i=if nmB (l.getD i 0)=true then rec l l.length ((i:Int)+1)else some (.inl false):=by
  intro k rec i hi
  unfold qcz nmB
  rw [if_pos (decide_eq_true (by omega)),if_pos (by omega),Int.toNat_natCast,getD_some 0 hi,qf (by omega)]
  simp only [Option.bind_some,decide_eq_true_eq,decide_eq_false_iff_not,Bool.not_eq_true',beq_eq_false_iff_ne]
  repeat' split
  all_goals first | rfl | (exfalso;omega)
 refine qdb l.length 0 (fun k n i=>qbN k n l l.length i) () (fun a=>a=false) (fun j=>nmB (l.getD j 0)=true) ?_ ?_ ?_ l.length 0 (by omega) (by omega)
 ·refine Rl.up (f:=fun k n=>qbN k n l l.length l.length) (Rl.of 0 fun k n _=> ?_)
  show qcz k (qbN k n) _ _ _=_
  unfold qcz
  exact if_neg (by simp)
 ·intro i hs hi hok o ho
  refine Rl.up (f:=fun k n=>qbN k n l l.length i) ?_
  show Rl (fun k n=>qcz k (qbN k n) _ _ _) _
  simp only [key _ _ i hi,hok,if_true]
  exact ho
 ·intro i hs hi hok
  refine⟨false,rfl,Rl.up (f:=fun k n=>qbN k n l l.length i) ?_⟩
  show Rl (fun k n=>qcz k (qbN k n) _ _ _) _
  simp only [key _ _ i hi,hok]
  exact Rl.pure _
theorem qpd (s:ByteArray) (hs:s.size≤1000000000000000000):Rn (fun k=>qfK k s) (qdF s):=by
 refine Rn.up (f:=fun k=>qfK k s) ?_
 show Rn (fun k=>qia k s) _
 unfold qia qdF
 by_cases h1:s.size<1
 ·refine Rn.f (by rw [decide_eq_false_iff_not];omega) ?_
  rw [show decide (1≤s.size∧s.size≤16)=false from decide_eq_false (by omega),Bool.and_false]
  exact Rn.pure _
 refine Rn.t (by rw [decide_eq_false_iff_not];omega) ?_
 by_cases h2:s.size>16
 ·refine Rn.t (decide_eq_true (by omega)) ?_
  rw [show decide (1≤s.size∧s.size≤16)=false from decide_eq_false (by omega),Bool.and_false]
  exact Rn.pure _
 refine Rn.f (by rw [decide_eq_true_eq];omega) ?_
 rw [show decide (1≤s.size∧s.size≤16)=true from decide_eq_true (by omega),Bool.and_true]
 obtain⟨o,h3,h4⟩:=qrU (byL s) (by rw [qpc];exact hs)
 refine Rn.bind h3.diag ?_
 rcases h4 with ⟨h4,rfl⟩ | ⟨h4,a,rfl,rfl⟩
 ·rw [qgP.2 h4];exact Rn.pure _
 ·rw [Bool.eq_false_iff.2 fun h=>h4 (qgP.1 h)];exact Rn.pure _
theorem quG {s:ByteArray} {i:Nat} (hi:i<s.size):∃b:UInt8,s.data[i]? =some b∧(byL s).getD i 0=(b.toNat:Int):=by
 have hi':i<s.data.size:=hi
 refine⟨s.data[i],Array.getElem?_eq_getElem hi',?_⟩
 unfold byL
 rw [List.getD_eq_getElem?_getD,List.getElem?_map,Array.getElem?_toList,Array.getElem?_eq_getElem hi']
 rfl
theorem qqt (s:ByteArray) (hs:s.size≤1000000000000000000):∃o,Rl (fun k n=>qad k n s 0) o∧((∀j,0≤j→j<(byL s).length→nmB ((byL s).getD j 0)=true)∧o= .inr s∨(¬ ∀j,0≤j→j<(byL s).length→nmB ((byL s).getD j 0)=true)∧∃a:Bool,a=false∧o= .inl a):=by
 have hl:=qpc s
 have key:∀(k:Nat) (rec:ByteArray→Int→Option (Bool ⊕ ByteArray)) (i:Nat),i<s.size→qbr k rec s i=if nmB ((byL s).getD i 0)=true then rec s ((i:Int)+1)else some (.inl false):=by
  intro k rec i hi
  obtain⟨b,h1,h2⟩:=quG hi
  unfold qbr nmB
  rw [if_pos (decide_eq_true (by omega)),if_pos (by omega),Int.toNat_natCast,h1,h2,qf (by omega)]
  simp only [Option.bind_some,decide_eq_true_eq,decide_eq_false_iff_not,bne_iff_ne,ne_eq]
  repeat' split
  all_goals first | rfl | (exfalso;omega)
 refine qdb (byL s).length 0 (fun k n i=>qad k n s i) s (fun a=>a=false) (fun j=>nmB ((byL s).getD j 0)=true) ?_ ?_ ?_ (byL s).length 0 (by omega) (by omega)
 ·refine Rl.up (f:=fun k n=>qad k n s (byL s).length) (Rl.of 0 fun k n _=> ?_)
  show qbr k (qad k n) _ _=_
  unfold qbr
  exact if_neg (by rw [decide_eq_true_eq];omega)
 ·intro i hs hi hok o ho
  refine Rl.up (f:=fun k n=>qad k n s i) ?_
  show Rl (fun k n=>qbr k (qad k n) _ _) _
  simp only [key _ _ i (by omega),hok,if_true]
  exact ho
 ·intro i hs hi hok
  refine⟨false,rfl,Rl.up (f:=fun k n=>qad k n s i) ?_⟩
  show Rl (fun k n=>qbr k (qad k n) _ _) _
  simp only [key _ _ i (by omega),hok]
  exact Rl.pure _
theorem qkG (s:ByteArray) (hs:s.size≤1000000000000000000):Rn (fun k=>qcK k s) (qdF s):=by
 refine Rn.up (f:=fun k=>qcK k s) ?_
 show Rn (fun k=>qf5 k s) _
 unfold qf5 qdF
 obtain⟨o,h3,h4⟩:=qqt s hs
 refine Rn.bind h3.diag ?_
 rcases h4 with ⟨h4,rfl⟩ | ⟨h4,a,rfl,rfl⟩
 ·rw [qgP.2 h4,Bool.true_and]
  by_cases h1:1≤s.size
  ·refine Rn.t (decide_eq_true (by omega)) ?_
   rw [show decide (((s.size:Nat):Int)≤16)=decide (1≤s.size∧s.size≤16)from decide_eq_decide.2 (by omega)]
   exact Rn.pure _
  ·refine Rn.f (by rw [decide_eq_true_eq];omega) ?_
   rw [show decide (1≤s.size∧s.size≤16)=false from decide_eq_false (by omega)]
   exact Rn.pure _
 ·rw [Bool.eq_false_iff.2 fun h=>h4 (qgP.1 h)];exact Rn.pure _
structure UF (n:Nat) (ss:List Int) (rt:Nat→Nat) (dp:Nat→Nat):Prop where
 len:ss.length=n
 par:∀i,i<n→∃p:Nat,p<n∧ss[i]? =some (p:Int)∧rt p=rt i∧(p≠i→dp p<dp i)∧(p=i→rt i=i)
 lt:∀i,i<n→rt i<n
 self:∀i,i<n→ss[rt i]? =some ((rt i:Nat):Int)
 idem:∀i,i<n→rt (rt i)=rt i
theorem UF.half {n:Nat} {ss:List Int} {rt dp:Nat→Nat} (h:UF n ss rt dp) {i p q:Nat} (hi:i<n) (e1:ss[i]? =some (p:Int)) (hp:p≠i) (hpn:p<n) (hq:q<n) (e2:ss[p]? =some (q:Int)):UF n (ss.set i (q:Int)) rt dp:=by
 obtain⟨p',a1,a2,a3,a4,a5⟩:=h.par i hi
 obtain⟨q',b1,b2,b3,b4,b5⟩:=h.par p hpn
 have e:p'=p:=by have:=Option.some.inj (e1.symm.trans a2);omega
 subst e
 have e:q'=q:=by have:=Option.some.inj (e2.symm.trans b2);omega
 subst e
 have hdq:dp q'<dp i:=by
  by_cases c:q'=p'
  ·rw [c];exact a4 hp
  ·have:=b4 c;have:=a4 hp;omega
 have hir:rt i≠i:=by
  intro c
  have:=h.self i hi
  rw [c,e1] at this
  have:=Option.some.inj this
  exact hp (by omega)
 refine⟨by rw [List.length_set];exact h.len,fun j hj=> ?_,h.lt,fun j hj=> ?_,h.idem⟩
 ·by_cases c:j=i
  ·subst c
   refine⟨q',hq,by rw [List.getElem?_set_self (by rw [h.len];exact hj)],by rw [b3,a3],fun _=>hdq,fun e=> ?_⟩
   rw [e] at hdq
   omega
  ·rw [List.getElem?_set_ne (fun e=>c e.symm)]
   exact h.par j hj
 ·have hne:i≠rt j:=by
   intro c
   have:=h.idem j hj
   rw [←c] at this
   exact hir this
  rw [List.getElem?_set_ne hne]
  exact h.self j hj
def jn (rt:Nat→Nat) (a b:Nat):Nat→Nat:=fun x=>if rt x=rt a then rt b else rt x
theorem UF.new {n:Nat} {ss:List Int} (hl:ss.length=n) (h:∀j,j<n→ss[j]? =some (j:Int)):UF n ss id (fun _=>0):=
 ⟨hl,fun i hi=>⟨i,hi,h i hi,rfl,fun e=>absurd rfl e,fun _=>rfl⟩,fun i hi=>hi,fun i hi=>h i hi,fun i hi=>rfl⟩
abbrev Dv:=Int×ByteArray×List Int×Int×(Int×Int)×(Int×List (Int×Int)×List Int)×ByteArray×Int×List (Int×Int)×List (Int×Int)
def qzy:ByteArray:=ByteArray.mk (List.toArray [101,103,116])
structure OkD (n:Nat) (d:Dv):Prop where
 rng:∀i,i<d.2.2.1.length→0≤d.2.2.1.getD i 0∧d.2.2.1.getD i 0<n
 two:2≤d.2.2.1.length
 four:0≤qeI qzy d.1→4≤d.2.2.1.length
def nd (d:Dv) (i:Nat):Nat:=(d.2.2.1.getD i 0).toNat
theorem OkD.at {n:Nat} {d:Dv} (h:OkD n d) {i:Nat} (hi:i<d.2.2.1.length):d.2.2.1[i]? =some ((nd d i:Nat):Int)∧nd d i<n:=by
 obtain⟨h1,h2⟩:=h.rng i hi
 have e:=getD_some (l:=d.2.2.1) (0:Int) hi
 unfold nd
 exact⟨by rw [e];congr 1;omega,by omega⟩
def tie (first:ByteArray) (rt:Nat→Nat) (d:Dv):Nat→Nat:=
 if 0≤qeI qzy d.1 then jn (if 0≤qeI first d.1 then jn rt (nd d 0) (nd d 1)else rt) (nd d 2) (nd d 3)else if 0≤qeI first d.1 then jn rt (nd d 0) (nd d 1)else rt
theorem qn0 (s:ByteArray) (c:Int):Rn (fun k=>qce k s c) (qeI s c):=by
 refine Rn.up (f:=fun k=>qce k s c) ?_
 show Rn (fun k=>qe4 k s c) _
 unfold qe4
 exact Rn.pure _
def LK (mode:Int) (d:Dv):Prop:=d.1=118∨d.1=108∧mode=1
instance (mode:Int) (d:Dv):Decidable (LK mode d):=by unfold LK;infer_instance
def pcs (c:UInt8):List UInt8→List (List UInt8)
 | []=> [[]]
 | x::r=>if x=c then []::pcs c r else((x::(pcs c r).headD [])::(pcs c r).drop 1)
theorem qrV (c:UInt8):∀l,pcs c l≠ []
 | []=>by simp [pcs]
 | x::r=>by unfold pcs;split<;>simp
theorem qlL (c:UInt8):∀l,(pcs c l).length=Go.Lib.countByte l c+1
 | []=>rfl
 | x::r=>by
  have ih:=qlL c r
  unfold Go.Lib.countByte at ih ⊢
  unfold pcs
  by_cases h:x=c
  ·subst h
   rw [if_pos rfl,List.length_cons,ih,List.count_cons_self]
  ·rw [if_neg h,List.length_cons,List.length_drop,ih,List.count_cons_of_ne h]
   omega
theorem qhO (c:UInt8):∀l,Go.Lib.countByte l c=0→pcs c l= [l]
 | [],_=>rfl
 | x::r,h=>by
  unfold Go.Lib.countByte at h
  by_cases e:x=c
  ·subst e;rw [List.count_cons_self] at h;omega
  ·rw [List.count_cons_of_ne e] at h
   unfold pcs
   rw [if_neg e,qhO c r h]
   rfl
theorem qpe (c:UInt8):∀(l:List UInt8),0<Go.Lib.countByte l c→∃o:Nat,Go.Lib.indexByte l c=(o:Int)∧o<l.length∧pcs c l=l.take o::pcs c (l.drop (o+1))∧Go.Lib.countByte l c=Go.Lib.countByte (l.drop (o+1)) c+1
 | [],h=>by simp [Go.Lib.countByte] at h
 | x::r,h=>by
  unfold Go.Lib.countByte at h
  by_cases e:x=c
  ·subst e
   refine⟨0,?_,by simp,?_,?_⟩
   ·unfold Go.Lib.indexByte;simp
   ·rw [pcs,if_pos rfl];simp
   ·unfold Go.Lib.countByte;rw [List.count_cons_self];simp
  ·rw [List.count_cons_of_ne e] at h
   obtain⟨o,h1,h2,h3,h4⟩:=qpe c r h
   refine⟨o+1,?_,by simp;omega,?_,?_⟩
   ·unfold Go.Lib.indexByte
    have e1:(x == c)=false:=by simpa using e
    have e2:((o:Int) == -1)=false:=by rw [beq_eq_false_iff_ne];omega
    rw [h1,e1,e2]
    simp
   ·rw [pcs,if_neg e,h3];simp
   ·unfold Go.Lib.countByte at h4 ⊢
    rw [List.count_cons_of_ne e,h4];simp
abbrev dl (s:ByteArray):List UInt8:=s.data.toList
theorem qag (s:ByteArray):(dl s).length=s.size:=by rw [Array.length_toList];rfl
theorem qjw (s:ByteArray) (a b:Nat):dl (s.extract a b)=((dl s).take b).drop a:=by
 unfold dl
 rw [ByteArray.data_extract,Array.toList_extract,List.extract_eq_take_drop,List.take_drop]
 by_cases h:a≤b
 ·rw [show a+(b-a)=b by omega]
 ·rw [List.drop_eq_nil_of_le (by rw [List.length_take];omega),List.drop_eq_nil_of_le (by rw [List.length_take];omega)]
def qfb (c:UInt8):ByteArray:=ByteArray.mk (List.toArray (c:: []))
theorem qrW (c:UInt8):(qfb c).size=1:=rfl
theorem qrX (s:ByteArray) (c:UInt8):Rn (fun k=>qds k s (qfb c)) (Go.Lib.indexByte (dl s) c):=by
 refine Rn.up (f:=fun k=>qds k s (qfb c)) ?_
 show Rn (fun k=>qgK k s (qfb c)) _
 unfold qgK
 exact Rn.t rfl (Rn.pure _)
theorem qrY (s:ByteArray) (c:UInt8):Rn (fun k=>qdr k s (qfb c)) ((Go.Lib.countByte (dl s) c:Nat):Int):=by
 refine Rn.up (f:=fun k=>qdr k s (qfb c)) ?_
 show Rn (fun k=>qgJ k s (qfb c)) _
 unfold qgJ
 exact Rn.t rfl (Rn.pure _)
theorem qqu (c:UInt8):∀(d:Nat) (s:ByteArray) (i:Nat) (as1:List ByteArray),Go.Lib.countByte (dl s) c=d→s.size≤1000000000000000→as1.length=i+d+1→i+d+1≤1000000000000000→
  ∃s' as',Rl (fun k q=>qaA k q s (qfb c) 0 ((i+d:Nat):Int) (i+d+1) (i:Int) as1) (s',i+d+1,((i+d:Nat):Int),as')∧as'.length=i+d+1∧(as'.take (i+d)).map dl++ [dl s']=(as1.take i).map dl++pcs c (dl s):=by
 intro d
 induction d with
 | zero=>
  intro s i as1 hc hs ha hi
  refine⟨s,as1,Rl.up (f:=fun k q=>qaA k q s (qfb c) 0 ((i+0:Nat):Int) (i+0+1) (i:Int) as1) ?_,ha,by rw [qhO c _ hc];rfl⟩
  show Rl (fun k q=>qck k (qaA k q) _ _ _ _ _ _ _) _
  unfold qck
  exact Rl.f (by rw [decide_eq_true_eq];omega) (Rl.pure _)
 | succ d ih=>
  intro s i as1 hc hs ha hi
  obtain⟨o,h1,h2,h3,h4⟩:=qpe c (dl s) (by omega)
  rw [qag] at h2
  have e1:dl (s.extract (o+1) s.size)=(dl s).drop (o+1):=by rw [qjw,List.take_of_length_le (by rw [qag];omega)]
  have e2:dl (s.extract 0 o)=(dl s).take o:=by rw [qjw];rfl
  have e3:(s.extract (o+1) s.size).size≤s.size:=by rw [←qag,e1,List.length_drop,qag];omega
  obtain⟨s',as',b1,b2,b3⟩:=ih (s.extract (o+1) s.size) (i+1) (as1.set i (s.extract 0 o)) (by rw [e1];omega) (by omega) (by rw [List.length_set];omega) (by omega)
  rw [show i+1+d=i+(d+1) by omega] at b1 b2 b3
  refine⟨s',as',Rl.up (f:=fun k q=>qaA k q s (qfb c) 0 ((i+(d+1):Nat):Int) (i+(d+1)+1) (i:Int) as1) ?_,b2,?_⟩
  ·show Rl (fun k q=>qck k (qaA k q) _ _ _ _ _ _ _) _
   unfold qck
   have w1:IntKind.i64.wrap ((o:Int)+0)=(o:Int):=by rw [qf (by omega)];omega
   have w2:IntKind.i64.wrap ((o:Int)+(((qfb c).size:Nat):Int))=((o+1:Nat):Int):=by rw [qrW,qf (by omega)];omega
   have hi1:=qrX s c
   rw [h1] at hi1
   refine Rl.t (by rw [decide_eq_true_eq];omega) (Rl.bind hi1 (Rl.f (by rw [decide_eq_true_eq];omega) ?_))
   rw [w1,w2,Nat.zero_add,Int.toNat_natCast,Int.toNat_natCast,Int.toNat_natCast,qf (x:=(i:Int)+1) (by omega)]
   exact Rl.t (by omega) (Rl.t (by omega) (Rl.at (x:=as1[i]'(by omega)) (List.getElem?_eq_getElem (by omega)) (Rl.t (by omega) b1)))
  ·rw [b3,e1,h3,List.take_set]
   rw [show(List.take (i+1) as1).set i (s.extract 0 o)=List.take i as1++ [s.extract 0 o] by
    rw [List.take_add_one,List.getElem?_eq_getElem (show i<as1.length by omega),List.set_append_right _ _ (by rw [List.length_take];omega),List.length_take]
    rw [show i-min i as1.length=0 by omega]
    rfl]
   rw [List.map_append,List.map_singleton,e2,List.append_assoc]
   rfl
theorem qn1 (s:ByteArray) (c:UInt8):Go.Lib.countByte (dl s) c≤s.size:=by
 rw [←qag];exact List.count_le_length
theorem qjx (s:ByteArray) (c:UInt8) (hs:s.size≤1000000000000):∃l:List ByteArray,Rn (fun k=>qcd k s (qfb c)) l∧l.map dl=pcs c (dl s):=by
 have hcl:=qn1 s c
 obtain⟨s',as',b1,b2,b3⟩:=qqu c (Go.Lib.countByte (dl s) c) s 0 (List.replicate (Go.Lib.countByte (dl s) c+1) (ByteArray.mk (List.toArray []))) rfl (by omega) (by simp) (by omega)
 rw [Nat.zero_add] at b1 b2 b3
 generalize hn:Go.Lib.countByte (dl s) c=n at b1 b2 b3 hcl
 refine⟨as'.take n++ [s'],?_,by rw [List.map_append,List.map_singleton,b3];rfl⟩
 refine Rn.up (f:=fun k=>qcd k s (qfb c)) ?_
 show Rn (fun k=>qgL k s (qfb c)) _
 unfold qgL
 refine Rn.bind ?_ (Rn.pure _)
 refine Rn.up (f:=fun k=>qfs k s (qfb c) 0 (-1)) ?_
 show Rn (fun k=>qfr k s (qfb c) 0 (-1)) _
 unfold qfr
 have hc:=qrY s c
 rw [hn] at hc
 refine Rn.f (by decide) (Rn.f (by simp [qfb]) (Rn.t (by decide) (Rn.bind hc ?_)))
 have w1:min (IntKind.i64.wrap ((n:Int)+1)) (IntKind.i64.wrap (((s.size:Nat):Int)+1))=((n+1:Nat):Int):=by
  rw [qf (by omega),qf (by omega)];omega
 have w2:IntKind.i64.wrap (((n+1:Nat):Int)-1)=(n:Int):=by rw [qf (by omega)];omega
 have w3:IntKind.i64.wrap ((n:Int)+1)=((n+1:Nat):Int):=by rw [qf (by omega)];omega
 rw [w1,w2,Int.toNat_natCast]
 refine Rn.t (by omega) (Rn.bind b1.diag ?_)
 show Rn (fun k=>if(((0:Int)≤(n:Int))∧((n:Int)<((n+1:Nat):Int)))then _ else _) _
 refine Rn.t (by omega) ?_
 have es:(as'.set n s')=as'.take n++ [s']:=by
  rw [List.set_eq_take_append_cons_drop,if_pos (by omega),List.drop_eq_nil_of_le (by omega)]
 have el:(as'.take n++ [s']).length=n+1:=by rw [List.length_append,List.length_take];simp;omega
 simp only [Int.toNat_natCast,Nat.zero_add,w3,es,el]
 refine Rn.at (x:=as'[n]'(by omega)) (List.getElem?_eq_getElem (by omega)) (Rn.t (by omega) (Rn.t (by omega) (Rn.const (congrArg some ?_))))
 exact List.take_of_length_le (by omega)
theorem qhP (F:Nat→Nat→List ByteArray→Int→Int→Option (Int ⊕ Unit)) (G:Nat→ByteArray→Option Bool) (ok:ByteArray→Bool) (s:List ByteArray) (hs:s.length≤1000000000000000000)
  (hF:∀k q x x1,F k (q+1) s x x1=if((decide (x1<x))=true)then(if((0:Int)≤x1)then Option.bind s[x1.toNat]? (fun x4=>Option.bind (G k x4) (fun r4=>if r4=true then some (Sum.inl x1)else F k q s x (IntKind.i64.wrap (x1+1))))else none)else some (Sum.inr ()))
  (hG:∀p∈s,Rn (fun k=>G k p) (!ok p)):∃o,Rl (fun k q=>F k q s s.length 0) o∧(s.all ok=true∧o= .inr ()∨s.all ok=false∧∃a:Int,0≤a∧o= .inl a):=by
 obtain⟨o,h1,h2⟩:=qdb s.length 0 (fun k q i=>F k q s s.length i) () (fun a=>0≤a) (fun j=>∀p,s[j]? =some p→ok p=true) (by
   refine Rl.up (f:=fun k q=>F k q s s.length s.length) ?_
   simp only [hF]
   exact Rl.f (by simp) (Rl.pure _)) (by
   intro i hs0 hi hok o ho
   refine Rl.up (f:=fun k q=>F k q s s.length (i:Int)) ?_
   simp only [hF]
   have eg:=List.getElem?_eq_getElem hi
   have hg:=hG _ (List.getElem_mem hi)
   rw [hok _ eg] at hg
   refine Rl.t (by rw [decide_eq_true_eq];omega) (Rl.t (by omega) (Rl.at (by rw [Int.toNat_natCast];exact eg) (Rl.bind hg (Rl.f (by decide) ?_))))
   rw [qf (x:=(i:Int)+1) (by omega)]
   exact ho) (by
   intro i hs0 hi hok
   refine⟨(i:Int),by omega,Rl.up (f:=fun k q=>F k q s s.length (i:Int)) ?_⟩
   simp only [hF]
   have eg:=List.getElem?_eq_getElem hi
   have hg:=hG _ (List.getElem_mem hi)
   have hb:ok (s[i]'hi)=false:=by
    cases hb:ok (s[i]'hi)with
    | false=>rfl
    | true=>exact absurd (fun p hp=>by rw [eg] at hp;cases hp;exact hb) hok
   rw [hb] at hg
   exact Rl.t (by rw [decide_eq_true_eq];omega) (Rl.t (by omega) (Rl.at (by rw [Int.toNat_natCast];exact eg) (Rl.bind hg (Rl.t (by decide) (Rl.pure _)))))) s.length 0 (by omega) (by omega)
 have hall:s.all ok=true↔∀j,0≤j→j<s.length→∀p,s[j]? =some p→ok p=true:=by
  rw [List.all_eq_true]
  constructor
  ·intro h j _ hj p hp;exact h p (List.mem_of_getElem? hp)
  ·intro h p hp
   obtain⟨j,hj,e⟩:=List.mem_iff_getElem.1 hp
   exact h j (Nat.zero_le _) hj p (by rw [List.getElem?_eq_getElem hj,e])
 refine⟨o,h1,?_⟩
 rcases h2 with ⟨h2,rfl⟩ | ⟨h2,a,ha,rfl⟩
 ·exact .inl ⟨hall.2 h2,rfl⟩
 ·exact .inr ⟨by rw [←Bool.not_eq_true,hall];exact h2,a,ha,rfl⟩
def qfV (l:List UInt8):Bool:=(l.map fun b:UInt8=>((b.toNat:Nat):Int)).all nmB && decide (1≤l.length∧l.length≤16)
theorem ql6 (s:ByteArray):qdF s=qfV (dl s):=by
 unfold qdF qfV byL
 rw [qag]
def qgc (l:List UInt8):Bool:=decide ((pcs 46 l).length≤9) && (pcs 46 l).all qfV
def qaR (s:ByteArray):Bool:=qgc (dl s)
theorem ql7 (l:List ByteArray) (m:List (List UInt8)) (h:l.map dl=m):l.all qdF=m.all qfV:=by
 subst h
 rw [List.all_map]
 congr 1
theorem qkd (s:ByteArray) (hs:s.size≤1000000000000000000):Rn (fun k=>qgs k s) (qdF s):=by
 refine Rn.up (f:=fun k=>qgs k s) ?_
 show Rn (fun k=>qiP k s) _
 unfold qiP
 exact Rn.bind (qpd s hs) (Rn.pure _)
theorem qn2 (c:UInt8) (n:Nat):∀l:List UInt8,l.length≤n→∀p∈pcs c l,p.length≤n
 | [],_,p,hp=>by simp [pcs] at hp;subst hp;simp
 | x::r,hl,p,hp=>by
  have ih:=qn2 c (n-1) r (by simp at hl;omega)
  simp only [List.length_cons] at hl
  unfold pcs at hp
  split at hp
  ·rcases List.mem_cons.1 hp with rfl | hp
   ·simp
   ·have:=ih p hp;omega
  ·rcases List.mem_cons.1 hp with rfl | hp
   ·have h1:(pcs c r).headD []∈pcs c r:=by
     cases h:pcs c r with
     | nil=>exact absurd h (qrV c r)
     | cons a b=>simp
    have:=ih _ h1
    simp only [List.length_cons];omega
   ·have:=ih p (List.mem_of_mem_drop hp);omega
theorem qi1 {s:ByteArray} {l:List ByteArray} {c:UInt8} (h:l.map dl=pcs c (dl s)):∀p∈l,p.size≤s.size:=by
 intro p hp
 have:dl p∈pcs c (dl s):=by rw [←h];exact List.mem_map_of_mem hp
 have:=qn2 c s.size (dl s) (by rw [qag];exact Nat.le_refl _) _ this
 rwa [qag] at this
theorem qi2 {s:ByteArray} {l:List ByteArray} {c:UInt8} (h:l.map dl=pcs c (dl s)):l.length=(pcs c (dl s)).length∧l.length≤s.size+1:=by
 have e:l.length=(pcs c (dl s)).length:=by rw [←h,List.length_map]
 refine⟨e,?_⟩
 rw [e,qlL]
 have:=qn1 s c
 omega
theorem qkH (s:ByteArray) (hs:s.size≤1000000000000):Rn (fun k=>qfk k s) (qaR s):=by
 obtain⟨l,h1,h2⟩:=qjx s 46 hs
 obtain⟨h3,h4⟩:=qi2 h2
 refine Rn.up (f:=fun k=>qfk k s) ?_
 show Rn (fun k=>qiQ k s) _
 unfold qiQ qaR qgc
 refine Rn.bind h1 ?_
 by_cases c:l.length≤9
 ·obtain⟨o,b1,b2⟩:=qhP qbl qgt qdF l (by omega) (fun _ _ _ _=>rfl) (fun p hp=>by
   have:=qi1 h2 p hp
   refine Rn.up (f:=fun k=>qgt k p) ?_
   show Rn (fun k=>qhD k p) _
   unfold qhD
   exact Rn.bind (qkd p (by omega)) (Rn.pure _))
  rw [ql7 l _ h2] at b2
  refine Rn.t (by rw [decide_eq_true_eq];omega) (Rn.bind (x:= !(pcs 46 (dl s)).all qfV) ?_ (Rn.const (congrArg some ?_)))
  ·refine Rn.up (f:=fun k=>qbd k l) ?_
   show Rn (fun k=>qbc k l) _
   unfold qbc
   have key:∀a,Rn (fun k=>qc o (fun r4=>some r4) (fun r4=>some (-1))) a→Rn (fun k=>qat k l) a:=by
    intro a h
    refine Rn.up (f:=fun k=>qat k l) ?_
    show Rn (fun k=>qbF k l) _
    unfold qbF
    exact Rn.bind b1.diag h
   rcases b2 with ⟨b2,rfl⟩ | ⟨b2,a,ha,rfl⟩
   ·rw [b2];exact Rn.bind (key _ (Rn.pure _)) (Rn.pure _)
   ·rw [b2];exact Rn.bind (key _ (Rn.pure _)) (Rn.const (congrArg some (decide_eq_true ha)))
  ·rw [decide_eq_true (by omega:(pcs 46 (dl s)).length≤9),Bool.not_not,Bool.true_and]
 ·refine Rn.f (by rw [decide_eq_true_eq];omega) (Rn.const (congrArg some ?_))
  rw [decide_eq_false (by omega:¬(pcs 46 (dl s)).length≤9),Bool.false_and]
theorem qn3 (s:ByteArray) (hs:s.size≤1000000000000):Rn (fun k=>qgY k s) (qaR s):=by
 obtain⟨l,h1,h2⟩:=qjx s 46 hs
 obtain⟨h3,h4⟩:=qi2 h2
 refine Rn.up (f:=fun k=>qgY k s) ?_
 show Rn (fun k=>qie k s) _
 unfold qie qaR qgc
 refine Rn.bind h1 ?_
 by_cases c:l.length≤9
 ·obtain⟨o,b1,b2⟩:=qhP qbm qfT qdF l (by omega) (fun _ _ _ _=>rfl) (fun p hp=>by
   have:=qi1 h2 p hp
   refine Rn.up (f:=fun k=>qfT k p) ?_
   show Rn (fun k=>qhf k p) _
   unfold qhf
   exact Rn.bind (qkd p (by omega)) (Rn.pure _))
  rw [ql7 l _ h2] at b2
  refine Rn.t (by rw [decide_eq_true_eq];omega) (Rn.bind (x:= !(pcs 46 (dl s)).all qfV) ?_ (Rn.const (congrArg some ?_)))
  ·refine Rn.up (f:=fun k=>qbh k l) ?_
   show Rn (fun k=>qbg k l) _
   unfold qbg
   have key:∀a,Rn (fun k=>qc o (fun r4=>some r4) (fun r4=>some (-1))) a→Rn (fun k=>qau k l) a:=by
    intro a h
    refine Rn.up (f:=fun k=>qau k l) ?_
    show Rn (fun k=>qbI k l) _
    unfold qbI
    exact Rn.bind b1.diag h
   rcases b2 with ⟨b2,rfl⟩ | ⟨b2,a,ha,rfl⟩
   ·rw [b2];exact Rn.bind (key _ (Rn.pure _)) (Rn.pure _)
   ·rw [b2];exact Rn.bind (key _ (Rn.pure _)) (Rn.const (congrArg some (decide_eq_true ha)))
  ·rw [decide_eq_true (by omega:(pcs 46 (dl s)).length≤9),Bool.not_not,Bool.true_and]
 ·refine Rn.f (by rw [decide_eq_true_eq];omega) (Rn.const (congrArg some ?_))
  rw [decide_eq_false (by omega:¬(pcs 46 (dl s)).length≤9),Bool.false_and]
theorem qlM (c:UInt8) (b:List UInt8):∀a:List UInt8,c∉a→pcs c (a++c::b)=a::pcs c b
 | [],_=>by simp [pcs]
 | x::a,h=>by
  have h1:x≠c:=fun e=>h (by simp [e])
  have h2:=qlM c b a (fun e=>h (by simp [e]))
  rw [List.cons_append,pcs,if_neg h1,h2]
  rfl
theorem qpf (c:UInt8):∀a:List UInt8,c∉a→pcs c a= [a]
 | [],_=>rfl
 | x::a,h=>by
  have h1:x≠c:=fun e=>h (by simp [e])
  have h2:=qpf c a (fun e=>h (by simp [e]))
  rw [pcs,if_neg h1,h2]
  rfl
theorem qqv (s:ByteArray) (hs:s.size≤1000000000000000):∀(d i fr:Nat) (parts:Int),i+d=s.size→fr≤i→(46:UInt8)∉((dl s).take i).drop fr→0≤parts→parts≤i→
  Rl (fun k q=>qaw k q s parts (fr:Int) (i:Int)) (if(pcs 46 ((dl s).drop fr)).all qfV=true then .inr (parts+((pcs 46 ((dl s).drop fr)).length:Nat))else .inl false):=by
 intro d
 induction d with
 | zero=>
  intro i fr parts e hf hd h0 h1
  have ei:i=s.size:=by omega
  subst ei
  rw [List.take_of_length_le (by rw [qag];exact Nat.le_refl _)] at hd
  have ep:=qpf 46 _ hd
  rw [ep]
  have hx:dl (s.extract fr s.size)=(dl s).drop fr:=by rw [qjw,List.take_of_length_le (by rw [qag];exact Nat.le_refl _)]
  have hn:=qkG (s.extract fr s.size) (by have:(s.extract fr s.size).size=(dl (s.extract fr s.size)).length:=(qag _).symm;rw [this,hx,List.length_drop,qag];omega)
  rw [ql6,hx] at hn
  refine Rl.up (f:=fun k q=>qaw k q s parts (fr:Int) (s.size:Int)) ?_
  show Rl (fun k q=>qbs k (qaw k q) _ _ _ _) _
  unfold qbs
  refine Rl.t (by simp) (Rl.f (by simp) (Rl.t (by omega) (Rl.bind (by rw [Int.toNat_natCast,Int.toNat_natCast];exact hn) ?_)))
  by_cases c:qfV ((dl s).drop fr)=true
  ·rw [if_pos (by simp [c]),qf (x:=parts+1) (by omega),qf (x:=((s.size:Nat):Int)+1) (by omega)]
   refine Rl.f (by simp [c]) ?_
   refine Rl.up (f:=fun k q=>qaw k q s (parts+1) (((s.size:Nat):Int)+1) (((s.size:Nat):Int)+1)) ?_
   show Rl (fun k q=>qbs k (qaw k q) _ _ _ _) _
   unfold qbs
   exact Rl.f (by rw [decide_eq_true_eq];omega) (Rl.pure _)
  ·rw [if_neg (by simpa using c)]
   exact Rl.t (by simp at c;simp [c]) (Rl.pure _)
 | succ d ih=>
  intro i fr parts e hf hd h0 h1
  have hi:i<s.size:=by omega
  obtain⟨b,hb1,hb2⟩:=quG hi
  have hil:i<(dl s).length:=by rw [qag];exact hi
  have hbl:(dl s)[i]'hil=b:=by
   have:(dl s)[i]? =some b:=by rw [Array.getElem?_toList];exact hb1
   rw [List.getElem?_eq_getElem hil] at this
   exact Option.some.inj this
  have esp:(dl s).drop fr=((dl s).take i).drop fr++b::(dl s).drop (i+1):=by
   conv=>lhs;rw [←List.take_append_drop i (dl s)]
   rw [List.drop_append,show fr-(List.take i (dl s)).length=0 by rw [List.length_take,qag];omega,List.drop_zero,List.drop_eq_getElem_cons hil,hbl]
  have w1:IntKind.i64.wrap ((i:Int)+1)=((i+1:Nat):Int):=by rw [qf (by omega)];omega
  refine Rl.up (f:=fun k q=>qaw k q s parts (fr:Int) (i:Int)) ?_
  show Rl (fun k q=>qbs k (qaw k q) _ _ _ _) _
  unfold qbs
  refine Rl.t (by rw [decide_eq_true_eq];omega) (Rl.t (by rw [beq_eq_false_iff_ne];omega) (Rl.t (by omega) (Rl.at (x:=b) (by rw [Int.toNat_natCast];exact hb1) ?_)))
  by_cases cb:b=46
  ·subst cb
   have ep:=qlM 46 ((dl s).drop (i+1)) _ hd
   rw [←esp] at ep
   rw [ep]
   have hx:dl (s.extract fr i)=((dl s).take i).drop fr:=by rw [qjw]
   have hn:=qkG (s.extract fr i) (by have:(s.extract fr i).size=(dl (s.extract fr i)).length:=(qag _).symm;rw [this,hx,List.length_drop,List.length_take,qag];omega)
   rw [ql6,hx] at hn
   refine Rl.t (by rfl) (Rl.t (by omega) (Rl.bind (by rw [Int.toNat_natCast,Int.toNat_natCast];exact hn) ?_))
   by_cases c:qfV (((dl s).take i).drop fr)=true
   ·have:=ih (i+1) (i+1) (parts+1) (by omega) (Nat.le_refl _) (by rw [List.drop_eq_nil_of_le (by rw [List.length_take];omega)];simp) (by omega) (by omega)
    rw [qf (x:=parts+1) (by omega),w1]
    refine Rl.f (by simp [c]) ?_
    rw [List.all_cons,c,Bool.true_and,List.length_cons]
    rw [show parts+(((pcs 46 (List.drop (i+1) (dl s))).length+1:Nat):Int)=parts+1+(((pcs 46 (List.drop (i+1) (dl s))).length:Nat):Int) by omega]
    exact this
   ·rw [if_neg (by simp at c;simp [c])]
    exact Rl.t (by simp at c;simp [c]) (Rl.pure _)
  ·have:=ih (i+1) fr parts (by omega) (by omega) (by
    rw [List.take_add_one,List.getElem?_eq_getElem hil,hbl,List.drop_append,show fr-(List.take i (dl s)).length=0 by rw [List.length_take,qag];omega]
    intro hm
    rcases List.mem_append.1 hm with hm | hm
    ·exact hd hm
    ·simp at hm;exact cb hm.symm) h0 (by omega)
   rw [w1]
   refine Rl.f ?_ this
   rw [beq_iff_eq]
   intro hc
   exact cb (UInt8.toNat_inj.1 (by have h46:(46:UInt8).toNat=46:=rfl;omega))
theorem qkI (s:ByteArray) (hs:s.size≤1000000000000000):Rn (fun k=>qC k s) (qaR s):=by
 have h:=qqv s hs s.size 0 0 0 (by omega) (by omega) (by simp) (by omega) (by omega)
 rw [List.drop_zero] at h
 refine Rn.up (f:=fun k=>qC k s) ?_
 show Rn (fun k=>qf6 k s) _
 unfold qf6 qaR qgc
 refine Rn.bind h.diag ?_
 by_cases c:(pcs 46 (dl s)).all qfV=true
 ·rw [if_pos c,c,Bool.and_true]
  refine Rn.const (congrArg some (decide_eq_decide.2 ?_))
  omega
 ·rw [if_neg c,Bool.eq_false_iff.2 c,Bool.and_false]
  exact Rn.pure _
def qgQ (l:List (Int×Int)):Prop:=∀j,0≤j→j<l.length→okN (l.getD j (0,0)).1 (l.getD j (0,0)).2=true
structure OkM (m1:Int) (m2 m3:List (Int×Int)):Prop where
 gs:qgQ m2
 vs:qgQ m3
 kind:m1=115∧m2.length=2∧m3.length=1∨m1=100∧1≤m2.length∧m2.length≤4∧m3.length+1=m2.length∧∀j,1≤j→j<m3.length→qed m3 (j-1)<qed m3 j
noncomputable def okM (m0:ByteArray) (m1:Int) (m2 m3:List (Int×Int)):Bool:=qdF m0 && @decide (OkM m1 m2 m3) (Classical.propDecidable _)
theorem qvw {m0:ByteArray} {m1:Int} {m2 m3:List (Int×Int)}:okM m0 m1 m2 m3=true↔qdF m0=true∧OkM m1 m2 m3:=by
 unfold okM
 rw [Bool.and_eq_true,@decide_eq_true_iff _ (Classical.propDecidable _)]
theorem qch {m0:ByteArray} {m1:Int} {m2 m3:List (Int×Int)} {b:Bool} (h:b=true↔qdF m0=true∧OkM m1 m2 m3):b=okM m0 m1 m2 m3:=Bool.eq_iff_iff.2 (h.trans qvw.symm)
theorem qj0 {a b:Rat}:qkB a b≥0↔¬a<b:=by
 obtain⟨c,h1,h2⟩:=qqm a b
 rw [h1]
 rcases h2 with ⟨rfl,h⟩ | ⟨rfl,h⟩ | ⟨rfl,h⟩
 ·simp [h]
 ·subst h;simp
 ·simp only [ge_iff_le]
  exact iff_of_true (by omega) (Rat.not_lt.2 (Rat.le_of_lt h))
section
variable (m0 : ByteArray) (m1 : Int) (m2 m3 : List (Int × Int)) (h0 : m0.size ≤ 1000000000000000000) (h2 : m2.length ≤ 1000000000000000000) (h3 : m3.length ≤ 1000000000000000000)
include h0 h2 h3
theorem qpg (x:Int) (l:List (Int×Int)) (hl:l.length≤1000000000000000000):∃o,Rl (fun k n=>qaK k n m2 m3 x l l.length 0 m0 m1 m2 m3) o∧
  (qgQ l∧o= .inr (m2,m3,x,m0,m1,m2,m3)∨¬qgQ l∧∃a:Bool×ByteArray×Int×List (Int×Int)×List (Int×Int)×Int×Int,a.1=false∧o= .inl a):=by
 refine qdb l.length 0 (fun k n i=>qaK k n m2 m3 x l l.length i m0 m1 m2 m3) (m2,m3,x,m0,m1,m2,m3) (fun a=>a.1=false) (fun j=>okN (l.getD j (0,0)).1 (l.getD j (0,0)).2=true) ?_ ?_ ?_ l.length 0 (by omega) (by omega)
 ·refine Rl.up (f:=fun k n=>qaK k n m2 m3 x l l.length l.length m0 m1 m2 m3) (Rl.of 0 fun k n _=> ?_)
  show qcl k (qaK k n) _ _ _ _ _ _ _ _ _ _=_
  unfold qcl
  exact if_neg (by simp)
 ·intro i hs hi hok o ho
  refine Rl.up (f:=fun k n=>qaK k n m2 m3 x l l.length i m0 m1 m2 m3) ?_
  show Rl (fun k n=>qcl k (qaK k n) _ _ _ _ _ _ _ _ _ _) _
  unfold qcl
  refine Rl.t (decide_eq_true (by omega)) (Rl.t (by omega) (Rl.at (getD_some (0,0) (by omega)) (Rl.bind (qdo _ _) (Rl.f (by rw [Int.toNat_natCast,hok];decide) ?_))))
  rw [qf (by omega)]
  exact ho
 ·intro i hs hi hok
  refine⟨(false,m0,m1,m2,m3,l.getD i (0,0)),rfl,Rl.up (f:=fun k n=>qaK k n m2 m3 x l l.length i m0 m1 m2 m3) ?_⟩
  show Rl (fun k n=>qcl k (qaK k n) _ _ _ _ _ _ _ _ _ _) _
  unfold qcl
  refine Rl.t (decide_eq_true (by omega)) (Rl.t (by omega) (Rl.at (getD_some (0,0) (by rw [Int.toNat_natCast];omega)) (Rl.bind (qdo _ _) (Rl.t (by rw [Int.toNat_natCast,Bool.eq_false_iff.2 hok];decide) ?_))))
  rw [Int.toNat_natCast]
  exact Rl.pure _
theorem qvx:∃o,Rl (fun k n=>qaq k n m2 m3 0 m0 m1 m2 m3) o∧
  ((qgQ m2∧qgQ m3)∧o= .inr (m0,m1,m2,m3)∨¬(qgQ m2∧qgQ m3)∧∃a:Bool×ByteArray×Int×List (Int×Int)×List (Int×Int)×Int×Int,a.1=false∧o= .inl a):=by
 obtain⟨o1,a1,a2⟩:=qpg m0 m1 m2 m3 h0 h2 h3 0 m2 h2
 obtain⟨o2,b1,b2⟩:=qpg m0 m1 m2 m3 h0 h2 h3 1 m3 h3
 have up0:∀ {o},Rl (fun k n=>qc5 k (qaq k n) m2 m3 0 m0 m1 m2 m3) o→Rl (fun k n=>qaq k n m2 m3 0 m0 m1 m2 m3) o:=fun h=>Rl.up (f:=fun k n=>qaq k n m2 m3 0 m0 m1 m2 m3) h
 have up1:∀ {o},Rl (fun k n=>qc5 k (qaq k n) m2 m3 1 m0 m1 m2 m3) o→Rl (fun k n=>qaq k n m2 m3 1 m0 m1 m2 m3) o:=fun h=>Rl.up (f:=fun k n=>qaq k n m2 m3 1 m0 m1 m2 m3) h
 have s2:Rl (fun k n=>qaq k n m2 m3 2 m0 m1 m2 m3) (.inr (m0,m1,m2,m3)):=by
  refine Rl.up (f:=fun k n=>qaq k n m2 m3 2 m0 m1 m2 m3) ?_
  show Rl (fun k n=>qc5 k (qaq k n) m2 m3 2 m0 m1 m2 m3) _
  unfold qc5
  exact Rl.f (by decide) (Rl.pure _)
 unfold qc5 at up0 up1
 rcases a2 with ⟨a2,rfl⟩ | ⟨a2,⟨q1,q2,q3,q4,q5,q6,q7⟩,e,rfl⟩
 ·rcases b2 with ⟨b2,rfl⟩ | ⟨b2,⟨q1,q2,q3,q4,q5,q6,q7⟩,e,rfl⟩
  ·exact⟨_,up0 (Rl.t (by decide) (Rl.t rfl (Rl.bind a1.diag (up1 (Rl.t (by decide) (Rl.f (by decide) (Rl.t (by decide) (Rl.bind b1.diag s2)))))))),.inl ⟨⟨a2,b2⟩,rfl⟩⟩
  ·exact⟨_,up0 (Rl.t (by decide) (Rl.t rfl (Rl.bind a1.diag (up1 (Rl.t (by decide) (Rl.f (by decide) (Rl.t (by decide) (Rl.bind b1.diag (Rl.pure (Sum.inl (q1,q2,q3,q4,q5,q6,q7))))))))))),.inr ⟨fun h=>b2 h.2,_,e,rfl⟩⟩
 ·exact⟨_,up0 (Rl.t (by decide) (Rl.t rfl (Rl.bind a1.diag (Rl.pure (Sum.inl (q1,q2,q3,q4,q5,q6,q7)))))),.inr ⟨fun h=>a2 h.1,_,e,rfl⟩⟩
theorem qvy (hv:qgQ m3) (hlen:1≤m3.length):∃o,Rl (fun k n=>qae k n 1 m0 m1 m2 m3) o∧
  ((∀j,1≤j→j<m3.length→qed m3 (j-1)<qed m3 j)∧o= .inr (m0,m1,m2,m3)∨(¬ ∀j,1≤j→j<m3.length→qed m3 (j-1)<qed m3 j)∧∃a:Bool×ByteArray×Int×List (Int×Int)×List (Int×Int),a.1=false∧o= .inl a):=by
 have hc:∀i,1≤i→i<m3.length→Rn (fun k=>qhG k (m3.getD (i-1) (0,0)).1 (m3.getD (i-1) (0,0)).2 (m3.getD i (0,0)).1 (m3.getD i (0,0)).2) (qkB (qed m3 (i-1)) (qed m3 i),0):=by
  intro i h1 h2
  have:=qrS (m3.getD (i-1) (0,0)).1 (m3.getD (i-1) (0,0)).2 (m3.getD i (0,0)).1 (m3.getD i (0,0)).2
  rw [if_pos ⟨hv (i-1) (by omega) (by omega),hv i (by omega) h2⟩] at this
  exact this
 refine qdb m3.length 1 (fun k n i=>qae k n i m0 m1 m2 m3) (m0,m1,m2,m3) (fun a=>a.1=false) (fun j=>qed m3 (j-1)<qed m3 j) ?_ ?_ ?_ (m3.length-1) 1 (by omega) (by omega)
 ·refine Rl.up (f:=fun k n=>qae k n m3.length m0 m1 m2 m3) (Rl.of 0 fun k n _=> ?_)
  show qbA k (qae k n) _ _ _ _ _=_
  unfold qbA
  exact if_neg (by simp)
 ·intro i hs hi hok o ho
  refine Rl.up (f:=fun k n=>qae k n i m0 m1 m2 m3) ?_
  show Rl (fun k n=>qbA k (qae k n) _ _ _ _ _) _
  unfold qbA
  have e1:(IntKind.i64.wrap ((i:Int)-1))=((i-1:Nat):Int):=by rw [qf (by omega)];omega
  rw [e1]
  refine Rl.t (decide_eq_true (by omega)) (Rl.t (by omega) (Rl.at (getD_some (0,0) (by rw [Int.toNat_natCast];omega)) (Rl.t (by omega) (Rl.at (getD_some (0,0) (by rw [Int.toNat_natCast];omega)) ?_))))
  rw [Int.toNat_natCast,Int.toNat_natCast]
  refine Rl.bind (hc i hs hi) (Rl.f (by rw [decide_eq_true_eq,qj0];exact fun h=>h hok) ?_)
  rw [qf (by omega)]
  exact ho
 ·intro i hs hi hok
  refine⟨(false,m0,m1,m2,m3),rfl,Rl.up (f:=fun k n=>qae k n i m0 m1 m2 m3) ?_⟩
  show Rl (fun k n=>qbA k (qae k n) _ _ _ _ _) _
  unfold qbA
  have e1:(IntKind.i64.wrap ((i:Int)-1))=((i-1:Nat):Int):=by rw [qf (by omega)];omega
  rw [e1]
  refine Rl.t (decide_eq_true (by omega)) (Rl.t (by omega) (Rl.at (getD_some (0,0) (by rw [Int.toNat_natCast];omega)) (Rl.t (by omega) (Rl.at (getD_some (0,0) (by rw [Int.toNat_natCast];omega)) ?_))))
  rw [Int.toNat_natCast,Int.toNat_natCast]
  exact Rl.bind (hc i hs hi) (Rl.t (by rw [decide_eq_true_eq,qj0];exact hok) (Rl.pure _))
theorem qi8:Rn (fun k=>qdw k m0 m1 m2 m3) (okM m0 m1 m2 m3):=by
 refine Rn.up (f:=fun k=>qdw k m0 m1 m2 m3) ?_
 show Rn (fun k=>qhH k m0 m1 m2 m3) _
 unfold qhH
 refine Rn.bind (qpd m0 h0) ?_
 by_cases hn:qdF m0=true
 rotate_left
 ·refine Rn.t (by simp [hn]) (Rn.const (congrArg some (qch (by simp [hn]))))
 refine Rn.f (by simp [hn]) ?_
 obtain⟨o,a1,a2⟩:=qvx m0 m1 m2 m3 h0 h2 h3
 refine Rn.bind a1.diag ?_
 rcases a2 with ⟨⟨g1,g2⟩,rfl⟩ | ⟨a2,⟨q1,q2,q3,q4,q5,q6,q7⟩,e,rfl⟩
 rotate_left
 ·exact Rn.const (congrArg some (qch (by simp only at e;subst e;simp only [Bool.false_eq_true,false_iff];exact fun h=>a2 ⟨h.2.gs,h.2.vs⟩)))
 show Rn (fun k=>if(m1 == 115)=true then _ else if(m1 == 100)=true then _ else _) _
 by_cases k1:m1=115
 ·refine Rn.t (by rw [beq_iff_eq];exact k1) ?_
  by_cases c1:m2.length=2
  ·refine Rn.t (by rw [beq_iff_eq];exact congrArg _ c1) (Rn.const (congrArg some (qch ?_)))
   rw [beq_iff_eq]
   constructor
   ·intro h;have h:(m3.length:Int)=1:=h;exact⟨hn,g1,g2,.inl ⟨k1,c1,by omega⟩⟩
   ·rintro⟨_,h⟩;show(m3.length:Int)=1;have:=h.kind;omega
  ·refine Rn.f (by rw [beq_iff_eq];show ¬(m2.length:Int)=2;omega) (Rn.const (congrArg some (qch ?_)))
   simp only [Bool.false_eq_true,false_iff]
   rintro⟨_,h⟩;have:=h.kind;omega
 refine Rn.f (by rw [beq_iff_eq];exact k1) ?_
 by_cases k2:m1=100
 rotate_left
 ·refine Rn.f (by rw [beq_iff_eq];exact k2) (Rn.const (congrArg some (qch ?_)))
  simp only [Bool.false_eq_true,false_iff]
  rintro⟨_,h⟩;have:=h.kind;omega
 refine Rn.t (by rw [beq_iff_eq];exact k2) ?_
 by_cases c1:m2.length<1
 ·refine Rn.f (by rw [decide_eq_false_iff_not];show ¬ ¬(m2.length:Int)<1;omega) (Rn.const (congrArg some (qch ?_)))
  simp only [Bool.false_eq_true,false_iff]
  rintro⟨_,h⟩;have:=h.kind;omega
 refine Rn.t (by rw [decide_eq_false_iff_not];show ¬(m2.length:Int)<1;omega) ?_
 by_cases c2:m2.length>4
 ·refine Rn.f (by rw [decide_eq_false_iff_not];show ¬ ¬(m2.length:Int)>4;omega) (Rn.const (congrArg some (qch ?_)))
  simp only [Bool.false_eq_true,false_iff]
  rintro⟨_,h⟩;have:=h.kind;omega
 refine Rn.t (by rw [decide_eq_false_iff_not];show ¬(m2.length:Int)>4;omega) ?_
 have e1:(IntKind.i64.wrap ((m2.length:Int)-1))=(m2.length:Int)-1:=qf (by omega)
 by_cases c3:m3.length+1=m2.length
 rotate_left
 ·refine Rn.t (by rw [bne_iff_ne,ne_eq];show ¬(m3.length:Int)=IntKind.i64.wrap ((m2.length:Int)-1);rw [e1];omega) (Rn.const (congrArg some (qch ?_)))
  simp only [Bool.false_eq_true,false_iff]
  rintro⟨_,h⟩;have:=h.kind;omega
 refine Rn.f (by rw [bne_iff_ne,ne_eq];show ¬ ¬(m3.length:Int)=IntKind.i64.wrap ((m2.length:Int)-1);rw [e1];omega) ?_
 by_cases c4:m3.length=0
 ·have hz:Rl (fun k n=>qae k n 1 m0 m1 m2 m3) (.inr (m0,m1,m2,m3)):=by
   refine Rl.up (f:=fun k n=>qae k n 1 m0 m1 m2 m3) (Rl.of 0 fun k n _=> ?_)
   show qbA k (qae k n) _ _ _ _ _=_
   unfold qbA
   exact if_neg (by rw [decide_eq_true_eq];omega)
  exact Rn.bind hz.diag (Rn.const (congrArg some (qch (iff_of_true rfl ⟨hn,g1,g2,.inr ⟨k2,by omega,by omega,c3,fun j j1 j2=>by omega⟩⟩))))
 obtain⟨o,b1,b2⟩:=qvy m0 m1 m2 m3 h0 h2 h3 g2 (by omega)
 refine Rn.bind b1.diag ?_
 rcases b2 with ⟨b2,rfl⟩ | ⟨b2,⟨q1,q2,q3,q4,q5⟩,e,rfl⟩
 ·exact Rn.const (congrArg some (qch (iff_of_true rfl ⟨hn,g1,g2,.inr ⟨k2,by omega,by omega,c3,b2⟩⟩)))
 ·refine Rn.const (congrArg some (qch ?_))
  simp only at e
  subst e
  simp only [Bool.false_eq_true,false_iff]
  rintro⟨_,h⟩
  rcases h.kind with k | k
  ·omega
  ·exact b2 k.2.2.2.2
end
def qaQ (k:Int):Int:=if k=114∨k=99∨k=108∨k=118∨k=105∨k=102∨k=104∨k=100 then 2 else if k=101∨k=103∨k=116∨k=115 then 4 else 0
def qqw:List (Int×Int):= [(114,2),(99,2),(108,2),(118,2),(105,2),(101,4),(103,4),(102,2),(104,2),(116,4),(100,2),(115,4)]
theorem qvz:qao (.int .u8) (.int .i64) (qao (.int .u8) (.int .i64) (qao (.int .u8) (.int .i64) (qao (.int .u8) (.int .i64) (qao (.int .u8) (.int .i64) (qao (.int .u8) (.int .i64) (qao (.int .u8) (.int .i64) (qao (.int .u8) (.int .i64) (qao (.int .u8) (.int .i64) (qao (.int .u8) (.int .i64) (qao (.int .u8) (.int .i64) (qao (.int .u8) (.int .i64) [] (114:Int) (2:Int)) (99:Int) (2:Int)) (108:Int) (2:Int)) (118:Int) (2:Int)) (105:Int) (2:Int)) (101:Int) (4:Int)) (103:Int) (4:Int)) (102:Int) (2:Int)) (104:Int) (2:Int)) (116:Int) (4:Int)) (100:Int) (2:Int)) (115:Int) (4:Int)=qqw:=by rfl
theorem qrZ (p:Int×Int) (r:List (Int×Int)) (x:Int):qef (.int .u8) (.int .i64) (p::r) x=if(x == p.1)=true then some (0,p.2)else(qef (.int .u8) (.int .i64) r x).bind fun q=>some (q.1+1,q.2):=rfl
theorem qr0 (p:Int×Int) (r:List (Int×Int)) (x z:Int):qhd (.int .u8) (.int .i64) (p::r) x z=if x=p.1 then p.2 else qhd (.int .u8) (.int .i64) r x z:=by
 unfold qhd
 rw [qrZ]
 by_cases h:x=p.1
 ·rw [if_pos (beq_iff_eq.2 h),if_pos h]
 ·rw [if_neg (by simpa using h),if_neg h]
  cases qef (.int .u8) (.int .i64) r x<;>rfl
def qmN:List (Int×Int)→Int→Int→Int
 | [],_,z=>z
 | p::r,x,z=>if x=p.1 then p.2 else qmN r x z
theorem ql8:∀(l:List (Int×Int)) (x z:Int),qhd (.int .u8) (.int .i64) l x z=qmN l x z
 | [],_,_=>rfl
 | p::r,x,z=>(qr0 p r x z).trans (by rw [qmN,ql8 r x z])
theorem qvA (k:Int):qhd (.int .u8) (.int .i64) qqw k 0=qaQ k:=by
 refine(ql8 qqw k 0).trans ?_
 unfold qqw qaQ
 simp only [qmN]
 repeat' split
 all_goals first | rfl | omega
def noW (d6:Int) (d7:List (Int×Int)) (d8:List Int):Bool:=decide (d6=0∧d7.length=0∧d8.length=0)
def noM (d9:ByteArray) (d10:Int) (d11 d12:List (Int×Int)):Bool:=decide (d9.data.toList= []∧d10=0∧d11.length=0∧d12.length=0)
def qee (n:Nat) (l:List Int):Bool:=l.all fun x=>decide (0≤x∧x<n)
def qc2 (f1:List Dv) (r:Int):Bool:=decide (0≤r∧r<f1.length) && (match f1[r.toNat]? with | some x=>decide (x.1=118) | none=>false)
noncomputable def okR (n:Nat) (f1:List Dv) (d0:Int) (d1:ByteArray) (d2:List Int) (d3 d4 d5 d6:Int) (d7:List (Int×Int)) (d8:List Int) (d9:ByteArray) (d10:Int) (d11 d12:List (Int×Int)):Bool:=
 decide (qaQ d0≠0) && decide ((d2.length:Int)=qaQ d0) && qaR d1 && qee n d2 &&
 (if d0=118∨d0=105 then okW d6 d7 d8 && decide (d4=0) && decide (d5=0) && noM d9 d10 d11 d12 && decide (d3=0)
  else if d0=100∨d0=115 then noW d6 d7 d8 && decide (d4=0) && decide (d5=0) && okM d9 d10 d11 d12 && decide (d10=d0) && decide (d3=0)
  else(if d0=102∨d0=104 then qc2 f1 d3 else decide (d3=0)) && okN d4 d5 && (decide (d4≠0) || !decide (d0=114∨d0=99∨d0=108)) && noW d6 d7 d8 && noM d9 d10 d11 d12)
theorem qr1 (d6:Int) (d7:List (Int×Int)) (d8:List Int) (h7:d7.length≤1000000000000000000) (h8:d8.length≤1000000000000000000):Rn (fun k=>qK k d6 d7 d8) (noW d6 d7 d8):=by
 refine Rn.up (f:=fun k=>qK k d6 d7 d8) ?_
 show Rn (fun k=>qhE k d6 d7 d8) _
 unfold qhE noW
 by_cases c:d6=0
 ·refine Rn.t (by simp [c]) (Rn.const (congrArg some ?_))
  rw [qf (by omega),Bool.eq_iff_iff,beq_iff_eq,decide_eq_true_eq]
  omega
 ·exact Rn.f (by simp [c]) (Rn.const (congrArg some (decide_eq_false (by omega)).symm))
theorem qqx (d9:ByteArray) (d10:Int) (d11 d12:List (Int×Int)) (h7:d11.length≤1000000000000000000) (h8:d12.length≤1000000000000000000):Rn (fun k=>qG k d9 d10 d11 d12) (noM d9 d10 d11 d12):=by
 refine Rn.up (f:=fun k=>qG k d9 d10 d11 d12) ?_
 show Rn (fun k=>qhe k d9 d10 d11 d12) _
 unfold qhe noM
 by_cases c:d9.data.toList= []
 ·refine Rn.t (by rw [c];rfl) ?_
  by_cases c2:d10=0
  ·refine Rn.t (by simp [c2]) (Rn.const (congrArg some ?_))
   rw [qf (by omega),Bool.eq_iff_iff,beq_iff_eq,decide_eq_true_eq]
   exact⟨fun h=>⟨c,c2,by omega,by omega⟩,fun h=>by omega⟩
  ·exact Rn.f (by simp [c2]) (Rn.const (congrArg some (decide_eq_false (fun h=>c2 h.2.1)).symm))
 ·refine Rn.f ?_ (Rn.const (congrArg some (decide_eq_false (fun h=>c h.1)).symm))
  rw [beq_iff_eq]
  exact c
section
variable (f0 : List ByteArray) (f1 : List Dv) (f2 f3 f4 : Int) (d0 : Int) (d1 : ByteArray) (d2 : List Int) (d3 d4 d5 d6 : Int) (d7 : List (Int × Int)) (d8 : List Int) (d9 : ByteArray) (d10 : Int) (d11 d12 : List (Int × Int))
variable (h1 : d1.size ≤ 1000000000000) (h2 : d2.length ≤ 1000000000000000000) (h7 : d7.length ≤ 1000000000000000000) (h8 : d8.length ≤ 1000000000000000000) (h9 : d9.size ≤ 1000000000000000000) (h11 : d11.length ≤ 1000000000000000000) (h12 : d12.length ≤ 1000000000000000000)
include h2
theorem qqy:Rn (fun k=>qbf k k d2 d2.length 0 f0 f1 f2 f3 f4 d0 d1 d2 d3 d4 d5 d6 d7 d8 d9 d10 d11 d12)
  (if qee f0.length d2=true then .inr (f0,f1,f2,f3,f4,d0,d1,d2,d3,d4,d5,d6,d7,d8,d9,d10,d11,d12)else .inl (false,f0,f1,f2,f3,f4,d0,d1,d2,d3,d4,d5,d6,d7,d8,d9,d10,d11,d12)):=by
 obtain⟨o,b1,b2⟩:=qdb d2.length 0 (fun k q i=>qbf k q d2 d2.length i f0 f1 f2 f3 f4 d0 d1 d2 d3 d4 d5 d6 d7 d8 d9 d10 d11 d12) (f0,f1,f2,f3,f4,d0,d1,d2,d3,d4,d5,d6,d7,d8,d9,d10,d11,d12)
  (fun a=>a=(false,f0,f1,f2,f3,f4,d0,d1,d2,d3,d4,d5,d6,d7,d8,d9,d10,d11,d12)) (fun j=>0≤d2.getD j 0∧d2.getD j 0<f0.length) (by
   refine Rl.up (f:=fun k q=>qbf k q d2 d2.length d2.length f0 f1 f2 f3 f4 d0 d1 d2 d3 d4 d5 d6 d7 d8 d9 d10 d11 d12) ?_
   show Rl (fun k q=>qcC k (qbf k q) _ _ _ _ _ _ _ _ _ _ _ _ _ _ _ _ _ _ _ _ _) _
   unfold qcC
   exact Rl.f (by simp) (Rl.pure _)) (by
   intro i hs hi hok o ho
   refine Rl.up (f:=fun k q=>qbf k q d2 d2.length i f0 f1 f2 f3 f4 d0 d1 d2 d3 d4 d5 d6 d7 d8 d9 d10 d11 d12) ?_
   show Rl (fun k q=>qcC k (qbf k q) _ _ _ _ _ _ _ _ _ _ _ _ _ _ _ _ _ _ _ _ _) _
   unfold qcC
   rw [qf (x:=(i:Int)+1) (by omega)]
   exact Rl.t (by first | omega | (simp only [decide_eq_true_eq,decide_eq_false_iff_not,Int.toNat_natCast,beq_iff_eq,bne_iff_ne,ne_eq,Int.not_lt,Int.not_le,ge_iff_le,gt_iff_lt,beq_eq_false_iff_ne,Nat.zero_add];omega)) (Rl.t (by first | omega | (simp only [decide_eq_true_eq,decide_eq_false_iff_not,Int.toNat_natCast,beq_iff_eq,bne_iff_ne,ne_eq,Int.not_lt,Int.not_le,ge_iff_le,gt_iff_lt,beq_eq_false_iff_ne,Nat.zero_add];omega)) (Rl.at (by rw [Int.toNat_natCast];exact getD_some 0 hi) (Rl.t (decide_eq_false (by omega)) (Rl.f (by rw [decide_eq_true_eq];omega) ho))))) (by
   intro i hs hi hok
   refine⟨_,rfl,Rl.up (f:=fun k q=>qbf k q d2 d2.length i f0 f1 f2 f3 f4 d0 d1 d2 d3 d4 d5 d6 d7 d8 d9 d10 d11 d12) ?_⟩
   show Rl (fun k q=>qcC k (qbf k q) _ _ _ _ _ _ _ _ _ _ _ _ _ _ _ _ _ _ _ _ _) _
   unfold qcC
   refine Rl.t (by first | omega | (simp only [decide_eq_true_eq,decide_eq_false_iff_not,Int.toNat_natCast,beq_iff_eq,bne_iff_ne,ne_eq,Int.not_lt,Int.not_le,ge_iff_le,gt_iff_lt,beq_eq_false_iff_ne,Nat.zero_add];omega)) (Rl.t (by first | omega | (simp only [decide_eq_true_eq,decide_eq_false_iff_not,Int.toNat_natCast,beq_iff_eq,bne_iff_ne,ne_eq,Int.not_lt,Int.not_le,ge_iff_le,gt_iff_lt,beq_eq_false_iff_ne,Nat.zero_add];omega)) (Rl.at (by rw [Int.toNat_natCast];exact getD_some 0 hi) ?_))
   by_cases c:d2.getD i 0<0
   ·exact Rl.f (by simp;exact c) (Rl.pure _)
   ·exact Rl.t (decide_eq_false c) (Rl.t (by rw [decide_eq_true_eq];omega) (Rl.pure _))) d2.length 0 (by omega) (by omega)
 have hall:qee f0.length d2=true↔∀j,0≤j→j<d2.length→0≤d2.getD j 0∧d2.getD j 0<f0.length:=by
  unfold qee
  rw [qgP]
  simp only [decide_eq_true_eq]
 rcases b2 with ⟨b2,rfl⟩ | ⟨b2,a,rfl,rfl⟩
 ·rw [if_pos (hall.2 b2)];exact b1.diag
 ·rw [if_neg (fun h=>b2 (hall.1 h))];exact b1.diag
include h1 h7 h8 h9 h11 h12
theorem qr2:Rn (fun k=>qfO k f0 f1 f2 f3 f4 d0 d1 d2 d3 d4 d5 d6 d7 d8 d9 d10 d11 d12) (okR f0.length f1 d0 d1 d2 d3 d4 d5 d6 d7 d8 d9 d10 d11 d12):=by
 refine Rn.up (f:=fun k=>qfO k f0 f1 f2 f3 f4 d0 d1 d2 d3 d4 d5 d6 d7 d8 d9 d10 d11 d12) ?_
 show Rn (fun k=>qgV k f0 f1 f2 f3 f4 d0 d1 d2 d3 d4 d5 d6 d7 d8 d9 d10 d11 d12) _
 obtain⟨K1,g1⟩:=qkH d1 h1
 obtain⟨K2,g2⟩:=qqy f0 f1 f2 f3 f4 d0 d1 d2 d3 d4 d5 d6 d7 d8 d9 d10 d11 d12 h2
 obtain⟨K3,g3⟩:=qnY d6 d7 d8 h7 h8
 obtain⟨K4,g4⟩:=qqx d9 d10 d11 d12 h11 h12
 obtain⟨K5,g5⟩:=qr1 d6 d7 d8 h7 h8
 obtain⟨K6,g6⟩:=qi8 d9 d10 d11 d12 h9 h11 h12
 obtain⟨K7,g7⟩:=qdo d4 d5
 refine⟨K1+K2+K3+K4+K5+K6+K7,fun k hk=> ?_⟩
 have e1:qfk k d1=_:=g1 k (by omega)
 have e2:qbf k k d2 d2.length 0 f0 f1 f2 f3 f4 d0 d1 d2 d3 d4 d5 d6 d7 d8 d9 d10 d11 d12=_:=g2 k (by omega)
 have e3:qeB k d6 d7 d8=_:=g3 k (by omega)
 have e4:qG k d9 d10 d11 d12=_:=g4 k (by omega)
 have e5:qK k d6 d7 d8=_:=g5 k (by omega)
 have e6:qdw k d9 d10 d11 d12=_:=g6 k (by omega)
 have e7:qZ k d4 d5=_:=g7 k (by omega)
 clear hk g1 g2 g3 g4 g5 g6 g7 h1 h2 h7 h8 h9 h11 h12
 show qgV k f0 f1 f2 f3 f4 d0 d1 d2 d3 d4 d5 d6 d7 d8 d9 d10 d11 d12=_
 unfold qgV
 rw [qvz,qvA]
 by_cases c0:qaQ d0=0
 ·rw [if_neg (by simp [c0])]
  simp [okR,c0]
 rw [if_pos (by simpa using c0)]
 by_cases c1:(d2.length:Int)=qaQ d0
 rotate_left
 ·rw [if_neg (by simpa using c1)]
  simp [okR,c1]
 rw [if_pos (by simpa using c1),e1]
 simp only [Option.bind_some]
 cases hl:qaR d1
 ·simp [okR,hl]
 simp only [Bool.not_true,Bool.false_eq_true,if_false,e2]
 cases hr:qee f0.length d2
 ·simp [okR,hl,hr,qc]
 simp only [if_true,Option.bind_some,qc,e3,e4,e5,e6,e7]
 have hok:okR f0.length f1 d0 d1 d2 d3 d4 d5 d6 d7 d8 d9 d10 d11 d12=(if d0=118∨d0=105 then okW d6 d7 d8 && decide (d4=0) && decide (d5=0) && noM d9 d10 d11 d12 && decide (d3=0)
  else if d0=100∨d0=115 then noW d6 d7 d8 && decide (d4=0) && decide (d5=0) && okM d9 d10 d11 d12 && decide (d10=d0) && decide (d3=0)
  else(if d0=102∨d0=104 then qc2 f1 d3 else decide (d3=0)) && okN d4 d5 && (decide (d4≠0) || !decide (d0=114∨d0=99∨d0=108)) && noW d6 d7 d8 && noM d9 d10 d11 d12):=by
  simp [okR,c0,c1,hl,hr]
 rw [hok]
 clear hok e1 e2 e3 e4 e5 e6 e7 c1 hl hr c0
 generalize okW d6 d7 d8=w
 generalize noM d9 d10 d11 d12=nm
 generalize noW d6 d7 d8=nw
 generalize okM d9 d10 d11 d12=mo
 generalize okN d4 d5=nn
 have href:∀r:Int,0≤r→r<f1.length→∃x,f1[r.toNat]? =some x:=fun r h h'=>⟨_,List.getElem?_eq_getElem (by omega)⟩
 by_cases k1:d0=118
 ·subst k1;simp;cases w<;>cases nm<;>simp<;>grind
 by_cases k2:d0=105
 ·subst k2;simp;cases w<;>cases nm<;>simp<;>grind
 by_cases k3:d0=100
 ·subst k3;simp;cases nw<;>cases mo<;>simp<;>grind
 by_cases k4:d0=115
 ·subst k4;simp;cases nw<;>cases mo<;>simp<;>grind
 have hf:∀(X:Int×ByteArray×List Int×Int×(Int×Int)×(Int×List (Int×Int)×List Int)×ByteArray×Int×List (Int×Int)×List (Int×Int)→Option Bool),qc2 f1 d3=false→(∀x,x.1≠118→X x=some false)→(if decide (d3<0)=false then if decide (d3≥((f1.length:Nat):Int))=false then if 0≤d3 then Option.bind f1[d3.toNat]? X else none else some false else some false)=some false:=by
  intro X hv hX
  by_cases a1:d3<0
  ·rw [if_neg (by simpa using a1)]
  ·rw [if_pos (by simpa using a1)]
   by_cases a2:d3≥((f1.length:Nat):Int)
   ·rw [if_neg (by simpa using a2)]
   ·obtain⟨x,hx⟩:=href d3 (by omega) (by omega)
    rw [if_pos (by simpa using a2),if_pos (by omega),hx,Option.bind_some]
    refine hX x fun e=> ?_
    simp [qc2,hx,e] at hv
    omega
 have ht:∀(X:Int×ByteArray×List Int×Int×(Int×Int)×(Int×List (Int×Int)×List Int)×ByteArray×Int×List (Int×Int)×List (Int×Int)→Option Bool) (r:Option Bool),qc2 f1 d3=true→(∀x,x.1=118→X x=r)→(if decide (d3<0)=false then if decide (d3≥((f1.length:Nat):Int))=false then if 0≤d3 then Option.bind f1[d3.toNat]? X else none else some false else some false)=r:=by
  intro X r hv hX
  simp only [qc2,Bool.and_eq_true,decide_eq_true_eq] at hv
  obtain⟨x,hx⟩:=href d3 (by omega) (by omega)
  rw [hx] at hv
  rw [if_pos (by simp;omega),if_pos (by simp;omega),if_pos (by omega),hx,Option.bind_some]
  exact hX x (by simpa using hv.2)
 by_cases k5:d0=102
 ·subst k5
  rw [if_neg (by decide),if_neg (by decide),if_neg (by decide),if_neg (by decide),if_pos (by decide)]
  cases hv:qc2 f1 d3
  ·rw [hf _ hv (fun x hx=>by rw [if_pos (by simpa using hx)])]
   simp [hv]
  ·refine ht _ _ hv (fun x hx=> ?_)
   rw [if_neg (by simpa using hx)]
   simp
   cases nn<;>cases nw<;>cases nm<;>simp<;>grind
 by_cases k6:d0=104
 ·subst k6
  rw [if_neg (by decide),if_neg (by decide),if_neg (by decide),if_neg (by decide),if_neg (by decide),if_pos (by decide)]
  cases hv:qc2 f1 d3
  ·rw [hf _ hv (fun x hx=>by rw [if_pos (by simpa using hx)])]
   simp [hv]
  ·refine ht _ _ hv (fun x hx=> ?_)
   rw [if_neg (by simpa using hx)]
   simp
   cases nn<;>cases nw<;>cases nm<;>simp<;>grind
 rw [if_neg (by simpa using k1),if_neg (by simpa using k2),if_neg (by simpa using k3),if_neg (by simpa using k4),if_neg (by simpa using k5),if_neg (by simpa using k6)]
 rw [if_neg (by omega:¬(d0=118∨d0=105)),if_neg (by omega:¬(d0=100∨d0=115)),if_neg (by omega:¬(d0=102∨d0=104))]
 by_cases z3:d3=0
 rotate_left
 ·rw [if_pos (by simpa using z3)];simp [z3]
 rw [if_neg (by simpa using z3)]
 by_cases k7:d0=114
 ·subst k7;simp [z3];cases nn<;>cases nw<;>cases nm<;>simp<;>grind
 by_cases k8:d0=99
 ·subst k8;simp [z3];cases nn<;>cases nw<;>cases nm<;>simp<;>grind
 by_cases k9:d0=108
 ·subst k9;simp [z3];cases nn<;>cases nw<;>cases nm<;>simp<;>grind
 ·simp [z3,k7,k8,k9];cases nn<;>cases nw<;>cases nm<;>simp<;>grind
end
def twB (l:List ByteArray):Bool:= !decide ((l.map dl).Nodup)
def qd2 (s:List (ByteArray×Int)):List (List UInt8):=s.map fun p=>dl p.1
theorem qll:∀(s:List (ByteArray×Int)) (x:ByteArray),dl x∉qd2 s→qef .str (.int .i64) s x=none
 | [],_,_=>rfl
 | p::r,x,h=>by
  have h1:¬dl x=dl p.1:=fun e=>h (by simp [qd2,e])
  have h2:=qll r x (fun e=>h (by simp [qd2] at e ⊢;exact .inr e))
  unfold qef
  have e:kEq .str x p.1=false:=by
   show((dl x) == (dl p.1))=false
   rw [beq_eq_false_iff_ne]
   exact h1
  rw [e]
  simp only [Bool.false_eq_true,if_false]
  rw [h2];rfl
theorem qlm:∀(s:List (ByteArray×Int)) (x:ByteArray),dl x∈qd2 s→∃q,qef .str (.int .i64) s x=some q∧∃p,s[q.1]? =some p∧dl p.1=dl x
 | [],_,h=>by simp [qd2] at h
 | p::r,x,h=>by
  unfold qef
  by_cases h1:dl x=dl p.1
  ·have e:kEq .str x p.1=true:=by
    show((dl x) == (dl p.1))=true
    rw [beq_iff_eq]
    exact h1
   rw [e]
   exact⟨_,if_pos rfl,p,rfl,h1.symm⟩
  ·have e:kEq .str x p.1=false:=by
    show((dl x) == (dl p.1))=false
    rw [beq_eq_false_iff_ne]
    exact h1
   obtain⟨q,h2,p',h3,h4⟩:=qlm r x (by
    simp only [qd2,List.map_cons,List.mem_cons] at h
    rcases h with h | h
    ·exact absurd h h1
    ·exact h)
   rw [e,h2]
   exact⟨(q.1+1,q.2),rfl,p',h3,h4⟩
theorem qtr {s:List (ByteArray×Int)} {x:ByteArray} (v:Int) (h:dl x∉qd2 s):qao .str (.int .i64) s x v=s++ [(x,v)]:=by
 unfold qao
 rw [qll s x h]
theorem qts {s:List (ByteArray×Int)} {x:ByteArray} (v:Int) (h:dl x∈qd2 s):∃s':List (ByteArray×Int),qao .str (.int .i64) s x v=s'∧s'.length=s.length∧qd2 s'=qd2 s:=by
 obtain⟨q,h1,p,h2,h3⟩:=qlm s x h
 refine⟨s.set q.1 (x,v),?_,List.length_set,?_⟩
 ·unfold qao
  rw [h1]
 ·have hq:=(List.getElem?_eq_some_iff.1 h2)
  obtain⟨hlt,hp⟩:=hq
  unfold qd2
  rw [List.map_set]
  apply List.ext_getElem?
  intro j
  by_cases c:q.1=j
  ·subst c
   rw [List.getElem?_set_self (by rw [List.length_map];exact hlt),List.getElem?_map,h2]
   show some (dl x)=some (dl p.1)
   rw [h3]
  ·rw [List.getElem?_set_ne c]
theorem qoB (l:List ByteArray) (hl:l.length≤1000000000000000000):∀(d i:Nat) (seen:List (ByteArray×Int)),i+d=l.length→(∀y,y∈qd2 seen↔y∈(l.take i).map dl)→seen.length≤i→(seen.length=i↔((l.take i).map dl).Nodup)→
  ∃s':List (ByteArray×Int),Rl (fun k q=>qc9 k q l l l.length (i:Int) seen) (l,s')∧s'.length≤l.length∧(s'.length=l.length↔(l.map dl).Nodup):=by
 intro d
 induction d with
 | zero=>
  intro i seen e hk h1 h2
  have ei:i=l.length:=by omega
  subst ei
  rw [List.take_length] at h2
  refine⟨seen,Rl.up (f:=fun k q=>qc9 k q l l l.length (l.length:Int) seen) ?_,h1,h2⟩
  show Rl (fun k q=>qd7 k (qc9 k q) _ _ _ _ _) _
  unfold qd7
  exact Rl.f (by first | omega | (simp only [decide_eq_true_eq,decide_eq_false_iff_not,Int.toNat_natCast,beq_iff_eq,bne_iff_ne,ne_eq,Int.not_lt,Int.not_le,ge_iff_le,gt_iff_lt,beq_eq_false_iff_ne,Nat.zero_add];omega)) (Rl.pure _)
 | succ d ih=>
  intro i seen e hk h1 h2
  have hi:i<l.length:=by omega
  have eg:l[i]? =some l[i]:=List.getElem?_eq_getElem hi
  have et:(l.take (i+1)).map dl=(l.take i).map dl++ [dl l[i]]:=by rw [List.take_add_one,eg,List.map_append];rfl
  obtain⟨s2,f1,f2,f3⟩:∃s2:List (ByteArray×Int),qao .str (.int .i64) seen l[i] (IntKind.i64.wrap (qhd .str (.int .i64) seen l[i] 0+1))=s2∧(∀y,y∈qd2 s2↔y∈(l.take (i+1)).map dl)∧s2.length≤i+1∧(s2.length=i+1↔((l.take (i+1)).map dl).Nodup):=by
   rw [et]
   have nd:((l.take i).map dl++ [dl l[i]]).Nodup↔((l.take i).map dl).Nodup∧dl l[i]∉(l.take i).map dl:=by
    rw [List.nodup_append]
    constructor
    ·intro ⟨a,b,c⟩
     exact⟨a,fun hm=>c _ hm _ (by simp) rfl⟩
    ·intro ⟨a,b⟩
     exact⟨a,by simp,fun x hx y hy=>by simp at hy;subst hy;exact fun e=>b (e▸hx)⟩
   by_cases c:dl l[i]∈qd2 seen
   ·obtain⟨s',m1,m2,m3⟩:=qts (IntKind.i64.wrap (qhd .str (.int .i64) seen l[i] 0+1)) c
    refine⟨s',m1,fun y=> ?_,by omega,?_⟩
    ·rw [m3,hk,List.mem_append,List.mem_singleton]
     exact⟨.inl,fun h=>h.elim id fun e=>by rw [e];exact(hk _).1 c⟩
    ·rw [nd]
     exact⟨fun h=>by omega,fun h=>absurd ((hk _).1 c) h.2⟩
   ·refine⟨_,qtr _ c,fun y=> ?_,by rw [List.length_append];simp;omega,?_⟩
    ·unfold qd2 at hk ⊢
     rw [List.map_append,List.mem_append,hk,List.mem_append]
     rfl
    ·rw [nd,List.length_append]
     simp only [List.length_singleton,Nat.add_right_cancel_iff]
     exact⟨fun h=>⟨h2.1 h,fun hm=>c ((hk _).2 hm)⟩,fun h=>h2.2 h.1⟩
  obtain⟨s',b1,b2,b3⟩:=ih (i+1) s2 (by omega) f2 f3.1 f3.2
  refine⟨s',Rl.up (f:=fun k q=>qc9 k q l l l.length (i:Int) seen) ?_,b2,b3⟩
  show Rl (fun k q=>qd7 k (qc9 k q) _ _ _ _ _) _
  unfold qd7
  rw [qf (x:=(i:Int)+1) (by omega)]
  refine Rl.t (by first | omega | (simp only [decide_eq_true_eq,decide_eq_false_iff_not,Int.toNat_natCast,beq_iff_eq,bne_iff_ne,ne_eq,Int.not_lt,Int.not_le,ge_iff_le,gt_iff_lt,beq_eq_false_iff_ne,Nat.zero_add];omega)) (Rl.t (by first | omega | (simp only [decide_eq_true_eq,decide_eq_false_iff_not,Int.toNat_natCast,beq_iff_eq,bne_iff_ne,ne_eq,Int.not_lt,Int.not_le,ge_iff_le,gt_iff_lt,beq_eq_false_iff_ne,Nat.zero_add];omega)) (Rl.at (by rw [Int.toNat_natCast];exact eg) ?_))
  rw [f1]
  exact b1
theorem ql9 (l:List ByteArray) (hl:l.length≤1000000000000000000):Rn (fun k=>qb4 k l) (twB l):=by
 obtain⟨s',b1,b2,b3⟩:=qoB l hl l.length 0 [] (by omega) (by simp [qd2]) (by simp) (by simp)
 refine Rn.up (f:=fun k=>qb4 k l) ?_
 show Rn (fun k=>qh9 k l) _
 unfold qh9 twB
 refine Rn.bind b1.diag (Rn.const (congrArg some ?_))
 rw [Bool.eq_iff_iff,bne_iff_ne,Bool.not_eq_true',decide_eq_false_iff_not,←b3]
 show(((s'.length:Nat):Int)≠((l.length:Nat):Int))↔_
 omega
theorem qvB (s:ByteArray) (l:List ByteArray) (hl:l.length≤1000000000000000000):Rn (fun k=>qdE k s l) (decide (dl s∈l.map dl)):=by
 obtain⟨o,b1,b2⟩:=qdb l.length 0 (fun k q i=>qaz k q s l i) () (fun a=>a=true) (fun j=>∀x,l[j]? =some x→dl x≠dl s) (by
   refine Rl.up (f:=fun k q=>qaz k q s l l.length) ?_
   show Rl (fun k q=>qbw k (qaz k q) _ _ _) _
   unfold qbw
   exact Rl.f (by simp) (Rl.pure _)) (by
   intro i hs hi hok o ho
   refine Rl.up (f:=fun k q=>qaz k q s l i) ?_
   show Rl (fun k q=>qbw k (qaz k q) _ _ _) _
   unfold qbw
   rw [qf (x:=(i:Int)+1) (by omega)]
   have eg:=List.getElem?_eq_getElem hi
   exact Rl.t (by first | omega | (simp only [decide_eq_true_eq,decide_eq_false_iff_not,Int.toNat_natCast,beq_iff_eq,bne_iff_ne,ne_eq,Int.not_lt,Int.not_le,ge_iff_le,gt_iff_lt,beq_eq_false_iff_ne,Nat.zero_add];omega)) (Rl.t (by first | omega | (simp only [decide_eq_true_eq,decide_eq_false_iff_not,Int.toNat_natCast,beq_iff_eq,bne_iff_ne,ne_eq,Int.not_lt,Int.not_le,ge_iff_le,gt_iff_lt,beq_eq_false_iff_ne,Nat.zero_add];omega)) (Rl.at (by rw [Int.toNat_natCast];exact eg) (Rl.f (by rw [beq_iff_eq];exact hok _ eg) ho)))) (by
   intro i hs hi hok
   have eg:=List.getElem?_eq_getElem hi
   refine⟨true,rfl,Rl.up (f:=fun k q=>qaz k q s l i) ?_⟩
   show Rl (fun k q=>qbw k (qaz k q) _ _ _) _
   unfold qbw
   have:dl (l[i])=dl s:=Classical.byContradiction fun h=>hok fun x hx=>by rw [eg] at hx;cases hx;exact h
   exact Rl.t (by first | omega | (simp only [decide_eq_true_eq,decide_eq_false_iff_not,Int.toNat_natCast,beq_iff_eq,bne_iff_ne,ne_eq,Int.not_lt,Int.not_le,ge_iff_le,gt_iff_lt,beq_eq_false_iff_ne,Nat.zero_add];omega)) (Rl.t (by first | omega | (simp only [decide_eq_true_eq,decide_eq_false_iff_not,Int.toNat_natCast,beq_iff_eq,bne_iff_ne,ne_eq,Int.not_lt,Int.not_le,ge_iff_le,gt_iff_lt,beq_eq_false_iff_ne,Nat.zero_add];omega)) (Rl.at (by rw [Int.toNat_natCast];exact eg) (Rl.t (by rw [beq_iff_eq];exact this) (Rl.pure _))))) l.length 0 (by omega) (by omega)
 have hall:dl s∈l.map dl↔¬ ∀j,0≤j→j<l.length→∀x,l[j]? =some x→dl x≠dl s:=by
  rw [List.mem_map]
  constructor
  ·rintro⟨x,hx,e⟩ h
   obtain⟨j,hj,ej⟩:=List.mem_iff_getElem.1 hx
   exact h j (Nat.zero_le _) hj x (by rw [List.getElem?_eq_getElem hj,ej]) e
  ·intro h
   exact Classical.byContradiction fun h2=>h fun j _ hj x hx e=>h2 ⟨x,List.mem_of_getElem? hx,e⟩
 refine Rn.up (f:=fun k=>qdE k s l) ?_
 show Rn (fun k=>qga k s l) _
 unfold qga
 refine Rn.bind b1.diag ?_
 rcases b2 with ⟨b2,rfl⟩ | ⟨b2,a,rfl,rfl⟩
 ·rw [decide_eq_false (fun h=>hall.1 h b2)];exact Rn.pure _
 ·rw [decide_eq_true (hall.2 b2)];exact Rn.pure _
theorem qma (l:List ByteArray) (hl:l.length≤1000000000000000000):Rn (fun k=>qbX k l) (twB l):=by
 have hin:∀i,i<l.length→∀x,l[i]? =some x→Rn (fun k=>qdE k x (l.take i)) (decide (dl x∈(l.take i).map dl)):=fun i hi x _=>qvB x _ (by rw [List.length_take];omega)
 obtain⟨o,b1,b2⟩:=qdb l.length 0 (fun k q i=>qak k q l i) () (fun a=>a=true) (fun j=>∀x,l[j]? =some x→dl x∉(l.take j).map dl) (by
   refine Rl.up (f:=fun k q=>qak k q l l.length) ?_
   show Rl (fun k q=>qa6 k (qak k q) _ _) _
   unfold qa6
   exact Rl.f (by simp) (Rl.pure _)) (by
   intro i hs hi hok o ho
   refine Rl.up (f:=fun k q=>qak k q l i) ?_
   show Rl (fun k q=>qa6 k (qak k q) _ _) _
   unfold qa6
   rw [qf (x:=(i:Int)+1) (by omega)]
   have eg:=List.getElem?_eq_getElem hi
   have hx:=hin i hi _ eg
   rw [decide_eq_false (hok _ eg)] at hx
   exact Rl.t (by first | omega | (simp only [decide_eq_true_eq,decide_eq_false_iff_not,Int.toNat_natCast,beq_iff_eq,bne_iff_ne,ne_eq,Int.not_lt,Int.not_le,ge_iff_le,gt_iff_lt,beq_eq_false_iff_ne,Nat.zero_add];omega)) (Rl.t (by first | omega | (simp only [decide_eq_true_eq,decide_eq_false_iff_not,Int.toNat_natCast,beq_iff_eq,bne_iff_ne,ne_eq,Int.not_lt,Int.not_le,ge_iff_le,gt_iff_lt,beq_eq_false_iff_ne,Nat.zero_add];omega)) (Rl.at (by rw [Int.toNat_natCast];exact eg) (Rl.t (by first | omega | (simp only [decide_eq_true_eq,decide_eq_false_iff_not,Int.toNat_natCast,beq_iff_eq,bne_iff_ne,ne_eq,Int.not_lt,Int.not_le,ge_iff_le,gt_iff_lt,beq_eq_false_iff_ne,Nat.zero_add];omega)) (Rl.bind (by rw [Int.toNat_natCast];exact hx) (Rl.f (by decide) ho)))))) (by
   intro i hs hi hok
   have eg:=List.getElem?_eq_getElem hi
   refine⟨true,rfl,Rl.up (f:=fun k q=>qak k q l i) ?_⟩
   show Rl (fun k q=>qa6 k (qak k q) _ _) _
   unfold qa6
   have hm:dl (l[i])∈(l.take i).map dl:=Classical.byContradiction fun h=>hok fun x hx=>by rw [eg] at hx;cases hx;exact h
   have hx:=hin i hi _ eg
   rw [decide_eq_true hm] at hx
   exact Rl.t (by first | omega | (simp only [decide_eq_true_eq,decide_eq_false_iff_not,Int.toNat_natCast,beq_iff_eq,bne_iff_ne,ne_eq,Int.not_lt,Int.not_le,ge_iff_le,gt_iff_lt,beq_eq_false_iff_ne,Nat.zero_add];omega)) (Rl.t (by first | omega | (simp only [decide_eq_true_eq,decide_eq_false_iff_not,Int.toNat_natCast,beq_iff_eq,bne_iff_ne,ne_eq,Int.not_lt,Int.not_le,ge_iff_le,gt_iff_lt,beq_eq_false_iff_ne,Nat.zero_add];omega)) (Rl.at (by rw [Int.toNat_natCast];exact eg) (Rl.t (by first | omega | (simp only [decide_eq_true_eq,decide_eq_false_iff_not,Int.toNat_natCast,beq_iff_eq,bne_iff_ne,ne_eq,Int.not_lt,Int.not_le,ge_iff_le,gt_iff_lt,beq_eq_false_iff_ne,Nat.zero_add];omega)) (Rl.bind (by rw [Int.toNat_natCast];exact hx) (Rl.t (by decide) (Rl.pure _))))))) l.length 0 (by omega) (by omega)
 have hnd:∀i,i≤l.length→(((l.take i).map dl).Nodup↔∀j,0≤j→j<i→∀x,l[j]? =some x→dl x∉(l.take j).map dl):=by
  intro i
  induction i with
  | zero=>intro _;simp
  | succ i ih=>
   intro hi
   have eg:=List.getElem?_eq_getElem (show i<l.length by omega)
   rw [List.take_add_one,eg]
   simp only [Option.toList_some,List.map_append,List.map_singleton]
   rw [List.nodup_append,ih (by omega)]
   constructor
   ·rintro⟨a,_,c⟩ j _ hj x hx
    rcases Nat.lt_or_ge j i with k | k
    ·exact a j (Nat.zero_le _) k x hx
    ·obtain rfl:j=i:=by omega
     rw [eg] at hx;cases hx
     exact fun hm=>c _ hm _ (by simp) rfl
   ·intro h
    exact⟨fun j h0 hj x hx=>h j h0 (by omega) x hx,by simp,fun x hx y hy=>by
     simp at hy;subst hy
     exact fun e=>h i (Nat.zero_le _) (by omega) _ eg (e▸hx)⟩
 have hl2:=hnd l.length (Nat.le_refl _)
 rw [List.take_length] at hl2
 refine Rn.up (f:=fun k=>qbX k l) ?_
 show Rn (fun k=>qfD k l) _
 unfold qfD twB
 refine Rn.bind b1.diag ?_
 rcases b2 with ⟨b2,rfl⟩ | ⟨b2,a,rfl,rfl⟩
 ·rw [decide_eq_true (hl2.2 b2)];exact Rn.pure _
 ·rw [decide_eq_false (fun h=>b2 (hl2.1 h))];exact Rn.pure _
def bBr:ByteArray:=ByteArray.mk (List.toArray (118::(101::(104::(99::(108::(116:: [])))))))
def brB (d:Dv):Bool:=decide (0≤qeI bBr d.1)
def brL:Int→List Dv→List Int
 | _,[]=> []
 | n,d::l=>if brB d then n::brL (n+1) l else -1::brL n l
def qeq (l:List Dv):Nat:=l.countP brB
theorem qis:∀(l:List Dv) (n:Int),(brL n l).length=l.length
 | [],_=>rfl
 | d::l,n=>by unfold brL;split<;>simp [qis l]
theorem qqz (f1:List Dv) (hl:f1.length≤1000000000):∀(d i:Nat) (n:Int) (ls:List Int),i+d=f1.length→ls.length=i→0≤n+1→n≤1000000000+i→
  Rl (fun k q=>qda k q n ls.length f1 f1.length (i:Int) ls) (n+qeq (f1.drop i),f1.length,ls++brL n (f1.drop i)):=by
 intro d
 induction d with
 | zero=>
  intro i n ls e h1 h2 h3
  obtain rfl:i=f1.length:=by omega
  rw [List.drop_length]
  refine Rl.up (f:=fun k q=>qda k q n ls.length f1 f1.length (f1.length:Int) ls) ?_
  show Rl (fun k q=>qeb k (qda k q) _ _ _ _ _ _) _
  unfold qeb
  simp only [brL,List.append_nil]
  rw [h1]
  exact Rl.f (by first | omega | (simp only [decide_eq_true_eq,decide_eq_false_iff_not,Int.toNat_natCast,beq_iff_eq,bne_iff_ne,ne_eq,Int.not_lt,Int.not_le,ge_iff_le,gt_iff_lt,beq_eq_false_iff_ne,Nat.zero_add];omega)) (by simpa [qeq] using Rl.pure _)
 | succ d ih=>
  intro i n ls e h1 h2 h3
  have hi:i<f1.length:=by omega
  have eg:f1[i]? =some f1[i]:=List.getElem?_eq_getElem hi
  have edr:f1.drop i=f1[i]::f1.drop (i+1):=List.drop_eq_getElem_cons hi
  generalize f1[i]=x at eg edr
  rw [edr]
  refine Rl.up (f:=fun k q=>qda k q n ls.length f1 f1.length (i:Int) ls) ?_
  show Rl (fun k q=>qeb k (qda k q) _ _ _ _ _ _) _
  unfold qeb
  rw [qf (x:=(i:Int)+1) (by omega)]
  refine Rl.t (by first | omega | (simp only [decide_eq_true_eq,decide_eq_false_iff_not,Int.toNat_natCast,beq_iff_eq,bne_iff_ne,ne_eq,Int.not_lt,Int.not_le,ge_iff_le,gt_iff_lt,beq_eq_false_iff_ne,Nat.zero_add];omega)) (Rl.t (by first | omega | (simp only [decide_eq_true_eq,decide_eq_false_iff_not,Int.toNat_natCast,beq_iff_eq,bne_iff_ne,ne_eq,Int.not_lt,Int.not_le,ge_iff_le,gt_iff_lt,beq_eq_false_iff_ne,Nat.zero_add];omega)) (Rl.at (by rw [Int.toNat_natCast];exact eg) (Rl.bind (qn0 _ _) ?_)))
  by_cases c:0≤qeI bBr x.1
  ·have ih':=ih (i+1) (n+1) (ls++ [n]) (by omega) (by rw [List.length_append];simp;omega) (by omega) (by omega)
   rw [qf (x:=n+1) (by omega)]
   have hb:brB x=true:=decide_eq_true c
   have e1:List.take 1 [n]= [n]:=rfl
   refine Rl.t (decide_eq_true c) (Rl.t (Nat.le_refl _) (Rl.t (by rw [e1];simp only [List.length_singleton];omega) ?_))
   rw [e1,List.take_length]
   rw [List.length_append] at ih'
   rw [brL,if_pos hb,qeq,List.countP_cons_of_pos hb]
   rw [show n+((List.countP brB (f1.drop (i+1))+1:Nat):Int)=n+1+((List.countP brB (f1.drop (i+1)):Nat):Int) by omega]
   rw [List.append_assoc] at ih'
   exact ih'
  ·have ih':=ih (i+1) n (ls++ [-1]) (by omega) (by rw [List.length_append];simp;omega) (by omega) (by omega)
   have hb:¬brB x=true:=fun h=>c (of_decide_eq_true h)
   have e1:List.take 1 [(-1:Int)]= [-1]:=rfl
   refine Rl.f (fun h=>c (of_decide_eq_true h)) (Rl.t (Nat.le_refl _) (Rl.t (by omega) ?_))
   rw [e1,List.take_length]
   rw [List.length_append] at ih'
   rw [brL,if_neg hb,qeq,List.countP_cons_of_neg hb]
   rw [List.append_assoc] at ih'
   exact ih'
theorem qph (f0:List ByteArray) (f1:List Dv) (f2 f3 f4:Int) (h0:f0.length≤1000000000) (hl:f1.length≤1000000000):Rn (fun k=>qcR k f0 f1 f2 f3 f4) ((f0.length:Int)-1+qeq f1,brL ((f0.length:Int)-1) f1):=by
 have h:=qqz f1 hl f1.length 0 ((f0.length:Int)-1) [] (by omega) rfl (by omega) (by omega)
 rw [List.drop_zero] at h
 refine Rn.up (f:=fun k=>qcR k f0 f1 f2 f3 f4) ?_
 show Rn (fun k=>qic k f0 f1 f2 f3 f4) _
 unfold qic
 rw [qf (x:=(f0.length:Int)-1) (by omega)]
 refine Rn.bind h.diag (Rn.t (by simp [qis]) (Rn.const (congrArg some ?_)))
 simp only [List.nil_append]
 rw [List.take_of_length_le (by rw [qis];exact Nat.le_refl _)]
structure GoodD (d:Dv):Prop where
 kd:0≤d.1∧d.1<256
 nm:d.2.1.size≤1000000000000
 nd:d.2.2.1.length≤1000000000000
 wv:d.2.2.2.2.2.1.2.1.length≤1000000000000
 ws:d.2.2.2.2.2.1.2.2.length≤1000000000000
 mn:d.2.2.2.2.2.2.1.size≤1000000000000
 mg:d.2.2.2.2.2.2.2.2.1.length≤1000000000000
 mv:d.2.2.2.2.2.2.2.2.2.length≤1000000000000
structure Gd (f0:List ByteArray) (f1:List Dv):Prop where
 l0:f0.length≤1000000000
 l1:f1.length≤1000000000
 nm:∀s∈f0,s.size≤1000000000000
 dv:∀d∈f1,GoodD d
noncomputable def qgA (n:Nat) (f1:List Dv) (d:Dv):Bool:=okR n f1 d.1 d.2.1 d.2.2.1 d.2.2.2.1 d.2.2.2.2.1.1 d.2.2.2.2.1.2 d.2.2.2.2.2.1.1 d.2.2.2.2.2.1.2.1 d.2.2.2.2.2.1.2.2 d.2.2.2.2.2.2.1 d.2.2.2.2.2.2.2.1 d.2.2.2.2.2.2.2.2.1 d.2.2.2.2.2.2.2.2.2
def b0:List UInt8:= [48]
noncomputable def qer (f0:List ByteArray) (f1:List Dv) (f2 f3 f4:Int):Bool:=
 okN f2 f3 && decide (0<f2) && decide (f4=1∨f4=2) && decide (1≤f0.length∧f0.length≤32) && decide (f1.length≤64) && decide ((f0.map dl).headD []=b0) && !twB f0 && f0.all qaR && f1.all (qgA f0.length f1) && !twB (f1.map fun d=>d.2.1)
noncomputable def chk (f0:List ByteArray) (f1:List Dv) (f2 f3 f4:Int):Int:=
 if qer f0 f1 f2 f3 f4=true then(if(48:Int)<(f0.length:Int)-1+qeq f1 then 5 else 0)else 90
section
variable (f0 : List ByteArray) (f1 : List Dv) (f2 f3 f4 : Int) (g : Gd f0 f1)
include g
theorem qoC:∃a,a.1=(90:Int)∧Rn (fun k=>qaH k k f0 f0.length 0 f0 f1 f2 f3 f4) (if f0.all qaR=true then .inr (f0,f1,f2,f3,f4)else .inl a):=by
 obtain⟨o,b1,b2⟩:=qdb f0.length 0 (fun k q i=>qaH k q f0 f0.length i f0 f1 f2 f3 f4) (f0,f1,f2,f3,f4) (fun a=>a=(90,f0,f1,f2,f3,f4)) (fun j=>∀x,f0[j]? =some x→qaR x=true) (by
   refine Rl.up (f:=fun k q=>qaH k q f0 f0.length f0.length f0 f1 f2 f3 f4) ?_
   show Rl (fun k q=>qcD k (qaH k q) _ _ _ _ _ _ _ _) _
   unfold qcD
   exact Rl.f (by simp) (Rl.pure _)) (by
   intro i hs hi hok o ho
   refine Rl.up (f:=fun k q=>qaH k q f0 f0.length i f0 f1 f2 f3 f4) ?_
   show Rl (fun k q=>qcD k (qaH k q) _ _ _ _ _ _ _ _) _
   unfold qcD
   have eg:=List.getElem?_eq_getElem hi
   have hx:=qkH _ (g.nm _ (List.getElem_mem hi))
   rw [hok _ eg] at hx
   have:=g.l0
   rw [qf (x:=(i:Int)+1) (by omega)]
   exact Rl.t (by first | omega | (simp only [decide_eq_true_eq,decide_eq_false_iff_not,Int.toNat_natCast,beq_iff_eq,bne_iff_ne,ne_eq,Int.not_lt,Int.not_le,ge_iff_le,gt_iff_lt,beq_eq_false_iff_ne,Nat.zero_add];omega)) (Rl.t (by first | omega | (simp only [decide_eq_true_eq,decide_eq_false_iff_not,Int.toNat_natCast,beq_iff_eq,bne_iff_ne,ne_eq,Int.not_lt,Int.not_le,ge_iff_le,gt_iff_lt,beq_eq_false_iff_ne,Nat.zero_add];omega)) (Rl.at (by rw [Int.toNat_natCast];exact eg) (Rl.bind hx (Rl.f (by decide) ho))))) (by
   intro i hs hi hok
   refine⟨_,rfl,Rl.up (f:=fun k q=>qaH k q f0 f0.length i f0 f1 f2 f3 f4) ?_⟩
   show Rl (fun k q=>qcD k (qaH k q) _ _ _ _ _ _ _ _) _
   unfold qcD
   have eg:=List.getElem?_eq_getElem hi
   have hx:=qkH _ (g.nm _ (List.getElem_mem hi))
   have hf:qaR (f0[i]'hi)=false:=by
    rw [←Bool.not_eq_true]
    exact fun h=>hok fun x hx=>by rw [eg] at hx;cases hx;exact h
   rw [hf] at hx
   exact Rl.t (by first | omega | (simp only [decide_eq_true_eq,decide_eq_false_iff_not,Int.toNat_natCast,beq_iff_eq,bne_iff_ne,ne_eq,Int.not_lt,Int.not_le,ge_iff_le,gt_iff_lt,beq_eq_false_iff_ne,Nat.zero_add];omega)) (Rl.t (by first | omega | (simp only [decide_eq_true_eq,decide_eq_false_iff_not,Int.toNat_natCast,beq_iff_eq,bne_iff_ne,ne_eq,Int.not_lt,Int.not_le,ge_iff_le,gt_iff_lt,beq_eq_false_iff_ne,Nat.zero_add];omega)) (Rl.at (by rw [Int.toNat_natCast];exact eg) (Rl.bind hx (Rl.t (by decide) (Rl.pure _)))))) f0.length 0 (by omega) (by omega)
 have hall:f0.all qaR=true↔∀j,0≤j→j<f0.length→∀x,f0[j]? =some x→qaR x=true:=by
  rw [List.all_eq_true]
  exact⟨fun h j _ _ x hx=>h x (List.mem_of_getElem? hx),fun h x hx=>by
   obtain⟨j,hj,e⟩:=List.mem_iff_getElem.1 hx
   exact h j (Nat.zero_le _) hj x (by rw [List.getElem?_eq_getElem hj,e])⟩
 refine⟨(90,f0,f1,f2,f3,f4),rfl,?_⟩
 rcases b2 with ⟨b2,rfl⟩ | ⟨b2,a,rfl,rfl⟩
 ·rw [if_pos (hall.2 b2)];exact b1.diag
 ·rw [if_neg (fun h=>b2 (hall.1 h))];exact b1.diag
theorem qr3 (d:Dv) (hd:d∈f1):Rn (fun k=>qfO k f0 f1 f2 f3 f4 d.1 d.2.1 d.2.2.1 d.2.2.2.1 d.2.2.2.2.1.1 d.2.2.2.2.1.2 d.2.2.2.2.2.1.1 d.2.2.2.2.2.1.2.1 d.2.2.2.2.2.1.2.2 d.2.2.2.2.2.2.1 d.2.2.2.2.2.2.2.1 d.2.2.2.2.2.2.2.2.1 d.2.2.2.2.2.2.2.2.2) (qgA f0.length f1 d):=by
 have h:=g.dv d hd
 have a1:=h.nm
 have a2:=h.nd
 have a3:=h.wv
 have a4:=h.ws
 have a5:=h.mn
 have a6:=h.mg
 have a7:=h.mv
 exact qr2 f0 f1 f2 f3 f4 _ _ _ _ _ _ _ _ _ _ _ _ _ a1 (by omega) (by omega) (by omega) (by omega) (by omega) (by omega)
theorem qqA:∀(d i:Nat) (ls:List ByteArray),i+d=f1.length→ls=(f1.take i).map (fun d=>d.2.1)→
  ∃a,a.1=(90:Int)∧Rl (fun k q=>qar k q ls.length f1 f1.length (i:Int) f0 f1 f2 f3 f4 ls) (if(f1.drop i).all (qgA f0.length f1)=true then .inr (f1.length,f0,f1,f2,f3,f4,f1.map fun d=>d.2.1)else .inl a):=by
 intro d
 induction d with
 | zero=>
  intro i ls e hl
  obtain rfl:i=f1.length:=by omega
  rw [List.take_length] at hl
  refine⟨(90,f0,f1,f2,f3,f4,[],0,ByteArray.mk #[],[],0,0,0,0,[],[],ByteArray.mk #[],0,[],[]),rfl,Rl.up (f:=fun k q=>qar k q ls.length f1 f1.length (f1.length:Int) f0 f1 f2 f3 f4 ls) ?_⟩
  show Rl (fun k q=>qcE k (qar k q) _ _ _ _ _ _ _ _ _ _) _
  unfold qcE
  rw [List.drop_length,if_pos (by rfl),hl,List.length_map]
  exact Rl.f (by first | omega | (simp only [decide_eq_true_eq,decide_eq_false_iff_not,Int.toNat_natCast,beq_iff_eq,bne_iff_ne,ne_eq,Int.not_lt,Int.not_le,ge_iff_le,gt_iff_lt,beq_eq_false_iff_ne,Nat.zero_add];omega)) (Rl.pure _)
 | succ d ih=>
  intro i ls e hl
  have hi:i<f1.length:=by omega
  have hm:=List.getElem_mem hi
  have eg:f1[i]? =some f1[i]:=List.getElem?_eq_getElem hi
  have edr:f1.drop i=f1[i]::f1.drop (i+1):=List.drop_eq_getElem_cons hi
  have et:f1.take (i+1)=f1.take i++ [f1[i]]:=by rw [List.take_add_one,eg];rfl
  generalize f1[i]=x at eg edr et hm
  have hx:=qr3 f0 f1 f2 f3 f4 g x hm
  have hg:=g.l1
  have hlen:ls.length=i:=by rw [hl,List.length_map,List.length_take];omega
  rw [edr,List.all_cons]
  cases hb:qgA f0.length f1 x
  ·rw [hb] at hx
   refine⟨(90,f0,f1,f2,f3,f4,ls,x.1,x.2.1,x.2.2.1,x.2.2.2.1,x.2.2.2.2.1.1,x.2.2.2.2.1.2,x.2.2.2.2.2.1.1,x.2.2.2.2.2.1.2.1,x.2.2.2.2.2.1.2.2,x.2.2.2.2.2.2.1,x.2.2.2.2.2.2.2.1,x.2.2.2.2.2.2.2.2.1,x.2.2.2.2.2.2.2.2.2),rfl,Rl.up (f:=fun k q=>qar k q ls.length f1 f1.length (i:Int) f0 f1 f2 f3 f4 ls) ?_⟩
   show Rl (fun k q=>qcE k (qar k q) _ _ _ _ _ _ _ _ _ _) _
   unfold qcE
   rw [Bool.false_and,if_neg (by decide)]
   exact Rl.t (by first | omega | (simp only [decide_eq_true_eq,decide_eq_false_iff_not,Int.toNat_natCast,beq_iff_eq,bne_iff_ne,ne_eq,Int.not_lt,Int.not_le,ge_iff_le,gt_iff_lt,beq_eq_false_iff_ne,Nat.zero_add];omega)) (Rl.t (by first | omega | (simp only [decide_eq_true_eq,decide_eq_false_iff_not,Int.toNat_natCast,beq_iff_eq,bne_iff_ne,ne_eq,Int.not_lt,Int.not_le,ge_iff_le,gt_iff_lt,beq_eq_false_iff_ne,Nat.zero_add];omega)) (Rl.at (by rw [Int.toNat_natCast];exact eg) (Rl.bind hx (Rl.t (by decide) (Rl.pure _)))))
  ·rw [hb] at hx
   obtain⟨a,ha,b⟩:=ih (i+1) (ls++ [x.2.1]) (by omega) (by rw [et,List.map_append,←hl];rfl)
   refine⟨a,ha,Rl.up (f:=fun k q=>qar k q ls.length f1 f1.length (i:Int) f0 f1 f2 f3 f4 ls) ?_⟩
   show Rl (fun k q=>qcE k (qar k q) _ _ _ _ _ _ _ _ _ _) _
   unfold qcE
   rw [qf (x:=(i:Int)+1) (by omega),Bool.true_and]
   have e1:List.take 1 [x.2.1]= [x.2.1]:=rfl
   refine Rl.t (by first | omega | (simp only [decide_eq_true_eq,decide_eq_false_iff_not,Int.toNat_natCast,beq_iff_eq,bne_iff_ne,ne_eq,Int.not_lt,Int.not_le,ge_iff_le,gt_iff_lt,beq_eq_false_iff_ne,Nat.zero_add];omega)) (Rl.t (by first | omega | (simp only [decide_eq_true_eq,decide_eq_false_iff_not,Int.toNat_natCast,beq_iff_eq,bne_iff_ne,ne_eq,Int.not_lt,Int.not_le,ge_iff_le,gt_iff_lt,beq_eq_false_iff_ne,Nat.zero_add];omega)) (Rl.at (by rw [Int.toNat_natCast];exact eg) (Rl.bind hx (Rl.f (by decide) (Rl.t (Nat.le_refl _) (Rl.t (by rw [e1];simp only [List.length_singleton];omega) ?_))))))
   rw [e1,List.take_length]
   rw [List.length_append] at b
   exact b
theorem qr4:Rn (fun k=>qdX k f0 f1 f2 f3 f4) (chk f0 f1 f2 f3 f4):=by
 refine Rn.up (f:=fun k=>qdX k f0 f1 f2 f3 f4) ?_
 show Rn (fun k=>qgW k f0 f1 f2 f3 f4) _
 have g0:=g.l0
 have g1:=g.l1
 obtain⟨a1,a2,K1,h1⟩:=qoC f0 f1 f2 f3 f4 g
 obtain⟨c1,c2,c3⟩:=qqA f0 f1 f2 f3 f4 g f1.length 0 [] (by omega) rfl
 obtain⟨K2,h2⟩:=c3.diag
 obtain⟨K3,h3⟩:=qdo f2 f3
 obtain⟨K4,h4⟩:=ql9 f0 (by omega)
 obtain⟨K5,h5⟩:=ql9 (f1.map fun d=>d.2.1) (by rw [List.length_map];omega)
 obtain⟨K6,h6⟩:=qph f0 f1 f2 f3 f4 g0 g1
 refine⟨K1+K2+K3+K4+K5+K6,fun k hk=> ?_⟩
 have e1:qaH k k f0 f0.length 0 f0 f1 f2 f3 f4=_:=h1 k (by omega)
 have e2:qar k k 0 f1 f1.length 0 f0 f1 f2 f3 f4 []=_:=h2 k (by omega)
 have e3:qZ k f2 f3=_:=h3 k (by omega)
 have e4:qb4 k f0=_:=h4 k (by omega)
 have e5:qb4 k (f1.map fun d=>d.2.1)=_:=h5 k (by omega)
 have e6:qcR k f0 f1 f2 f3 f4=_:=h6 k (by omega)
 clear h1 h2 h3 h4 h5 h6 hk c3 g
 show qgW k f0 f1 f2 f3 f4=_
 unfold qgW chk qer
 rw [e3,Option.bind_some]
 cases hn:okN f2 f3
 ·simp
 rw [if_pos (by rfl)]
 by_cases p2:0<f2
 rotate_left
 ·rw [if_neg (by simpa using p2)];simp [p2]
 rw [if_pos (by simpa using p2)]
 by_cases q:f4=1∨f4=2
 rotate_left
 ·rw [if_pos (by simp;omega),if_pos (by simp;omega)];simp [q]
 rcases q with q | q
 ·rw [if_neg (by simp [q])]
  by_cases l1:1≤f0.length
  rotate_left
  ·rw [if_neg (by rw [decide_eq_false_iff_not];omega)];simp [l1]
  rw [if_pos (by rw [decide_eq_false_iff_not];omega)]
  by_cases l2:f0.length≤32
  rotate_left
  ·rw [if_neg (by rw [decide_eq_false_iff_not];omega)];simp [l2]
  rw [if_pos (by rw [decide_eq_false_iff_not];omega)]
  obtain⟨x,r,ex⟩:∃x r,f0=x::r:=by cases f0 with | nil=>simp at l1 | cons x r=>exact⟨x,r,rfl⟩
  have ex0:f0[0]? =some x:=by rw [ex];rfl
  have exh:(f0.map dl).headD []=dl x:=by rw [ex];rfl
  rw [ex0,Option.bind_some]
  by_cases hz:dl x=b0
  rotate_left
  ·rw [if_neg (by simp only [Bool.not_eq_false',beq_iff_eq];exact hz)];rw [decide_eq_false (p:=(f0.map dl).headD []=b0) (by rw [exh];exact hz)];simp
  rw [if_pos (by simp only [Bool.not_eq_false',beq_iff_eq];exact hz)]
  by_cases l3:f1.length≤64
  rotate_left
  ·rw [if_neg (by rw [decide_eq_false_iff_not];omega)];simp [l3]
  rw [if_pos (by rw [decide_eq_false_iff_not];omega),e4,Option.bind_some]
  cases ht:twB f0
  rotate_left
  ·simp
  rw [if_neg (by decide),e1,Option.bind_some]
  cases hl:f0.all qaR
  ·simp [qc,a2]
  rw [if_pos rfl]
  show Option.bind (qar k k 0 f1 f1.length 0 f0 f1 f2 f3 f4 []) _=_
  rw [List.drop_zero] at e2
  erw [e2]
  rw [Option.bind_some]
  cases hd:f1.all (qgA f0.length f1)
  ·simp [qc,c2]
  rw [if_pos rfl]
  show(if 0+f1.length≤(f1.map fun d=>d.2.1).length then _ else none)=_
  rw [if_pos (by rw [List.length_map];omega)]
  show Option.bind (qb4 k (List.take f1.length (f1.map fun d=>d.2.1))) _=_
  rw [List.take_of_length_le (by rw [List.length_map];omega),e5,Option.bind_some]
  cases hw:twB (f1.map fun d=>d.2.1)
  rotate_left
  ·simp
  rw [if_neg (by decide)]
  show Option.bind (qcR k f0 f1 f2 f3 f4) _=_
  rw [e6,Option.bind_some,exh]
  simp only [p2,q,l1,l2,l3,hz,decide_true,Bool.and_true,Bool.not_false,and_self,if_true,true_or,or_true]
  by_cases l4:(48:Int)<(f0.length:Int)-1+qeq f1
  ·rw [if_pos (by rw [decide_eq_true_eq];exact l4),if_pos l4]
  ·rw [if_neg (by rw [decide_eq_true_eq];exact l4),if_neg l4]
 ·rw [if_pos (by simp [q]),if_neg (by simp [q])]
  by_cases l1:1≤f0.length
  rotate_left
  ·rw [if_neg (by rw [decide_eq_false_iff_not];omega)];simp [l1]
  rw [if_pos (by rw [decide_eq_false_iff_not];omega)]
  by_cases l2:f0.length≤32
  rotate_left
  ·rw [if_neg (by rw [decide_eq_false_iff_not];omega)];simp [l2]
  rw [if_pos (by rw [decide_eq_false_iff_not];omega)]
  obtain⟨x,r,ex⟩:∃x r,f0=x::r:=by cases f0 with | nil=>simp at l1 | cons x r=>exact⟨x,r,rfl⟩
  have ex0:f0[0]? =some x:=by rw [ex];rfl
  have exh:(f0.map dl).headD []=dl x:=by rw [ex];rfl
  rw [ex0,Option.bind_some]
  by_cases hz:dl x=b0
  rotate_left
  ·rw [if_neg (by simp only [Bool.not_eq_false',beq_iff_eq];exact hz)];rw [decide_eq_false (p:=(f0.map dl).headD []=b0) (by rw [exh];exact hz)];simp
  rw [if_pos (by simp only [Bool.not_eq_false',beq_iff_eq];exact hz)]
  by_cases l3:f1.length≤64
  rotate_left
  ·rw [if_neg (by rw [decide_eq_false_iff_not];omega)];simp [l3]
  rw [if_pos (by rw [decide_eq_false_iff_not];omega),e4,Option.bind_some]
  cases ht:twB f0
  rotate_left
  ·simp
  rw [if_neg (by decide),e1,Option.bind_some]
  cases hl:f0.all qaR
  ·simp [qc,a2]
  rw [if_pos rfl]
  show Option.bind (qar k k 0 f1 f1.length 0 f0 f1 f2 f3 f4 []) _=_
  rw [List.drop_zero] at e2
  erw [e2]
  rw [Option.bind_some]
  cases hd:f1.all (qgA f0.length f1)
  ·simp [qc,c2]
  rw [if_pos rfl]
  show(if 0+f1.length≤(f1.map fun d=>d.2.1).length then _ else none)=_
  rw [if_pos (by rw [List.length_map];omega)]
  show Option.bind (qb4 k (List.take f1.length (f1.map fun d=>d.2.1))) _=_
  rw [List.take_of_length_le (by rw [List.length_map];omega),e5,Option.bind_some]
  cases hw:twB (f1.map fun d=>d.2.1)
  rotate_left
  ·simp
  rw [if_neg (by decide)]
  show Option.bind (qcR k f0 f1 f2 f3 f4) _=_
  rw [e6,Option.bind_some,exh]
  simp only [p2,q,l1,l2,l3,hz,decide_true,Bool.and_true,Bool.not_false,and_self,if_true,true_or,or_true]
  by_cases l4:(48:Int)<(f0.length:Int)-1+qeq f1
  ·rw [if_pos (by rw [decide_eq_true_eq];exact l4),if_pos l4]
  ·rw [if_neg (by rw [decide_eq_true_eq];exact l4),if_neg l4]
end
def Ref (A B:Nat→Nat):Prop:=∀x y,A x=A y→B x=B y
theorem Ref.jn {A B:Nat→Nat} (h:Ref A B) (a b:Nat):Ref (Am.jn A a b) (Am.jn B a b):=by
 intro x y e
 unfold Am.jn at e ⊢
 by_cases c1:A x=A a
 ·have d1:=h _ _ c1
  rw [if_pos c1] at e
  rw [if_pos d1]
  by_cases c2:A y=A a
  ·rw [if_pos (h _ _ c2)]
  ·rw [if_neg c2] at e
   have d2:=h _ _ e
   split<;>simp_all
 ·rw [if_neg c1] at e
  by_cases c2:A y=A a
  ·rw [if_pos c2] at e
   have d2:=h _ _ c2
   have d3:=h _ _ e
   rw [if_pos d2]
   split<;>simp_all
  ·rw [if_neg c2] at e
   rw [h _ _ e]
theorem Ref.jn1 {A B:Nat→Nat} (h:Ref A B) (a b:Nat):Ref A (Am.jn B a b):=by
 intro x y e
 unfold Am.jn
 rw [h _ _ e]
theorem Ref.tie {A B:Nat→Nat} (h:Ref A B) {s t:ByteArray} (d:Dv) (hs:0≤qeI s d.1→0≤qeI t d.1):Ref (Am.tie s A d) (Am.tie t B d):=by
 have key:Ref (if 0≤qeI s d.1 then Am.jn A (nd d 0) (nd d 1)else A) (if 0≤qeI t d.1 then Am.jn B (nd d 0) (nd d 1)else B):=by
  by_cases c1:0≤qeI s d.1
  ·rw [if_pos c1,if_pos (hs c1)];exact h.jn _ _
  ·rw [if_neg c1]
   split
   ·exact h.jn1 _ _
   ·exact h
 unfold Am.tie
 split
 ·exact key.jn _ _
 ·exact key
theorem Ref.ties {s t:ByteArray} (hs:∀c,0≤qeI s c→0≤qeI t c):∀(l:List Dv) (A B:Nat→Nat),Ref A B→Ref (l.foldl (Am.tie s) A) (l.foldl (Am.tie t) B)
 | [],_,_,h=>h
 | d::l,A,B,h=>Ref.ties hs l _ _ (h.tie d (hs _))
theorem qpi (c:UInt8):∀l:List UInt8,0≤Go.Lib.indexByte l c↔c∈l
 | []=>by simp [Go.Lib.indexByte]
 | b::l=>by
  have ih:=qpi c l
  have hg:=Go.Lib.indexByte_ge l c
  unfold Go.Lib.indexByte
  by_cases e:(b == c)=true
  ·rw [if_pos e]
   have:b=c:=by simpa using e
   simp [this]
  ·rw [if_neg e]
   have hne:¬c=b:=fun h=>e (by simp [h])
   by_cases e2:(Go.Lib.indexByte l c == -1)=true
   ·rw [if_pos e2]
    have e3:Go.Lib.indexByte l c= -1:=by simpa using e2
    have:¬c∈l:=fun h=>by have:=ih.2 h;omega
    simp [hne,this]
   ·rw [if_neg e2]
    have e3:¬Go.Lib.indexByte l c= -1:=by simpa using e2
    have:c∈l:=ih.1 (by omega)
    simp only [List.mem_cons,this,or_true,iff_true]
    omega
theorem qtt (s:ByteArray) (c:Int):0≤qeI s c↔c.toNat.toUInt8∈s.data.toList:=qpi _ _
section
variable (b : List Int) (hb : b.length ≤ 1000000000) (sb : b.Pairwise (· < ·))
include hb sb
end
def Chk (f0:List ByteArray) (f1:List Dv) (c:Int):Prop:=c=0→1≤f0.length∧f0.length≤1000000000∧f1.length≤1000000000∧∀d∈f1,OkD f0.length d
section
variable (f0 : List ByteArray) (f1 : List Dv) (f2 f3 f4 c : Int) (hc : Rn (fun k => qdX k f0 f1 f2 f3 f4) c) (hok : Chk f0 f1 c)
include hc
include hok
end
theorem qB1 {c:Int} (h:0≤c∧c<256) (n:Nat) (hn:n<256):c.toNat.toUInt8=n.toUInt8↔c=n:=by
 constructor
 ·intro e
  have:=congrArg UInt8.toNat e
  rw [Nat.toUInt8_eq,Nat.toUInt8_eq,UInt8.toNat_ofNat',UInt8.toNat_ofNat'] at this
  rw [Nat.mod_eq_of_lt (by omega),Nat.mod_eq_of_lt (by omega)] at this
  omega
 ·rintro rfl;rfl
theorem qn6 {f0:List ByteArray} {f1:List Dv} {f2 f3 f4:Int} (h:chk f0 f1 f2 f3 f4=0):qer f0 f1 f2 f3 f4=true:=by
 unfold chk at h
 split at h
 ·assumption
 ·omega
abbrev qln:Cd:= .pr (.int .i64) (.int .i64)
abbrev qA7:Cd:= .pr (.int .u8) (.pr .str (.pr (.sl (.int .i64)) (.pr (.int .i64) (.pr qln (.pr (.pr (.int .i64) (.pr (.sl qln) (.sl (.int .i64)))) (.pr .str (.pr (.int .u8) (.pr (.sl qln) (.sl qln)))))))))
abbrev qlo:Cd:= .pr (.sl .str) (.pr (.sl qA7) (.pr qln (.int .i64)))
theorem qA8 {x:qlo.D} (w:qgB 8589934592 qlo x):Gd x.1 x.2.1:=by
 obtain⟨⟨⟨_,w0⟩,w1⟩,⟨⟨_,w2⟩,w3⟩,_⟩:=w
 simp only [Cd.by] at w0 w2
 refine⟨by omega,by omega,fun s hs=> ?_,fun d hd=> ?_⟩
 ·have:=(w1 s hs).2
  omega
 ·obtain⟨k0,⟨_,k1⟩,⟨⟨_,k2⟩,_⟩,_,_,⟨_,⟨⟨_,k3⟩,_⟩,⟨_,k4⟩,_⟩,⟨_,k5⟩,_,⟨⟨_,k6⟩,_⟩,⟨_,k7⟩,_⟩:=w3 d hd
  simp only [Cd.by] at k2 k3 k4 k6 k7
  simp only [qgB,Lit.wf,IntKind.min,IntKind.max,IntKind.signed,IntKind.bits] at k0
  refine⟨?_,by omega,by omega,by omega,by omega,by omega,by omega,by omega⟩
  simp at k0
  omega
def qlp (l m:List Dv):Prop:=(l.map fun d=>(d.1,d.2.2.1)).Perm (m.map fun d=>(d.1,d.2.2.1))
theorem qlp.flat {l m:List Dv} (h:qlp l m) {β:Type} (f:Dv→List β) (g:Int×List Int→List β) (hg:∀d,f d=g (d.1,d.2.2.1)):(l.flatMap f).Perm (m.flatMap f):=by
 have e:∀l:List Dv,l.flatMap f=(l.map fun d=>(d.1,d.2.2.1)).flatMap g:=fun l=>by
  rw [List.flatMap_map]
  congr 1
  funext d
  exact hg d
 rw [e,e]
 exact h.flatMap_right _
theorem qlp.symm {l m:List Dv} (h:qlp l m):qlp m l:=List.Perm.symm h
theorem qtv {x0 x2 y0 y2:Bool} {x1 x3 y1 y3:List Int} {x y:Rat} (hx:FrU x0 x1 x2 x3 x) (hy:FrU y0 y1 y2 y3 y) (l1:x1.length≤10000) (l3:x3.length≤10000) (m1:y1.length≤10000) (m3:y3.length≤10000):
  Rn (fun k=>qdD k x0 x1 x2 x3 y0 y1 y2 y3) (qkB x y):=by
 obtain⟨s1,n1,a1,a2,a3⟩:=qgO x0 y2 x1 y3 hx.1 hy.2 (by omega) (by omega)
 obtain⟨s2,n2,b1,b2,b3⟩:=qgO y0 x2 y1 x3 hy.1 hx.2 (by omega) (by omega)
 exact Rn.up (f:=fun k=>qdD k x0 x1 x2 x3 y0 y1 y2 y3) (Rn.bind a1 (Rn.bind b1 (Rn.bind (qvo s1 s2 n1 n2 a2 b2 (by omega) (by omega)) (Rn.pure _))))
section
variable (m0 : ByteArray) (m1 : Int) (m2 m3 : List (Int × Int)) (h0 : m0.size ≤ 1000000000000000000) (h2 : m2.length ≤ 1000000000000000000) (h3 : m3.length ≤ 1000000000000000000)
include h0 h2 h3
theorem qtw:∃o,Rl (fun k n=>qS k n 0 m0 m1 m2 m3) o∧
  (qgQ m2∧o= .inr (m0,m1,m2,m3)∨¬qgQ m2∧∃a:Bool×ByteArray×Int×List (Int×Int)×List (Int×Int),a.1=false∧o= .inl a):=by
 refine qdb m2.length 0 (fun k n i=>qS k n i m0 m1 m2 m3) (m0,m1,m2,m3) (fun a=>a.1=false) (fun j=>okN (m2.getD j (0,0)).1 (m2.getD j (0,0)).2=true) ?_ ?_ ?_ m2.length 0 (by omega) (by omega)
 ·refine Rl.up (f:=fun k n=>qS k n m2.length m0 m1 m2 m3) (Rl.of 0 fun k n _=> ?_)
  show qa3 k (qS k n) _ _ _ _ _=_
  unfold qa3
  exact if_neg (by simp)
 ·intro i hs hi hok o ho
  refine Rl.up (f:=fun k n=>qS k n i m0 m1 m2 m3) ?_
  show Rl (fun k n=>qa3 k (qS k n) _ _ _ _ _) _
  unfold qa3
  refine Rl.t (decide_eq_true (by omega)) (Rl.t (by omega) (Rl.at (getD_some (0,0) (by omega)) (Rl.bind (qdp _ _) (Rl.f (by rw [Int.toNat_natCast,hok];decide) ?_))))
  rw [qf (by omega)]
  exact ho
 ·intro i hs hi hok
  refine⟨(false,m0,m1,m2,m3),rfl,Rl.up (f:=fun k n=>qS k n i m0 m1 m2 m3) ?_⟩
  show Rl (fun k n=>qa3 k (qS k n) _ _ _ _ _) _
  unfold qa3
  exact Rl.t (decide_eq_true (by omega)) (Rl.t (by omega) (Rl.at (getD_some (0,0) (by rw [Int.toNat_natCast];omega)) (Rl.bind (qdp _ _) (Rl.t (by rw [Int.toNat_natCast,Bool.eq_false_iff.2 hok];decide) (Rl.pure _)))))
theorem qtx:∃o,Rl (fun k n=>qU k n 0 m0 m1 m2 m3) o∧
  ((∀j,0≤j→j<m3.length→okN (m3.getD j (0,0)).1 (m3.getD j (0,0)).2=true∧(m1=100→1≤j→qed m3 (j-1)<qed m3 j))∧o= .inr (m0,m1,m2,m3)∨
   (¬ ∀j,0≤j→j<m3.length→okN (m3.getD j (0,0)).1 (m3.getD j (0,0)).2=true∧(m1=100→1≤j→qed m3 (j-1)<qed m3 j))∧∃a:Bool×ByteArray×Int×List (Int×Int)×List (Int×Int),a.1=false∧o= .inl a):=by
 have hh:∀i,1≤i→i<m3.length→okN (m3.getD (i-1) (0,0)).1 (m3.getD (i-1) (0,0)).2=true→okN (m3.getD i (0,0)).1 (m3.getD i (0,0)).2=true→
   ∃s p t r s' p' t' r',Rn (fun k=>qcg k (m3.getD (i-1) (0,0)).1 (m3.getD (i-1) (0,0)).2) (s,p,t,r)∧Rn (fun k=>qcg k (m3.getD i (0,0)).1 (m3.getD i (0,0)).2) (s',p',t',r')∧
    Rn (fun k=>qdD k s p t r s' p' t' r') (qkB (qed m3 (i-1)) (qed m3 i)):=by
  intro i i1 i2 g1 g2
  obtain⟨s,p,t,r,a1,a2,a3,a4⟩:=qpb g1
  obtain⟨s',p',t',r',b1,b2,b3,b4⟩:=qpb g2
  exact⟨s,p,t,r,s',p',t',r',a1,b1,qtv a2 b2 (by omega) (by omega) (by omega) (by omega)⟩
 refine qA6 m3.length 0 (fun k n i=>qU k n i m0 m1 m2 m3) (m0,m1,m2,m3) (fun a=>a.1=false) (fun j=>okN (m3.getD j (0,0)).1 (m3.getD j (0,0)).2=true∧(m1=100→1≤j→qed m3 (j-1)<qed m3 j)) ?_ ?_ ?_ m3.length 0 (by omega) (by omega) (fun j _ h=>absurd h (by omega))
 ·refine Rl.up (f:=fun k n=>qU k n m3.length m0 m1 m2 m3) (Rl.of 0 fun k n _=> ?_)
  show qa4 k (qU k n) _ _ _ _ _=_
  unfold qa4
  exact if_neg (by simp)
 ·intro i hs hi hp hok o ho
  refine Rl.up (f:=fun k n=>qU k n i m0 m1 m2 m3) ?_
  show Rl (fun k n=>qa4 k (qU k n) _ _ _ _ _) _
  unfold qa4
  have hg:=getD_some (0,0) hi
  refine Rl.t (decide_eq_true (by omega)) (Rl.t (by omega) ?_)
  rw [Int.toNat_natCast]
  refine Rl.at hg (Rl.bind (qdp _ _) (Rl.f (by rw [hok.1];decide) ?_))
  have e2:(IntKind.i64.wrap ((i:Int)+1))=(i:Int)+1:=qf (by omega)
  rw [e2]
  by_cases k1:m1=100
  ·refine Rl.t (by rw [beq_iff_eq];exact k1) ?_
   by_cases k2:1≤i
   ·have e1:(IntKind.i64.wrap ((i:Int)-1))=((i-1:Nat):Int):=by rw [qf (by omega)];omega
    rw [e1,Int.toNat_natCast]
    obtain⟨s,p,t,r,s',p',t',r',c1,c2,c3⟩:=hh i k2 hi (hp (i-1) (by omega) (by omega)).1 hok.1
    exact Rl.t (decide_eq_true (by omega)) (Rl.t (by omega) (Rl.at (getD_some (0,0) (by omega)) (Rl.bind c1 (Rl.t (by omega) (Rl.at hg (Rl.bind c2 (Rl.bind c3 (Rl.f (by rw [decide_eq_true_eq,qj0];exact fun h=>h (hok.2 k1 k2)) ho))))))))
   ·exact Rl.f (by rw [decide_eq_true_eq];omega) ho
  ·exact Rl.f (by rw [beq_iff_eq];exact k1) ho
 ·intro i hs hi hp hok
  refine⟨(false,m0,m1,m2,m3),rfl,Rl.up (f:=fun k n=>qU k n i m0 m1 m2 m3) ?_⟩
  show Rl (fun k n=>qa4 k (qU k n) _ _ _ _ _) _
  unfold qa4
  have hg:=getD_some (0,0) hi
  refine Rl.t (decide_eq_true (by omega)) (Rl.t (by omega) ?_)
  rw [Int.toNat_natCast]
  refine Rl.at hg (Rl.bind (qdp _ _) ?_)
  by_cases k0:okN (m3.getD i (0,0)).1 (m3.getD i (0,0)).2=true
  rotate_left
  ·exact Rl.t (by rw [Bool.eq_false_iff.2 k0];decide) (Rl.pure _)
  refine Rl.f (by rw [k0];decide) ?_
  have k1:m1=100:=Classical.byContradiction fun k1=>hok ⟨k0,fun h=>absurd h k1⟩
  have k2:1≤i:=Classical.byContradiction fun k2=>hok ⟨k0,fun _ h=>absurd h k2⟩
  have k3:¬qed m3 (i-1)<qed m3 i:=fun h=>hok ⟨k0,fun _ _=>h⟩
  refine Rl.t (by rw [beq_iff_eq];exact k1) ?_
  have e1:(IntKind.i64.wrap ((i:Int)-1))=((i-1:Nat):Int):=by rw [qf (by omega)];omega
  rw [e1,Int.toNat_natCast]
  obtain⟨s,p,t,r,s',p',t',r',c1,c2,c3⟩:=hh i k2 hi (hp (i-1) (by omega) (by omega)).1 k0
  exact Rl.t (decide_eq_true (by omega)) (Rl.t (by omega) (Rl.at (getD_some (0,0) (by omega)) (Rl.bind c1 (Rl.t (by omega) (Rl.at hg (Rl.bind c2 (Rl.bind c3 (Rl.t (by rw [decide_eq_true_eq,qj0];exact k3) (Rl.pure _)))))))))
theorem qke:Rn (fun k=>qh k m0 m1 m2 m3) (okM m0 m1 m2 m3):=by
 refine Rn.up (f:=fun k=>qh k m0 m1 m2 m3) ?_
 show Rn (fun k=>qfB k m0 m1 m2 m3) _
 unfold qfB
 refine Rn.bind (qkG m0 h0) ?_
 by_cases hn:qdF m0=true
 rotate_left
 ·refine Rn.t (by simp [hn]) (Rn.const (congrArg some (qch (by simp [hn]))))
 refine Rn.f (by simp [hn]) ?_
 obtain⟨o,a1,a2⟩:=qtw m0 m1 m2 m3 h0 h2 h3
 refine Rn.bind a1.diag ?_
 rcases a2 with ⟨g1,rfl⟩ | ⟨a2,⟨q1,q2,q3,q4,q5⟩,e,rfl⟩
 rotate_left
 ·exact Rn.const (congrArg some (qch (by simp only at e;subst e;simp only [Bool.false_eq_true,false_iff];exact fun h=>a2 h.2.gs)))
 obtain⟨o,b1,b2⟩:=qtx m0 m1 m2 m3 h0 h2 h3
 refine Rn.bind b1.diag ?_
 rcases b2 with ⟨g2,rfl⟩ | ⟨a2,⟨q1,q2,q3,q4,q5⟩,e,rfl⟩
 rotate_left
 ·refine Rn.const (congrArg some (qch ?_))
  simp only at e
  subst e
  simp only [Bool.false_eq_true,false_iff]
  rintro⟨_,h⟩
  refine a2 fun j _ j2=>⟨h.vs j (by omega) j2,fun k1 j1=> ?_⟩
  rcases h.kind with k | k
  ·omega
  ·exact k.2.2.2.2 j j1 j2
 have g3:qgQ m3:=fun j j1 j2=>(g2 j j1 j2).1
 show Rn (fun k=>if(m1 == 115)=true then _ else if(m1 == 100)=true then _ else _) _
 by_cases k1:m1=115
 ·refine Rn.t (by rw [beq_iff_eq];exact k1) ?_
  by_cases c1:m2.length=2
  ·refine Rn.t (by rw [beq_iff_eq];exact congrArg _ c1) (Rn.const (congrArg some (qch ?_)))
   rw [beq_iff_eq]
   constructor
   ·intro h;have h:(m3.length:Int)=1:=h;exact⟨hn,g1,g3,.inl ⟨k1,c1,by omega⟩⟩
   ·rintro⟨_,h⟩;show(m3.length:Int)=1;have:=h.kind;omega
  ·refine Rn.f (by rw [beq_iff_eq];show ¬(m2.length:Int)=2;omega) (Rn.const (congrArg some (qch ?_)))
   simp only [Bool.false_eq_true,false_iff]
   rintro⟨_,h⟩;have:=h.kind;omega
 refine Rn.f (by rw [beq_iff_eq];exact k1) ?_
 by_cases k2:m1=100
 rotate_left
 ·refine Rn.f (by rw [beq_iff_eq];exact k2) (Rn.const (congrArg some (qch ?_)))
  simp only [Bool.false_eq_true,false_iff]
  rintro⟨_,h⟩;have:=h.kind;omega
 refine Rn.t (by rw [beq_iff_eq];exact k2) ?_
 by_cases c1:m2.length<1
 ·refine Rn.f (by rw [decide_eq_true_eq];show ¬(m2.length:Int)≥1;omega) (Rn.const (congrArg some (qch ?_)))
  simp only [Bool.false_eq_true,false_iff]
  rintro⟨_,h⟩;have:=h.kind;omega
 refine Rn.t (decide_eq_true (show(m2.length:Int)≥1 by omega)) ?_
 by_cases c2:m2.length>4
 ·refine Rn.f (by rw [decide_eq_true_eq];show ¬(m2.length:Int)≤4;omega) (Rn.const (congrArg some (qch ?_)))
  simp only [Bool.false_eq_true,false_iff]
  rintro⟨_,h⟩;have:=h.kind;omega
 refine Rn.t (decide_eq_true (show(m2.length:Int)≤4 by omega)) (Rn.const (congrArg some (qch ?_)))
 have e1:(IntKind.i64.wrap ((m3.length:Int)+1))=(m3.length:Int)+1:=qf (by omega)
 rw [beq_iff_eq]
 show IntKind.i64.wrap ((m3.length:Int)+1)=(m2.length:Int)↔_
 rw [e1]
 constructor
 ·intro h;exact⟨hn,g1,g3,.inr ⟨k2,by omega,by omega,by omega,fun j j1 j2=>(g2 j (by omega) j2).2 k2 j1⟩⟩
 ·rintro⟨_,h⟩;have:=h.kind;omega
noncomputable def qjy (k1:Int):Int:=if okM m0 m1 m2 m3=true then(if 0≤k1∧k1<m2.length then 0 else 111)else 50
omit h0 h2 h3 in
theorem qpj {k1:Int} (h:¬okM m0 m1 m2 m3=true):qjy m0 m1 m2 m3 k1=50:=if_neg h
omit h0 h2 h3 in
theorem qkK {k1:Int} (h:okM m0 m1 m2 m3=true) (h1:¬(0≤k1∧k1<m2.length)):qjy m0 m1 m2 m3 k1=111:=by unfold qjy;rw [if_pos h,if_neg h1]
omit h0 h2 h3 in
theorem qpk {k1:Int} (h:okM m0 m1 m2 m3=true) (h1:0≤k1∧k1<m2.length):qjy m0 m1 m2 m3 k1=0:=by unfold qjy;rw [if_pos h,if_pos h1]
theorem qqE (k1:Int):Rn (fun k=>qdk k m0 m1 m2 m3 k1) (qjy m0 m1 m2 m3 k1):=by
 refine Rn.up (f:=fun k=>qdk k m0 m1 m2 m3 k1) (Rn.bind (qke m0 m1 m2 m3 h0 h2 h3) ?_)
 have e1:(IntKind.i64.wrap ((m2.length:Int)-1))=(m2.length:Int)-1:=qf (by omega)
 by_cases h:okM m0 m1 m2 m3=true
 ·refine Rn.f (by rw [h];decide) ?_
  by_cases h1:k1<0
  ·rw [qkK m0 m1 m2 m3 h (by omega)]
   exact Rn.f (by rw [decide_eq_false_iff_not];omega) (Rn.pure _)
  ·refine Rn.t (by rw [decide_eq_false_iff_not];omega) ?_
   rw [e1]
   by_cases h4:k1≥m2.length
   ·rw [qkK m0 m1 m2 m3 h (by omega)]
    exact Rn.t (decide_eq_true (by omega)) (Rn.pure _)
   ·rw [qpk m0 m1 m2 m3 h (by omega)]
    exact Rn.f (by rw [decide_eq_true_eq];omega) (Rn.pure _)
 ·rw [qpj m0 m1 m2 m3 h]
  exact Rn.t (by simp [h]) (Rn.pure _)
end
section
variable {m0 : ByteArray} {m1 : Int} {m2 m3 : List (Int × Int)} (hv : qgQ m3)
include hv
end
theorem qkL (a b:List (Int×Int)) (ha:a.length≤1000000000000000000):Rn (fun k=>qcL k a b) (decide (a=b)):=by
 refine Rn.up (f:=fun k=>qcL k a b) ?_
 show Rn (fun k=>qf7 k a b) _
 unfold qf7
 by_cases hl:a.length=b.length
 rotate_left
 ·refine Rn.t (by rw [bne_iff_ne];omega) (Rn.const (congrArg some (decide_eq_false fun e=>hl (by rw [e])).symm))
 refine Rn.f (by rw [bne_iff_ne];omega) ?_
 obtain⟨o,b1,b2⟩:=qdb a.length 0 (fun k q i=>qax k q a b i) () (fun x=>x=false) (fun j=>a[j]? =b[j]?) (by
   refine Rl.up (f:=fun k q=>qax k q a b a.length) ?_
   show Rl (fun k q=>qbt k (qax k q) _ _ _) _
   unfold qbt
   exact Rl.f (by simp) (Rl.pure _)) (by
   intro i hs hi hok o ho
   refine Rl.up (f:=fun k q=>qax k q a b i) ?_
   show Rl (fun k q=>qbt k (qax k q) _ _ _) _
   unfold qbt
   rw [qf (x:=(i:Int)+1) (by omega)]
   have ea:=List.getElem?_eq_getElem hi
   have eb:=hok
   rw [ea] at eb
   exact Rl.t (by first | omega | (simp only [decide_eq_true_eq,decide_eq_false_iff_not,Int.toNat_natCast,beq_iff_eq,bne_iff_ne,ne_eq,Int.not_lt,Int.not_le,ge_iff_le,gt_iff_lt,beq_eq_false_iff_ne,Nat.zero_add];omega)) (Rl.t (by first | omega | (simp only [decide_eq_true_eq,decide_eq_false_iff_not,Int.toNat_natCast,beq_iff_eq,bne_iff_ne,ne_eq,Int.not_lt,Int.not_le,ge_iff_le,gt_iff_lt,beq_eq_false_iff_ne,Nat.zero_add];omega)) (Rl.at (by rw [Int.toNat_natCast];exact ea) (Rl.t (by first | omega | (simp only [decide_eq_true_eq,decide_eq_false_iff_not,Int.toNat_natCast,beq_iff_eq,bne_iff_ne,ne_eq,Int.not_lt,Int.not_le,ge_iff_le,gt_iff_lt,beq_eq_false_iff_ne,Nat.zero_add];omega)) (Rl.at (by rw [Int.toNat_natCast];exact eb.symm) (Rl.t (by simp) (Rl.t (by simp) ho))))))) (by
   intro i hs hi hok
   refine⟨false,rfl,Rl.up (f:=fun k q=>qax k q a b i) ?_⟩
   show Rl (fun k q=>qbt k (qax k q) _ _ _) _
   unfold qbt
   have ea:=List.getElem?_eq_getElem hi
   have eb:=List.getElem?_eq_getElem (show i<b.length by omega)
   refine Rl.t (by first | omega | (simp only [decide_eq_true_eq,decide_eq_false_iff_not,Int.toNat_natCast,beq_iff_eq,bne_iff_ne,ne_eq,Int.not_lt,Int.not_le,ge_iff_le,gt_iff_lt,beq_eq_false_iff_ne,Nat.zero_add];omega)) (Rl.t (by first | omega | (simp only [decide_eq_true_eq,decide_eq_false_iff_not,Int.toNat_natCast,beq_iff_eq,bne_iff_ne,ne_eq,Int.not_lt,Int.not_le,ge_iff_le,gt_iff_lt,beq_eq_false_iff_ne,Nat.zero_add];omega)) (Rl.at (by rw [Int.toNat_natCast];exact ea) (Rl.t (by first | omega | (simp only [decide_eq_true_eq,decide_eq_false_iff_not,Int.toNat_natCast,beq_iff_eq,bne_iff_ne,ne_eq,Int.not_lt,Int.not_le,ge_iff_le,gt_iff_lt,beq_eq_false_iff_ne,Nat.zero_add];omega)) (Rl.at (by rw [Int.toNat_natCast];exact eb) ?_))))
   by_cases c1:(a[i]).1=(b[i]'(by omega)).1
   ·refine Rl.t (by rw [beq_iff_eq];exact c1) (Rl.f (by rw [beq_iff_eq];intro c2;exact hok (by rw [ea,eb];exact congrArg some (Prod.ext c1 c2))) (Rl.pure _))
   ·exact Rl.f (by rw [beq_iff_eq];exact c1) (Rl.pure _)) a.length 0 (by omega) (by omega)
 refine Rn.bind b1.diag ?_
 rcases b2 with ⟨b2,rfl⟩ | ⟨b2,x,rfl,rfl⟩
 ·rw [decide_eq_true (List.ext_getElem? fun j=>by
   rcases Nat.lt_or_ge j a.length with h | h
   ·exact b2 j (Nat.zero_le _) h
   ·rw [List.getElem?_eq_none h,List.getElem?_eq_none (by omega)])]
  exact Rn.pure _
 ·rw [decide_eq_false (fun e=>b2 fun j _ _=>by rw [e])]
  exact Rn.pure _
theorem qty (a0:Int) (a1:List (Int×Int)) (a2:List Int) (c0:Int) (c1:List (Int×Int)) (c2:List Int) (h1:a1.length≤1000000000000000000) (h2:a2.length≤1000000000000000000):
  Rn (fun k=>qw k a0 a1 a2 c0 c1 c2) (decide (a0=c0∧a1=c1∧a2=c2)):=by
 refine Rn.up (f:=fun k=>qw k a0 a1 a2 c0 c1 c2) ?_
 show Rn (fun k=>qf8 k a0 a1 a2 c0 c1 c2) _
 unfold qf8
 by_cases h0:a0=c0
 rotate_left
 ·exact Rn.f (by simp [h0]) (Rn.const (congrArg some (decide_eq_false (fun h=>h0 h.1)).symm))
 refine Rn.t (by simp [h0]) ?_
 by_cases hl:a2.length=c2.length
 rotate_left
 ·exact Rn.t (by rw [bne_iff_ne];omega) (Rn.const (congrArg some (decide_eq_false (fun h=>hl (by rw [h.2.2]))).symm))
 refine Rn.f (by rw [bne_iff_ne];omega) ?_
 obtain⟨o,b1,b2⟩:=qdb a2.length 0 (fun k q i=>qay k q i a0 a1 a2 c0 c1 c2) (a0,a1,a2,c0,c1,c2) (fun x=>x.1=false) (fun j=>a2[j]? =c2[j]?) (by
   refine Rl.up (f:=fun k q=>qay k q a2.length a0 a1 a2 c0 c1 c2) ?_
   show Rl (fun k q=>qbu k (qay k q) _ _ _ _ _ _ _) _
   unfold qbu
   exact Rl.f (by simp) (Rl.pure _)) (by
   intro i hs hi hok o ho
   refine Rl.up (f:=fun k q=>qay k q i a0 a1 a2 c0 c1 c2) ?_
   show Rl (fun k q=>qbu k (qay k q) _ _ _ _ _ _ _) _
   unfold qbu
   rw [qf (x:=(i:Int)+1) (by omega)]
   have ea:=List.getElem?_eq_getElem hi
   have eb:=hok
   rw [ea] at eb
   exact Rl.t (by first | omega | (simp only [decide_eq_true_eq,decide_eq_false_iff_not,Int.toNat_natCast,beq_iff_eq,bne_iff_ne,ne_eq,Int.not_lt,Int.not_le,ge_iff_le,gt_iff_lt,beq_eq_false_iff_ne,Nat.zero_add];omega)) (Rl.t (by first | omega | (simp only [decide_eq_true_eq,decide_eq_false_iff_not,Int.toNat_natCast,beq_iff_eq,bne_iff_ne,ne_eq,Int.not_lt,Int.not_le,ge_iff_le,gt_iff_lt,beq_eq_false_iff_ne,Nat.zero_add];omega)) (Rl.at (by rw [Int.toNat_natCast];exact ea) (Rl.t (by first | omega | (simp only [decide_eq_true_eq,decide_eq_false_iff_not,Int.toNat_natCast,beq_iff_eq,bne_iff_ne,ne_eq,Int.not_lt,Int.not_le,ge_iff_le,gt_iff_lt,beq_eq_false_iff_ne,Nat.zero_add];omega)) (Rl.at (by rw [Int.toNat_natCast];exact eb.symm) (Rl.f (by simp) ho)))))) (by
   intro i hs hi hok
   refine⟨(false,a0,a1,a2,c0,c1,c2),rfl,Rl.up (f:=fun k q=>qay k q i a0 a1 a2 c0 c1 c2) ?_⟩
   show Rl (fun k q=>qbu k (qay k q) _ _ _ _ _ _ _) _
   unfold qbu
   have ea:=List.getElem?_eq_getElem hi
   have eb:=List.getElem?_eq_getElem (show i<c2.length by omega)
   exact Rl.t (by first | omega | (simp only [decide_eq_true_eq,decide_eq_false_iff_not,Int.toNat_natCast,beq_iff_eq,bne_iff_ne,ne_eq,Int.not_lt,Int.not_le,ge_iff_le,gt_iff_lt,beq_eq_false_iff_ne,Nat.zero_add];omega)) (Rl.t (by first | omega | (simp only [decide_eq_true_eq,decide_eq_false_iff_not,Int.toNat_natCast,beq_iff_eq,bne_iff_ne,ne_eq,Int.not_lt,Int.not_le,ge_iff_le,gt_iff_lt,beq_eq_false_iff_ne,Nat.zero_add];omega)) (Rl.at (by rw [Int.toNat_natCast];exact ea) (Rl.t (by first | omega | (simp only [decide_eq_true_eq,decide_eq_false_iff_not,Int.toNat_natCast,beq_iff_eq,bne_iff_ne,ne_eq,Int.not_lt,Int.not_le,ge_iff_le,gt_iff_lt,beq_eq_false_iff_ne,Nat.zero_add];omega)) (Rl.at (by rw [Int.toNat_natCast];exact eb) (Rl.t (by rw [bne_iff_ne];intro e;exact hok (by rw [ea,eb,e])) (Rl.pure _))))))) a2.length 0 (by omega) (by omega)
 refine Rn.bind b1.diag ?_
 rcases b2 with ⟨b2,rfl⟩ | ⟨b2,x,hx,rfl⟩
 ·have e2:a2=c2:=List.ext_getElem? fun j=>by
   rcases Nat.lt_or_ge j a2.length with h | h
   ·exact b2 j (Nat.zero_le _) h
   ·rw [List.getElem?_eq_none h,List.getElem?_eq_none (by omega)]
  have e:decide (a0=c0∧a1=c1∧a2=c2)=decide (a1=c1):=decide_eq_decide.2 ⟨fun h=>h.2.1,fun h=>⟨h0,h,e2⟩⟩
  rw [e]
  exact Rn.bind (qkL a1 c1 h1) (Rn.pure _)
 ·rw [decide_eq_false (fun e=>b2 fun j _ _=>by rw [e.2.2])]
  show Rn (fun k=>some x.1) false
  rw [hx]
  exact Rn.pure _
theorem qtz (a0:ByteArray) (a1:Int) (a2 a3:List (Int×Int)) (c0:ByteArray) (c1:Int) (c2 c3:List (Int×Int)) (h1:a2.length≤1000000000000000000) (h2:a3.length≤1000000000000000000):
  Rn (fun k=>qj k a0 a1 a2 a3 c0 c1 c2 c3) (decide (dl a0=dl c0∧a1=c1∧a2=c2∧a3=c3)):=by
 refine Rn.up (f:=fun k=>qj k a0 a1 a2 a3 c0 c1 c2 c3) ?_
 show Rn (fun k=>qf9 k a0 a1 a2 a3 c0 c1 c2 c3) _
 unfold qf9
 by_cases e0:dl a0=dl c0
 rotate_left
 ·exact Rn.f (by rw [beq_iff_eq];exact e0) (Rn.const (congrArg some (decide_eq_false (fun h=>e0 h.1)).symm))
 refine Rn.t (by rw [beq_iff_eq];exact e0) ?_
 by_cases e1:a1=c1
 rotate_left
 ·exact Rn.f (by rw [beq_iff_eq];exact e1) (Rn.const (congrArg some (decide_eq_false (fun h=>e1 h.2.1)).symm))
 refine Rn.t (by rw [beq_iff_eq];exact e1) (Rn.bind (qkL a2 c2 h1) ?_)
 by_cases e2:a2=c2
 rotate_left
 ·exact Rn.f (by rw [decide_eq_true_eq];exact e2) (Rn.const (congrArg some (decide_eq_false (fun h=>e2 h.2.2.1)).symm))
 refine Rn.t (decide_eq_true e2) (Rn.bind (qkL a3 c3 h2) (Rn.const (congrArg some (decide_eq_decide.2 ?_))))
 exact⟨fun h=>⟨e0,e1,e2,h⟩,fun h=>h.2.2.2⟩
theorem qtA (d6:Int) (d7:List (Int×Int)) (d8:List Int):decide (d6=0∧d7= []∧d8= [])=noW d6 d7 d8:=by
 unfold noW;exact decide_eq_decide.2 (by rw [List.length_eq_zero_iff,List.length_eq_zero_iff])
theorem qtB (d9:ByteArray) (d10:Int) (d11 d12:List (Int×Int)):decide (dl d9=dl (ByteArray.mk (List.toArray []))∧d10=0∧d11= []∧d12= [])=noM d9 d10 d11 d12:=by
 unfold noM;exact decide_eq_decide.2 (by rw [List.length_eq_zero_iff,List.length_eq_zero_iff])
section
variable (f0 : List ByteArray) (f1 : List Dv) (f2 f3 f4 : Int) (d0 : Int) (d1 : ByteArray) (d2 : List Int) (d3 d4 d5 d6 : Int) (d7 : List (Int × Int)) (d8 : List Int) (d9 : ByteArray) (d10 : Int) (d11 d12 : List (Int × Int))
variable (h1 : d1.size ≤ 1000000000000) (h2 : d2.length ≤ 1000000000000000000) (h7 : d7.length ≤ 1000000000000000000) (h8 : d8.length ≤ 1000000000000000000) (h9 : d9.size ≤ 1000000000000000000) (h11 : d11.length ≤ 1000000000000000000) (h12 : d12.length ≤ 1000000000000000000)
include h2
theorem qbR (nodes:Int) (r v s m:Bool) (hn:(d2.length:Int)=nodes):Rn (fun k=>qq k k nodes r v s m 0 f0 f1 f2 f3 f4 d0 d1 d2 d3 d4 d5 d6 d7 d8 d9 d10 d11 d12)
  (if qee f0.length d2=true then .inr (r,v,s,m,f0,f1,f2,f3,f4,d0,d1,d2,d3,d4,d5,d6,d7,d8,d9,d10,d11,d12)else .inl (false,f0,f1,f2,f3,f4,d0,d1,d2,d3,d4,d5,d6,d7,d8,d9,d10,d11,d12)):=by
 subst hn
 obtain⟨o,b1,b2⟩:=qdb d2.length 0 (fun k q i=>qq k q d2.length r v s m i f0 f1 f2 f3 f4 d0 d1 d2 d3 d4 d5 d6 d7 d8 d9 d10 d11 d12) (r,v,s,m,f0,f1,f2,f3,f4,d0,d1,d2,d3,d4,d5,d6,d7,d8,d9,d10,d11,d12)
  (fun a=>a=(false,f0,f1,f2,f3,f4,d0,d1,d2,d3,d4,d5,d6,d7,d8,d9,d10,d11,d12)) (fun j=>0≤d2.getD j 0∧d2.getD j 0<f0.length) (by
   refine Rl.up (f:=fun k q=>qq k q d2.length r v s m d2.length f0 f1 f2 f3 f4 d0 d1 d2 d3 d4 d5 d6 d7 d8 d9 d10 d11 d12) ?_
   show Rl (fun k q=>qa5 k (qq k q) _ _ _ _ _ _ _ _ _ _ _ _ _ _ _ _ _ _ _ _ _ _ _ _) _
   unfold qa5
   exact Rl.f (by simp) (Rl.pure _)) (by
   intro i hs hi hok o ho
   refine Rl.up (f:=fun k q=>qq k q d2.length r v s m i f0 f1 f2 f3 f4 d0 d1 d2 d3 d4 d5 d6 d7 d8 d9 d10 d11 d12) ?_
   show Rl (fun k q=>qa5 k (qq k q) _ _ _ _ _ _ _ _ _ _ _ _ _ _ _ _ _ _ _ _ _ _ _ _) _
   unfold qa5
   rw [qf (x:=(i:Int)+1) (by omega)]
   exact Rl.t (by first | omega | (simp only [decide_eq_true_eq,decide_eq_false_iff_not,Int.toNat_natCast,beq_iff_eq,bne_iff_ne,ne_eq,Int.not_lt,Int.not_le,ge_iff_le,gt_iff_lt,beq_eq_false_iff_ne,Nat.zero_add];omega)) (Rl.t (by first | omega | (simp only [decide_eq_true_eq,decide_eq_false_iff_not,Int.toNat_natCast,beq_iff_eq,bne_iff_ne,ne_eq,Int.not_lt,Int.not_le,ge_iff_le,gt_iff_lt,beq_eq_false_iff_ne,Nat.zero_add];omega)) (Rl.at (by rw [Int.toNat_natCast];exact getD_some 0 hi) (Rl.t (decide_eq_false (by omega)) (Rl.t (by first | omega | (simp only [decide_eq_true_eq,decide_eq_false_iff_not,Int.toNat_natCast,beq_iff_eq,bne_iff_ne,ne_eq,Int.not_lt,Int.not_le,ge_iff_le,gt_iff_lt,beq_eq_false_iff_ne,Nat.zero_add];omega)) (Rl.at (by rw [Int.toNat_natCast];exact getD_some 0 hi) (Rl.f (by rw [decide_eq_true_eq];omega) ho))))))) (by
   intro i hs hi hok
   refine⟨_,rfl,Rl.up (f:=fun k q=>qq k q d2.length r v s m i f0 f1 f2 f3 f4 d0 d1 d2 d3 d4 d5 d6 d7 d8 d9 d10 d11 d12) ?_⟩
   show Rl (fun k q=>qa5 k (qq k q) _ _ _ _ _ _ _ _ _ _ _ _ _ _ _ _ _ _ _ _ _ _ _ _) _
   unfold qa5
   refine Rl.t (by first | omega | (simp only [decide_eq_true_eq,decide_eq_false_iff_not,Int.toNat_natCast,beq_iff_eq,bne_iff_ne,ne_eq,Int.not_lt,Int.not_le,ge_iff_le,gt_iff_lt,beq_eq_false_iff_ne,Nat.zero_add];omega)) (Rl.t (by first | omega | (simp only [decide_eq_true_eq,decide_eq_false_iff_not,Int.toNat_natCast,beq_iff_eq,bne_iff_ne,ne_eq,Int.not_lt,Int.not_le,ge_iff_le,gt_iff_lt,beq_eq_false_iff_ne,Nat.zero_add];omega)) (Rl.at (by rw [Int.toNat_natCast];exact getD_some 0 hi) ?_))
   by_cases c:d2.getD i 0<0
   ·exact Rl.f (by simp;exact c) (Rl.pure _)
   ·exact Rl.t (decide_eq_false c) (Rl.t (by first | omega | (simp only [decide_eq_true_eq,decide_eq_false_iff_not,Int.toNat_natCast,beq_iff_eq,bne_iff_ne,ne_eq,Int.not_lt,Int.not_le,ge_iff_le,gt_iff_lt,beq_eq_false_iff_ne,Nat.zero_add];omega)) (Rl.at (by rw [Int.toNat_natCast];exact getD_some 0 hi) (Rl.t (by rw [decide_eq_true_eq];omega) (Rl.pure _))))) d2.length 0 (by omega) (by omega)
 have hall:qee f0.length d2=true↔∀j,0≤j→j<d2.length→0≤d2.getD j 0∧d2.getD j 0<f0.length:=by
  unfold qee
  rw [qgP]
  simp only [decide_eq_true_eq]
 rcases b2 with ⟨b2,rfl⟩ | ⟨b2,a,rfl,rfl⟩
 ·rw [if_pos (hall.2 b2)];exact b1.diag
 ·rw [if_neg (fun h=>b2 (hall.1 h))];exact b1.diag
end
section
variable (f0 : List ByteArray) (f1 : List Dv) (f2 f3 f4 : Int) (d0 : Int) (d1 : ByteArray) (d2 : List Int) (d3 d4 d5 d6 : Int) (d7 : List (Int × Int)) (d8 : List Int) (d9 : ByteArray) (d10 : Int) (d11 d12 : List (Int × Int))
variable (h1 : d1.size ≤ 1000000000000) (h2 : d2.length ≤ 1000000000000000000) (h7 : d7.length ≤ 1000000000000000000) (h8 : d8.length ≤ 1000000000000000000) (h9 : d9.size ≤ 1000000000000000000) (h11 : d11.length ≤ 1000000000000000000) (h12 : d12.length ≤ 1000000000000000000)
include h1 h2 h7 h8 h9 h11 h12
theorem qr9:Rn (fun k=>qdj k f0 f1 f2 f3 f4 d0 d1 d2 d3 d4 d5 d6 d7 d8 d9 d10 d11 d12) (okR f0.length f1 d0 d1 d2 d3 d4 d5 d6 d7 d8 d9 d10 d11 d12):=by
 refine Rn.up (f:=fun k=>qdj k f0 f1 f2 f3 f4 d0 d1 d2 d3 d4 d5 d6 d7 d8 d9 d10 d11 d12) ?_
 show Rn (fun k=>qfC k f0 f1 f2 f3 f4 d0 d1 d2 d3 d4 d5 d6 d7 d8 d9 d10 d11 d12) _
 have g1:=qkI d1 (by omega)
 have g3:=qqr d6 d7 d8 h7 h8
 have g4:=qtz d9 d10 d11 d12 (ByteArray.mk (List.toArray [])) 0 [] [] h11 h12
 rw [qtB] at g4
 have g5:=qty d6 d7 d8 0 [] [] h7 h8
 rw [qtA] at g5
 have g6:=qke d9 d10 d11 d12 h9 h11 h12
 have g7:=qdp d4 d5
 unfold qfC
 by_cases k114:d0=114
 ·refine Rn.t (by simp [k114]) ?_
  by_cases z4:d4=0
  ·refine Rn.t (by simp [z4]) (Rn.const (congrArg some ?_))
   simp [okR,k114,z4]
  refine Rn.f (by simp [z4]) ?_
  by_cases c1:(d2.length:Int)=2
  rotate_left
  ·refine Rn.f (by simp [c1]) (Rn.const (congrArg some ?_))
   simp [okR,k114,qaQ,c1]
  refine Rn.t (by simp [c1]) (Rn.bind g1 ?_)
  have g2:=qbR f0 f1 f2 f3 f4 d0 d1 d2 d3 d4 d5 d6 d7 d8 d9 d10 d11 d12 h2 2 false true false false c1
  cases hl:qaR d1
  ·refine Rn.t (by rfl) (Rn.const (congrArg some ?_))
   simp [okR,hl]
  refine Rn.f (by decide) (Rn.bind g2 ?_)
  cases hr:qee f0.length d2
  ·refine Rn.const (congrArg some ?_)
   simp [okR,hr]
  rw [if_pos (show true=true from rfl)]
  have hok:okR f0.length f1 d0 d1 d2 d3 d4 d5 d6 d7 d8 d9 d10 d11 d12=(decide (d3=0) && okN d4 d5 && noW d6 d7 d8 && noM d9 d10 d11 d12):=by
   simp [okR,k114,qaQ,c1,hl,hr,z4]
  rw [hok]
  show Rn (fun k=>qg k _) _
  unfold qg
  dsimp only
  refine Rn.f (fun h=>by cases h) ?_
  by_cases z3:d3=0
  rotate_left
  ·refine Rn.t (by simp [z3]) (Rn.const (congrArg some ?_))
   simp [z3]
  refine Rn.f (by simp [z3]) (Rn.t rfl (Rn.bind g7 ?_))
  cases hn:okN d4 d5
  ·refine Rn.f (by decide) (Rn.const (congrArg some ?_))
   simp
  refine Rn.t (by decide) (Rn.f (fun h=>by cases h) (Rn.f (fun h=>by cases h) (Rn.t rfl (Rn.bind g5 ?_))))
  cases hw:noW d6 d7 d8
  ·refine Rn.t (by decide) (Rn.const (congrArg some ?_))
   simp
  refine Rn.f (by decide) (Rn.f (fun h=>by cases h) (Rn.bind g4 (Rn.const (congrArg some ?_))))
  simp [z3]
 refine Rn.f (by simp [k114]) ?_
 by_cases k99:d0=99
 ·refine Rn.t (by simp [k99]) ?_
  by_cases z4:d4=0
  ·refine Rn.t (by simp [z4]) (Rn.const (congrArg some ?_))
   simp [okR,k99,z4]
  refine Rn.f (by simp [z4]) ?_
  by_cases c1:(d2.length:Int)=2
  rotate_left
  ·refine Rn.f (by simp [c1]) (Rn.const (congrArg some ?_))
   simp [okR,k99,qaQ,c1]
  refine Rn.t (by simp [c1]) (Rn.bind g1 ?_)
  have g2:=qbR f0 f1 f2 f3 f4 d0 d1 d2 d3 d4 d5 d6 d7 d8 d9 d10 d11 d12 h2 2 false true false false c1
  cases hl:qaR d1
  ·refine Rn.t (by rfl) (Rn.const (congrArg some ?_))
   simp [okR,hl]
  refine Rn.f (by decide) (Rn.bind g2 ?_)
  cases hr:qee f0.length d2
  ·refine Rn.const (congrArg some ?_)
   simp [okR,hr]
  rw [if_pos (show true=true from rfl)]
  have hok:okR f0.length f1 d0 d1 d2 d3 d4 d5 d6 d7 d8 d9 d10 d11 d12=(decide (d3=0) && okN d4 d5 && noW d6 d7 d8 && noM d9 d10 d11 d12):=by
   simp [okR,k99,qaQ,c1,hl,hr,z4]
  rw [hok]
  show Rn (fun k=>qg k _) _
  unfold qg
  dsimp only
  refine Rn.f (fun h=>by cases h) ?_
  by_cases z3:d3=0
  rotate_left
  ·refine Rn.t (by simp [z3]) (Rn.const (congrArg some ?_))
   simp [z3]
  refine Rn.f (by simp [z3]) (Rn.t rfl (Rn.bind g7 ?_))
  cases hn:okN d4 d5
  ·refine Rn.f (by decide) (Rn.const (congrArg some ?_))
   simp
  refine Rn.t (by decide) (Rn.f (fun h=>by cases h) (Rn.f (fun h=>by cases h) (Rn.t rfl (Rn.bind g5 ?_))))
  cases hw:noW d6 d7 d8
  ·refine Rn.t (by decide) (Rn.const (congrArg some ?_))
   simp
  refine Rn.f (by decide) (Rn.f (fun h=>by cases h) (Rn.bind g4 (Rn.const (congrArg some ?_))))
  simp [z3]
 refine Rn.f (by simp [k99]) ?_
 by_cases k108:d0=108
 ·refine Rn.t (by simp [k108]) ?_
  by_cases z4:d4=0
  ·refine Rn.t (by simp [z4]) (Rn.const (congrArg some ?_))
   simp [okR,k108,z4]
  refine Rn.f (by simp [z4]) ?_
  by_cases c1:(d2.length:Int)=2
  rotate_left
  ·refine Rn.f (by simp [c1]) (Rn.const (congrArg some ?_))
   simp [okR,k108,qaQ,c1]
  refine Rn.t (by simp [c1]) (Rn.bind g1 ?_)
  have g2:=qbR f0 f1 f2 f3 f4 d0 d1 d2 d3 d4 d5 d6 d7 d8 d9 d10 d11 d12 h2 2 false true false false c1
  cases hl:qaR d1
  ·refine Rn.t (by rfl) (Rn.const (congrArg some ?_))
   simp [okR,hl]
  refine Rn.f (by decide) (Rn.bind g2 ?_)
  cases hr:qee f0.length d2
  ·refine Rn.const (congrArg some ?_)
   simp [okR,hr]
  rw [if_pos (show true=true from rfl)]
  have hok:okR f0.length f1 d0 d1 d2 d3 d4 d5 d6 d7 d8 d9 d10 d11 d12=(decide (d3=0) && okN d4 d5 && noW d6 d7 d8 && noM d9 d10 d11 d12):=by
   simp [okR,k108,qaQ,c1,hl,hr,z4]
  rw [hok]
  show Rn (fun k=>qg k _) _
  unfold qg
  dsimp only
  refine Rn.f (fun h=>by cases h) ?_
  by_cases z3:d3=0
  rotate_left
  ·refine Rn.t (by simp [z3]) (Rn.const (congrArg some ?_))
   simp [z3]
  refine Rn.f (by simp [z3]) (Rn.t rfl (Rn.bind g7 ?_))
  cases hn:okN d4 d5
  ·refine Rn.f (by decide) (Rn.const (congrArg some ?_))
   simp
  refine Rn.t (by decide) (Rn.f (fun h=>by cases h) (Rn.f (fun h=>by cases h) (Rn.t rfl (Rn.bind g5 ?_))))
  cases hw:noW d6 d7 d8
  ·refine Rn.t (by decide) (Rn.const (congrArg some ?_))
   simp
  refine Rn.f (by decide) (Rn.f (fun h=>by cases h) (Rn.bind g4 (Rn.const (congrArg some ?_))))
  simp [z3]
 refine Rn.f (by simp [k108]) ?_
 by_cases k118:d0=118
 ·refine Rn.t (by simp [k118]) ?_
  by_cases c1:(d2.length:Int)=2
  rotate_left
  ·refine Rn.f (by simp [c1]) (Rn.const (congrArg some ?_))
   simp [okR,k118,qaQ,c1]
  refine Rn.t (by simp [c1]) (Rn.bind g1 ?_)
  have g2:=qbR f0 f1 f2 f3 f4 d0 d1 d2 d3 d4 d5 d6 d7 d8 d9 d10 d11 d12 h2 2 false false true false c1
  cases hl:qaR d1
  ·refine Rn.t (by rfl) (Rn.const (congrArg some ?_))
   simp [okR,hl]
  refine Rn.f (by decide) (Rn.bind g2 ?_)
  cases hr:qee f0.length d2
  ·refine Rn.const (congrArg some ?_)
   simp [okR,hr]
  rw [if_pos (show true=true from rfl)]
  have hok:okR f0.length f1 d0 d1 d2 d3 d4 d5 d6 d7 d8 d9 d10 d11 d12=(okW d6 d7 d8 && decide (d4=0) && decide (d5=0) && noM d9 d10 d11 d12 && decide (d3=0)):=by
   simp [okR,k118,qaQ,c1,hl,hr]
  rw [hok]
  show Rn (fun k=>qg k _) _
  unfold qg
  dsimp only
  refine Rn.f (fun h=>by cases h) ?_
  by_cases z3:d3=0
  rotate_left
  ·refine Rn.t (by simp [z3]) (Rn.const (congrArg some ?_))
   simp [z3]
  refine Rn.f (by simp [z3]) (Rn.f (fun h=>by cases h) (Rn.t rfl ?_))
  by_cases z4:d4=0
  rotate_left
  ·refine Rn.f (by simp [z4]) (Rn.const (congrArg some ?_))
   simp [z4]
  refine Rn.t (by simp [z4]) ?_
  by_cases z5:d5=0
  rotate_left
  ·refine Rn.f (by simp [z5]) (Rn.const (congrArg some ?_))
   simp [z5]
  refine Rn.t (by simp [z5]) (Rn.t rfl (Rn.bind g3 ?_))
  cases hw:okW d6 d7 d8
  ·refine Rn.f (by decide) (Rn.const (congrArg some ?_))
   simp
  refine Rn.t (by decide) (Rn.f (fun h=>by cases h) (Rn.f (fun h=>by cases h) (Rn.bind g4 (Rn.const (congrArg some ?_)))))
  simp [z3,z4,z5]
 refine Rn.f (by simp [k118]) ?_
 by_cases k105:d0=105
 ·refine Rn.t (by simp [k105]) ?_
  by_cases c1:(d2.length:Int)=2
  rotate_left
  ·refine Rn.f (by simp [c1]) (Rn.const (congrArg some ?_))
   simp [okR,k105,qaQ,c1]
  refine Rn.t (by simp [c1]) (Rn.bind g1 ?_)
  have g2:=qbR f0 f1 f2 f3 f4 d0 d1 d2 d3 d4 d5 d6 d7 d8 d9 d10 d11 d12 h2 2 false false true false c1
  cases hl:qaR d1
  ·refine Rn.t (by rfl) (Rn.const (congrArg some ?_))
   simp [okR,hl]
  refine Rn.f (by decide) (Rn.bind g2 ?_)
  cases hr:qee f0.length d2
  ·refine Rn.const (congrArg some ?_)
   simp [okR,hr]
  rw [if_pos (show true=true from rfl)]
  have hok:okR f0.length f1 d0 d1 d2 d3 d4 d5 d6 d7 d8 d9 d10 d11 d12=(okW d6 d7 d8 && decide (d4=0) && decide (d5=0) && noM d9 d10 d11 d12 && decide (d3=0)):=by
   simp [okR,k105,qaQ,c1,hl,hr]
  rw [hok]
  show Rn (fun k=>qg k _) _
  unfold qg
  dsimp only
  refine Rn.f (fun h=>by cases h) ?_
  by_cases z3:d3=0
  rotate_left
  ·refine Rn.t (by simp [z3]) (Rn.const (congrArg some ?_))
   simp [z3]
  refine Rn.f (by simp [z3]) (Rn.f (fun h=>by cases h) (Rn.t rfl ?_))
  by_cases z4:d4=0
  rotate_left
  ·refine Rn.f (by simp [z4]) (Rn.const (congrArg some ?_))
   simp [z4]
  refine Rn.t (by simp [z4]) ?_
  by_cases z5:d5=0
  rotate_left
  ·refine Rn.f (by simp [z5]) (Rn.const (congrArg some ?_))
   simp [z5]
  refine Rn.t (by simp [z5]) (Rn.t rfl (Rn.bind g3 ?_))
  cases hw:okW d6 d7 d8
  ·refine Rn.f (by decide) (Rn.const (congrArg some ?_))
   simp
  refine Rn.t (by decide) (Rn.f (fun h=>by cases h) (Rn.f (fun h=>by cases h) (Rn.bind g4 (Rn.const (congrArg some ?_)))))
  simp [z3,z4,z5]
 refine Rn.f (by simp [k105]) ?_
 by_cases k101:d0=101
 ·refine Rn.t (by simp [k101]) ?_
  by_cases c1:(d2.length:Int)=4
  rotate_left
  ·refine Rn.f (by simp [c1]) (Rn.const (congrArg some ?_))
   simp [okR,k101,qaQ,c1]
  refine Rn.t (by simp [c1]) (Rn.bind g1 ?_)
  have g2:=qbR f0 f1 f2 f3 f4 d0 d1 d2 d3 d4 d5 d6 d7 d8 d9 d10 d11 d12 h2 4 false true false false c1
  cases hl:qaR d1
  ·refine Rn.t (by rfl) (Rn.const (congrArg some ?_))
   simp [okR,hl]
  refine Rn.f (by decide) (Rn.bind g2 ?_)
  cases hr:qee f0.length d2
  ·refine Rn.const (congrArg some ?_)
   simp [okR,hr]
  rw [if_pos (show true=true from rfl)]
  have hok:okR f0.length f1 d0 d1 d2 d3 d4 d5 d6 d7 d8 d9 d10 d11 d12=(decide (d3=0) && okN d4 d5 && noW d6 d7 d8 && noM d9 d10 d11 d12):=by
   simp [okR,k101,qaQ,c1,hl,hr]
  rw [hok]
  show Rn (fun k=>qg k _) _
  unfold qg
  dsimp only
  refine Rn.f (fun h=>by cases h) ?_
  by_cases z3:d3=0
  rotate_left
  ·refine Rn.t (by simp [z3]) (Rn.const (congrArg some ?_))
   simp [z3]
  refine Rn.f (by simp [z3]) (Rn.t rfl (Rn.bind g7 ?_))
  cases hn:okN d4 d5
  ·refine Rn.f (by decide) (Rn.const (congrArg some ?_))
   simp
  refine Rn.t (by decide) (Rn.f (fun h=>by cases h) (Rn.f (fun h=>by cases h) (Rn.t rfl (Rn.bind g5 ?_))))
  cases hw:noW d6 d7 d8
  ·refine Rn.t (by decide) (Rn.const (congrArg some ?_))
   simp
  refine Rn.f (by decide) (Rn.f (fun h=>by cases h) (Rn.bind g4 (Rn.const (congrArg some ?_))))
  simp [z3]
 refine Rn.f (by simp [k101]) ?_
 by_cases k103:d0=103
 ·refine Rn.t (by simp [k103]) ?_
  by_cases c1:(d2.length:Int)=4
  rotate_left
  ·refine Rn.f (by simp [c1]) (Rn.const (congrArg some ?_))
   simp [okR,k103,qaQ,c1]
  refine Rn.t (by simp [c1]) (Rn.bind g1 ?_)
  have g2:=qbR f0 f1 f2 f3 f4 d0 d1 d2 d3 d4 d5 d6 d7 d8 d9 d10 d11 d12 h2 4 false true false false c1
  cases hl:qaR d1
  ·refine Rn.t (by rfl) (Rn.const (congrArg some ?_))
   simp [okR,hl]
  refine Rn.f (by decide) (Rn.bind g2 ?_)
  cases hr:qee f0.length d2
  ·refine Rn.const (congrArg some ?_)
   simp [okR,hr]
  rw [if_pos (show true=true from rfl)]
  have hok:okR f0.length f1 d0 d1 d2 d3 d4 d5 d6 d7 d8 d9 d10 d11 d12=(decide (d3=0) && okN d4 d5 && noW d6 d7 d8 && noM d9 d10 d11 d12):=by
   simp [okR,k103,qaQ,c1,hl,hr]
  rw [hok]
  show Rn (fun k=>qg k _) _
  unfold qg
  dsimp only
  refine Rn.f (fun h=>by cases h) ?_
  by_cases z3:d3=0
  rotate_left
  ·refine Rn.t (by simp [z3]) (Rn.const (congrArg some ?_))
   simp [z3]
  refine Rn.f (by simp [z3]) (Rn.t rfl (Rn.bind g7 ?_))
  cases hn:okN d4 d5
  ·refine Rn.f (by decide) (Rn.const (congrArg some ?_))
   simp
  refine Rn.t (by decide) (Rn.f (fun h=>by cases h) (Rn.f (fun h=>by cases h) (Rn.t rfl (Rn.bind g5 ?_))))
  cases hw:noW d6 d7 d8
  ·refine Rn.t (by decide) (Rn.const (congrArg some ?_))
   simp
  refine Rn.f (by decide) (Rn.f (fun h=>by cases h) (Rn.bind g4 (Rn.const (congrArg some ?_))))
  simp [z3]
 refine Rn.f (by simp [k103]) ?_
 by_cases k116:d0=116
 ·refine Rn.t (by simp [k116]) ?_
  by_cases c1:(d2.length:Int)=4
  rotate_left
  ·refine Rn.f (by simp [c1]) (Rn.const (congrArg some ?_))
   simp [okR,k116,qaQ,c1]
  refine Rn.t (by simp [c1]) (Rn.bind g1 ?_)
  have g2:=qbR f0 f1 f2 f3 f4 d0 d1 d2 d3 d4 d5 d6 d7 d8 d9 d10 d11 d12 h2 4 false true false false c1
  cases hl:qaR d1
  ·refine Rn.t (by rfl) (Rn.const (congrArg some ?_))
   simp [okR,hl]
  refine Rn.f (by decide) (Rn.bind g2 ?_)
  cases hr:qee f0.length d2
  ·refine Rn.const (congrArg some ?_)
   simp [okR,hr]
  rw [if_pos (show true=true from rfl)]
  have hok:okR f0.length f1 d0 d1 d2 d3 d4 d5 d6 d7 d8 d9 d10 d11 d12=(decide (d3=0) && okN d4 d5 && noW d6 d7 d8 && noM d9 d10 d11 d12):=by
   simp [okR,k116,qaQ,c1,hl,hr]
  rw [hok]
  show Rn (fun k=>qg k _) _
  unfold qg
  dsimp only
  refine Rn.f (fun h=>by cases h) ?_
  by_cases z3:d3=0
  rotate_left
  ·refine Rn.t (by simp [z3]) (Rn.const (congrArg some ?_))
   simp [z3]
  refine Rn.f (by simp [z3]) (Rn.t rfl (Rn.bind g7 ?_))
  cases hn:okN d4 d5
  ·refine Rn.f (by decide) (Rn.const (congrArg some ?_))
   simp
  refine Rn.t (by decide) (Rn.f (fun h=>by cases h) (Rn.f (fun h=>by cases h) (Rn.t rfl (Rn.bind g5 ?_))))
  cases hw:noW d6 d7 d8
  ·refine Rn.t (by decide) (Rn.const (congrArg some ?_))
   simp
  refine Rn.f (by decide) (Rn.f (fun h=>by cases h) (Rn.bind g4 (Rn.const (congrArg some ?_))))
  simp [z3]
 refine Rn.f (by simp [k116]) ?_
 by_cases k102:d0=102
 ·refine Rn.t (by simp [k102]) ?_
  by_cases c1:(d2.length:Int)=2
  rotate_left
  ·refine Rn.f (by simp [c1]) (Rn.const (congrArg some ?_))
   simp [okR,k102,qaQ,c1]
  refine Rn.t (by simp [c1]) (Rn.bind g1 ?_)
  have g2:=qbR f0 f1 f2 f3 f4 d0 d1 d2 d3 d4 d5 d6 d7 d8 d9 d10 d11 d12 h2 2 true true false false c1
  cases hl:qaR d1
  ·refine Rn.t (by rfl) (Rn.const (congrArg some ?_))
   simp [okR,hl]
  refine Rn.f (by decide) (Rn.bind g2 ?_)
  cases hr:qee f0.length d2
  ·refine Rn.const (congrArg some ?_)
   simp [okR,hr]
  rw [if_pos (show true=true from rfl)]
  have hok:okR f0.length f1 d0 d1 d2 d3 d4 d5 d6 d7 d8 d9 d10 d11 d12=(qc2 f1 d3 && okN d4 d5 && noW d6 d7 d8 && noM d9 d10 d11 d12):=by
   simp [okR,k102,qaQ,c1,hl,hr]
  rw [hok]
  show Rn (fun k=>qg k _) _
  unfold qg
  dsimp only
  refine Rn.t rfl ?_
  by_cases r1:d3<0
  ·refine Rn.f (by simpa using r1) (Rn.const (congrArg some ?_))
   have hv:qc2 f1 d3=false:=by unfold qc2;rw [decide_eq_false (by omega),Bool.false_and]
   simp [hv]
  refine Rn.t (by simpa using r1) ?_
  by_cases r2:d3≥(f1.length:Int)
  ·refine Rn.f (by simpa using r2) (Rn.const (congrArg some ?_))
   have hv:qc2 f1 d3=false:=by unfold qc2;rw [decide_eq_false (by omega),Bool.false_and]
   simp [hv]
  obtain⟨x,hx⟩:∃x,f1[d3.toNat]? =some x:=⟨_,List.getElem?_eq_getElem (by omega)⟩
  refine Rn.t (by simpa using r2) (Rn.t (show(0:Int)≤d3 by omega) (Rn.at hx ?_))
  by_cases r3:x.1=118
  rotate_left
  ·refine Rn.t (by simpa using r3) (Rn.const (congrArg some ?_))
   have hv:qc2 f1 d3=false:=by unfold qc2;rw [hx];simp [r3]
   simp [hv]
  have hv:qc2 f1 d3=true:=by simp [qc2,hx,r3];omega
  refine Rn.f (by simpa using r3) (Rn.t rfl (Rn.bind g7 ?_))
  cases hn:okN d4 d5
  ·refine Rn.f (by decide) (Rn.const (congrArg some ?_))
   simp
  refine Rn.t (by decide) (Rn.f (fun h=>by cases h) (Rn.f (fun h=>by cases h) (Rn.t rfl (Rn.bind g5 ?_))))
  cases hw:noW d6 d7 d8
  ·refine Rn.t (by decide) (Rn.const (congrArg some ?_))
   simp
  refine Rn.f (by decide) (Rn.f (fun h=>by cases h) (Rn.bind g4 (Rn.const (congrArg some ?_))))
  simp [hv]
 refine Rn.f (by simp [k102]) ?_
 by_cases k104:d0=104
 ·refine Rn.t (by simp [k104]) ?_
  by_cases c1:(d2.length:Int)=2
  rotate_left
  ·refine Rn.f (by simp [c1]) (Rn.const (congrArg some ?_))
   simp [okR,k104,qaQ,c1]
  refine Rn.t (by simp [c1]) (Rn.bind g1 ?_)
  have g2:=qbR f0 f1 f2 f3 f4 d0 d1 d2 d3 d4 d5 d6 d7 d8 d9 d10 d11 d12 h2 2 true true false false c1
  cases hl:qaR d1
  ·refine Rn.t (by rfl) (Rn.const (congrArg some ?_))
   simp [okR,hl]
  refine Rn.f (by decide) (Rn.bind g2 ?_)
  cases hr:qee f0.length d2
  ·refine Rn.const (congrArg some ?_)
   simp [okR,hr]
  rw [if_pos (show true=true from rfl)]
  have hok:okR f0.length f1 d0 d1 d2 d3 d4 d5 d6 d7 d8 d9 d10 d11 d12=(qc2 f1 d3 && okN d4 d5 && noW d6 d7 d8 && noM d9 d10 d11 d12):=by
   simp [okR,k104,qaQ,c1,hl,hr]
  rw [hok]
  show Rn (fun k=>qg k _) _
  unfold qg
  dsimp only
  refine Rn.t rfl ?_
  by_cases r1:d3<0
  ·refine Rn.f (by simpa using r1) (Rn.const (congrArg some ?_))
   have hv:qc2 f1 d3=false:=by unfold qc2;rw [decide_eq_false (by omega),Bool.false_and]
   simp [hv]
  refine Rn.t (by simpa using r1) ?_
  by_cases r2:d3≥(f1.length:Int)
  ·refine Rn.f (by simpa using r2) (Rn.const (congrArg some ?_))
   have hv:qc2 f1 d3=false:=by unfold qc2;rw [decide_eq_false (by omega),Bool.false_and]
   simp [hv]
  obtain⟨x,hx⟩:∃x,f1[d3.toNat]? =some x:=⟨_,List.getElem?_eq_getElem (by omega)⟩
  refine Rn.t (by simpa using r2) (Rn.t (show(0:Int)≤d3 by omega) (Rn.at hx ?_))
  by_cases r3:x.1=118
  rotate_left
  ·refine Rn.t (by simpa using r3) (Rn.const (congrArg some ?_))
   have hv:qc2 f1 d3=false:=by unfold qc2;rw [hx];simp [r3]
   simp [hv]
  have hv:qc2 f1 d3=true:=by simp [qc2,hx,r3];omega
  refine Rn.f (by simpa using r3) (Rn.t rfl (Rn.bind g7 ?_))
  cases hn:okN d4 d5
  ·refine Rn.f (by decide) (Rn.const (congrArg some ?_))
   simp
  refine Rn.t (by decide) (Rn.f (fun h=>by cases h) (Rn.f (fun h=>by cases h) (Rn.t rfl (Rn.bind g5 ?_))))
  cases hw:noW d6 d7 d8
  ·refine Rn.t (by decide) (Rn.const (congrArg some ?_))
   simp
  refine Rn.f (by decide) (Rn.f (fun h=>by cases h) (Rn.bind g4 (Rn.const (congrArg some ?_))))
  simp [hv]
 refine Rn.f (by simp [k104]) ?_
 by_cases k100:d0=100
 ·refine Rn.t (by simp [k100]) ?_
  by_cases c1:(d2.length:Int)=2
  rotate_left
  ·refine Rn.f (by simp [c1]) (Rn.const (congrArg some ?_))
   simp [okR,k100,qaQ,c1]
  refine Rn.t (by simp [c1]) (Rn.bind g1 ?_)
  have g2:=qbR f0 f1 f2 f3 f4 d0 d1 d2 d3 d4 d5 d6 d7 d8 d9 d10 d11 d12 h2 2 false false false true c1
  cases hl:qaR d1
  ·refine Rn.t (by rfl) (Rn.const (congrArg some ?_))
   simp [okR,hl]
  refine Rn.f (by decide) (Rn.bind g2 ?_)
  cases hr:qee f0.length d2
  ·refine Rn.const (congrArg some ?_)
   simp [okR,hr]
  rw [if_pos (show true=true from rfl)]
  have hok:okR f0.length f1 d0 d1 d2 d3 d4 d5 d6 d7 d8 d9 d10 d11 d12=(noW d6 d7 d8 && decide (d4=0) && decide (d5=0) && okM d9 d10 d11 d12 && decide (d10=d0) && decide (d3=0)):=by
   simp [okR,k100,qaQ,c1,hl,hr]
  rw [hok]
  show Rn (fun k=>qg k _) _
  unfold qg
  dsimp only
  refine Rn.f (fun h=>by cases h) ?_
  by_cases z3:d3=0
  rotate_left
  ·refine Rn.t (by simp [z3]) (Rn.const (congrArg some ?_))
   simp [z3]
  refine Rn.f (by simp [z3]) (Rn.f (fun h=>by cases h) (Rn.t rfl ?_))
  by_cases z4:d4=0
  rotate_left
  ·refine Rn.f (by simp [z4]) (Rn.const (congrArg some ?_))
   simp [z4]
  refine Rn.t (by simp [z4]) ?_
  by_cases z5:d5=0
  rotate_left
  ·refine Rn.f (by simp [z5]) (Rn.const (congrArg some ?_))
   simp [z5]
  refine Rn.t (by simp [z5]) (Rn.f (fun h=>by cases h) (Rn.t rfl (Rn.bind g5 ?_)))
  cases hw:noW d6 d7 d8
  ·refine Rn.t (by decide) (Rn.const (congrArg some ?_))
   simp
  refine Rn.f (by decide) (Rn.t rfl (Rn.bind g6 ?_))
  cases hm:okM d9 d10 d11 d12
  ·refine Rn.f (by decide) (Rn.const (congrArg some ?_))
   simp
  refine Rn.t rfl (Rn.const (congrArg some ?_))
  rw [Bool.eq_iff_iff,beq_iff_eq]
  simp [z3,z4,z5]
 refine Rn.f (by simp [k100]) ?_
 by_cases k115:d0=115
 ·refine Rn.t (by simp [k115]) ?_
  by_cases c1:(d2.length:Int)=4
  rotate_left
  ·refine Rn.f (by simp [c1]) (Rn.const (congrArg some ?_))
   simp [okR,k115,qaQ,c1]
  refine Rn.t (by simp [c1]) (Rn.bind g1 ?_)
  have g2:=qbR f0 f1 f2 f3 f4 d0 d1 d2 d3 d4 d5 d6 d7 d8 d9 d10 d11 d12 h2 4 false false false true c1
  cases hl:qaR d1
  ·refine Rn.t (by rfl) (Rn.const (congrArg some ?_))
   simp [okR,hl]
  refine Rn.f (by decide) (Rn.bind g2 ?_)
  cases hr:qee f0.length d2
  ·refine Rn.const (congrArg some ?_)
   simp [okR,hr]
  rw [if_pos (show true=true from rfl)]
  have hok:okR f0.length f1 d0 d1 d2 d3 d4 d5 d6 d7 d8 d9 d10 d11 d12=(noW d6 d7 d8 && decide (d4=0) && decide (d5=0) && okM d9 d10 d11 d12 && decide (d10=d0) && decide (d3=0)):=by
   simp [okR,k115,qaQ,c1,hl,hr]
  rw [hok]
  show Rn (fun k=>qg k _) _
  unfold qg
  dsimp only
  refine Rn.f (fun h=>by cases h) ?_
  by_cases z3:d3=0
  rotate_left
  ·refine Rn.t (by simp [z3]) (Rn.const (congrArg some ?_))
   simp [z3]
  refine Rn.f (by simp [z3]) (Rn.f (fun h=>by cases h) (Rn.t rfl ?_))
  by_cases z4:d4=0
  rotate_left
  ·refine Rn.f (by simp [z4]) (Rn.const (congrArg some ?_))
   simp [z4]
  refine Rn.t (by simp [z4]) ?_
  by_cases z5:d5=0
  rotate_left
  ·refine Rn.f (by simp [z5]) (Rn.const (congrArg some ?_))
   simp [z5]
  refine Rn.t (by simp [z5]) (Rn.f (fun h=>by cases h) (Rn.t rfl (Rn.bind g5 ?_)))
  cases hw:noW d6 d7 d8
  ·refine Rn.t (by decide) (Rn.const (congrArg some ?_))
   simp
  refine Rn.f (by decide) (Rn.t rfl (Rn.bind g6 ?_))
  cases hm:okM d9 d10 d11 d12
  ·refine Rn.f (by decide) (Rn.const (congrArg some ?_))
   simp
  refine Rn.t rfl (Rn.const (congrArg some ?_))
  rw [Bool.eq_iff_iff,beq_iff_eq]
  simp [z3,z4,z5]
 refine Rn.f (by simp [k115]) ?_
 refine Rn.const (congrArg some ?_)
 have:qaQ d0=0:=by unfold qaQ;rw [if_neg (by omega),if_neg (by omega)]
 simp [okR,this]
end
theorem qvD {d:Dv} (g:GoodD d):brB d=true↔d.1=118∨d.1=101∨d.1=104∨d.1=99∨d.1=108∨d.1=116:=by
 unfold brB
 rw [decide_eq_true_eq,qtt]
 change d.1.toNat.toUInt8∈ [(118:UInt8),101,104,99,108,116]↔_
 simp only [List.mem_cons,List.not_mem_nil,or_false]
 have h:=fun n hn=>qB1 g.kd n hn
 have h1:=h 118 (by omega)
 have h2:=h 101 (by omega)
 have h3:=h 104 (by omega)
 have h4:=h 99 (by omega)
 have h5:=h 108 (by omega)
 have h6:=h 116 (by omega)
 exact or_congr h1 (or_congr h2 (or_congr h3 (or_congr h4 (or_congr h5 h6))))
theorem qoF {d:Dv} (g:GoodD d):Rn (fun k=>qdn k d.1) (brB d):=by
 refine Rn.up (f:=fun k=>qdn k d.1) ?_
 show Rn (fun k=>qeo k d.1) _
 have h:=qvD g
 generalize brB d=b at h
 unfold qeo
 have key:∀c:Prop,(b=true↔c)→∀(x:Bool),(x=true↔c)→x=b:=fun c hb x hx=>Bool.eq_iff_iff.2 (hx.trans hb.symm)
 by_cases k1:d.1=118
 ·exact Rn.f (by simp [k1]) (Rn.const (congrArg some (h.2 (.inl k1)).symm))
 refine Rn.t (by simp [k1]) ?_
 by_cases k2:d.1=101
 ·exact Rn.f (by simp [k2]) (Rn.const (congrArg some (h.2 (by omega)).symm))
 refine Rn.t (by simp [k2]) ?_
 by_cases k3:d.1=104
 ·exact Rn.f (by simp [k3]) (Rn.const (congrArg some (h.2 (by omega)).symm))
 refine Rn.t (by simp [k3]) ?_
 by_cases k4:d.1=99
 ·exact Rn.f (by simp [k4]) (Rn.const (congrArg some (h.2 (by omega)).symm))
 refine Rn.t (by simp [k4]) ?_
 by_cases k5:d.1=108
 ·exact Rn.f (by simp [k5]) (Rn.const (congrArg some (h.2 (by omega)).symm))
 refine Rn.t (by simp [k5]) (Rn.const (congrArg some (key _ h _ ?_)))
 rw [beq_iff_eq]
 omega
section
variable (f0 : List ByteArray) (f1 : List Dv) (f2 f3 f4 : Int) (g : Gd f0 f1)
include g
theorem qoG:∀(d i:Nat) (n:Int) (ls:List Int),i+d=f1.length→ls.length=i→0≤n+1→n≤1000000000+i→
  Rl (fun k q=>qbx k q n ls.length (i:Int) f0 f1 f2 f3 f4 ls) (n+qeq (f1.drop i),f1.length,f0,f1,f2,f3,f4,ls++brL n (f1.drop i)):=by
 intro d
 induction d with
 | zero=>
  intro i n ls e h1 h2 h3
  obtain rfl:i=f1.length:=by omega
  rw [List.drop_length]
  refine Rl.up (f:=fun k q=>qbx k q n ls.length (f1.length:Int) f0 f1 f2 f3 f4 ls) ?_
  show Rl (fun k q=>qcq k (qbx k q) _ _ _ _ _ _ _ _ _) _
  unfold qcq
  simp only [brL,List.append_nil]
  rw [h1]
  exact Rl.f (by simp) (by simpa [qeq] using Rl.pure _)
 | succ d ih=>
  intro i n ls e h1 h2 h3
  have hi:i<f1.length:=by omega
  have hgd:=g.dv _ (List.getElem_mem hi)
  have hl1:=g.l1
  have eg:f1[i]? =some f1[i]:=List.getElem?_eq_getElem hi
  have edr:f1.drop i=f1[i]::f1.drop (i+1):=List.drop_eq_getElem_cons hi
  generalize f1[i]=x at eg edr hgd
  rw [edr]
  refine Rl.up (f:=fun k q=>qbx k q n ls.length (i:Int) f0 f1 f2 f3 f4 ls) ?_
  show Rl (fun k q=>qcq k (qbx k q) _ _ _ _ _ _ _ _ _) _
  unfold qcq
  rw [qf (x:=(i:Int)+1) (by omega)]
  refine Rl.t (by first | omega | (simp only [decide_eq_true_eq,decide_eq_false_iff_not,Int.toNat_natCast,beq_iff_eq,bne_iff_ne,ne_eq,Int.not_lt,Int.not_le,ge_iff_le,gt_iff_lt,beq_eq_false_iff_ne,Nat.zero_add];omega)) (Rl.t (by first | omega | (simp only [decide_eq_true_eq,decide_eq_false_iff_not,Int.toNat_natCast,beq_iff_eq,bne_iff_ne,ne_eq,Int.not_lt,Int.not_le,ge_iff_le,gt_iff_lt,beq_eq_false_iff_ne,Nat.zero_add];omega)) (Rl.at (by rw [Int.toNat_natCast];exact eg) (Rl.bind (qoF hgd) ?_)))
  by_cases hb:brB x=true
  ·have ih':=ih (i+1) (n+1) (ls++ [n]) (by omega) (by rw [List.length_append];simp;omega) (by omega) (by omega)
   rw [qf (x:=n+1) (by omega)]
   have e1:List.take 1 [n]= [n]:=rfl
   refine Rl.t hb (Rl.t (Nat.le_refl _) (Rl.t (by rw [e1];simp only [List.length_singleton];omega) ?_))
   rw [e1,List.take_length]
   rw [List.length_append] at ih'
   rw [brL,if_pos hb,qeq,List.countP_cons_of_pos hb]
   rw [show n+((List.countP brB (f1.drop (i+1))+1:Nat):Int)=n+1+((List.countP brB (f1.drop (i+1)):Nat):Int) by omega]
   rw [List.append_assoc] at ih'
   exact ih'
  ·have ih':=ih (i+1) n (ls++ [-1]) (by omega) (by rw [List.length_append];simp;omega) (by omega) (by omega)
   have e1:List.take 1 [(-1:Int)]= [-1]:=rfl
   refine Rl.f hb (Rl.t (Nat.le_refl _) (Rl.t (by omega) ?_))
   rw [e1,List.take_length]
   rw [List.length_append] at ih'
   rw [brL,if_neg hb,qeq,List.countP_cons_of_neg hb]
   rw [List.append_assoc] at ih'
   exact ih'
theorem qn7:Rn (fun k=>qct k f0 f1 f2 f3 f4) ((f0.length:Int)-1+qeq f1,brL ((f0.length:Int)-1) f1):=by
 have h0:=g.l0
 have h:=qoG f0 f1 f2 f3 f4 g f1.length 0 ((f0.length:Int)-1) [] (by omega) rfl (by omega) (by omega)
 rw [List.drop_zero] at h
 refine Rn.up (f:=fun k=>qct k f0 f1 f2 f3 f4) ?_
 show Rn (fun k=>qfE k f0 f1 f2 f3 f4) _
 unfold qfE
 rw [qf (x:=(f0.length:Int)-1) (by omega)]
 refine Rn.bind h.diag (Rn.t (by simp [qis]) (Rn.const (congrArg some ?_)))
 simp only [List.nil_append]
 rw [List.take_of_length_le (by rw [qis];exact Nat.le_refl _)]
theorem qqF (d:Dv) (hd:d∈f1):Rn (fun k=>qdj k f0 f1 f2 f3 f4 d.1 d.2.1 d.2.2.1 d.2.2.2.1 d.2.2.2.2.1.1 d.2.2.2.2.1.2 d.2.2.2.2.2.1.1 d.2.2.2.2.2.1.2.1 d.2.2.2.2.2.1.2.2 d.2.2.2.2.2.2.1 d.2.2.2.2.2.2.2.1 d.2.2.2.2.2.2.2.2.1 d.2.2.2.2.2.2.2.2.2) (qgA f0.length f1 d):=by
 have h:=g.dv d hd
 have a1:=h.nm
 have a2:=h.nd
 have a3:=h.wv
 have a4:=h.ws
 have a5:=h.mn
 have a6:=h.mg
 have a7:=h.mv
 exact qr9 f0 f1 f2 f3 f4 _ _ _ _ _ _ _ _ _ _ _ _ _ a1 (by omega) (by omega) (by omega) (by omega) (by omega) (by omega)
theorem qoH:∀(d i:Nat) (ls:List ByteArray),i+d=f1.length→ls=(f1.take i).map (fun d=>d.2.1)→
  ∃a,a.1=(90:Int)∧Rl (fun k q=>qal k q ls.length (i:Int) f0 f1 f2 f3 f4 ls) (if(f1.drop i).all (qgA f0.length f1)=true then .inr (f1.length,f0,f1,f2,f3,f4,f1.map fun d=>d.2.1)else .inl a):=by
 intro d
 induction d with
 | zero=>
  intro i ls e hl
  obtain rfl:i=f1.length:=by omega
  rw [List.take_length] at hl
  refine⟨(90,f0,f1,f2,f3,f4,[]),rfl,Rl.up (f:=fun k q=>qal k q ls.length (f1.length:Int) f0 f1 f2 f3 f4 ls) ?_⟩
  show Rl (fun k q=>qa7 k (qal k q) _ _ _ _ _ _ _ _) _
  unfold qa7
  rw [List.drop_length,if_pos (show([]:List Dv).all (qgA f0.length f1)=true from rfl),hl,List.length_map]
  exact Rl.f (by simp) (Rl.pure _)
 | succ d ih=>
  intro i ls e hl
  have hi:i<f1.length:=by omega
  have hm:=List.getElem_mem hi
  have eg:f1[i]? =some f1[i]:=List.getElem?_eq_getElem hi
  have edr:f1.drop i=f1[i]::f1.drop (i+1):=List.drop_eq_getElem_cons hi
  have et:f1.take (i+1)=f1.take i++ [f1[i]]:=by rw [List.take_add_one,eg];rfl
  generalize f1[i]=x at eg edr et hm
  have hx:=qqF f0 f1 f2 f3 f4 g x hm
  have hg:=g.l1
  have hlen:ls.length=i:=by rw [hl,List.length_map,List.length_take];omega
  rw [edr,List.all_cons]
  cases hb:qgA f0.length f1 x
  ·rw [hb] at hx
   refine⟨(90,f0,f1,f2,f3,f4,ls),rfl,Rl.up (f:=fun k q=>qal k q ls.length (i:Int) f0 f1 f2 f3 f4 ls) ?_⟩
   show Rl (fun k q=>qa7 k (qal k q) _ _ _ _ _ _ _ _) _
   unfold qa7
   rw [Bool.false_and,if_neg (show ¬false=true by decide)]
   exact Rl.t (by first | omega | (simp only [decide_eq_true_eq,decide_eq_false_iff_not,Int.toNat_natCast,beq_iff_eq,bne_iff_ne,ne_eq,Int.not_lt,Int.not_le,ge_iff_le,gt_iff_lt,beq_eq_false_iff_ne,Nat.zero_add];omega)) (Rl.t (by first | omega | (simp only [decide_eq_true_eq,decide_eq_false_iff_not,Int.toNat_natCast,beq_iff_eq,bne_iff_ne,ne_eq,Int.not_lt,Int.not_le,ge_iff_le,gt_iff_lt,beq_eq_false_iff_ne,Nat.zero_add];omega)) (Rl.at (by rw [Int.toNat_natCast];exact eg) (Rl.bind hx (Rl.t (by decide) (Rl.pure _)))))
  ·rw [hb] at hx
   obtain⟨a,ha,b⟩:=ih (i+1) (ls++ [x.2.1]) (by omega) (by rw [et,List.map_append,←hl];rfl)
   refine⟨a,ha,Rl.up (f:=fun k q=>qal k q ls.length (i:Int) f0 f1 f2 f3 f4 ls) ?_⟩
   show Rl (fun k q=>qa7 k (qal k q) _ _ _ _ _ _ _ _) _
   unfold qa7
   rw [qf (x:=(i:Int)+1) (by omega),Bool.true_and]
   have e1:List.take 1 [x.2.1]= [x.2.1]:=rfl
   refine Rl.t (by first | omega | (simp only [decide_eq_true_eq,decide_eq_false_iff_not,Int.toNat_natCast,beq_iff_eq,bne_iff_ne,ne_eq,Int.not_lt,Int.not_le,ge_iff_le,gt_iff_lt,beq_eq_false_iff_ne,Nat.zero_add];omega)) (Rl.t (by first | omega | (simp only [decide_eq_true_eq,decide_eq_false_iff_not,Int.toNat_natCast,beq_iff_eq,bne_iff_ne,ne_eq,Int.not_lt,Int.not_le,ge_iff_le,gt_iff_lt,beq_eq_false_iff_ne,Nat.zero_add];omega)) (Rl.at (by rw [Int.toNat_natCast];exact eg) (Rl.bind hx (Rl.f (by decide) (Rl.t (by first | omega | (simp only [decide_eq_true_eq,decide_eq_false_iff_not,Int.toNat_natCast,beq_iff_eq,bne_iff_ne,ne_eq,Int.not_lt,Int.not_le,ge_iff_le,gt_iff_lt,beq_eq_false_iff_ne,Nat.zero_add];omega)) (Rl.at (by rw [Int.toNat_natCast];exact eg) (Rl.t (Nat.le_refl _) (Rl.t (by rw [e1];simp only [List.length_singleton];omega) ?_))))))))
   rw [e1,List.take_length]
   rw [List.length_append] at b
   exact b
theorem qn8 (n:Nat) (nl:List ByteArray):∃a,a.1=(90:Int)∧Rn (fun k=>qM k k n 0 f0 f1 f2 f3 f4 nl) (if f0.all qaR=true then .inr (n,f0,f1,f2,f3,f4,nl)else .inl a):=by
 obtain⟨o,b1,b2⟩:=qdb f0.length 0 (fun k q i=>qM k q n i f0 f1 f2 f3 f4 nl) (n,f0,f1,f2,f3,f4,nl) (fun a=>a=(90,f0,f1,f2,f3,f4,nl)) (fun j=>∀x,f0[j]? =some x→qaR x=true) (by
   refine Rl.up (f:=fun k q=>qM k q n f0.length f0 f1 f2 f3 f4 nl) ?_
   show Rl (fun k q=>qa8 k (qM k q) _ _ _ _ _ _ _ _) _
   unfold qa8
   exact Rl.f (by simp) (Rl.pure _)) (by
   intro i hs hi hok o ho
   refine Rl.up (f:=fun k q=>qM k q n i f0 f1 f2 f3 f4 nl) ?_
   show Rl (fun k q=>qa8 k (qM k q) _ _ _ _ _ _ _ _) _
   unfold qa8
   have eg:=List.getElem?_eq_getElem hi
   have hnm:=g.nm _ (List.getElem_mem hi)
   have hx:=qkI (f0[i]'hi) (by omega)
   rw [hok _ eg] at hx
   have:=g.l0
   rw [qf (x:=(i:Int)+1) (by omega)]
   exact Rl.t (by first | omega | (simp only [decide_eq_true_eq,decide_eq_false_iff_not,Int.toNat_natCast,beq_iff_eq,bne_iff_ne,ne_eq,Int.not_lt,Int.not_le,ge_iff_le,gt_iff_lt,beq_eq_false_iff_ne,Nat.zero_add];omega)) (Rl.t (by first | omega | (simp only [decide_eq_true_eq,decide_eq_false_iff_not,Int.toNat_natCast,beq_iff_eq,bne_iff_ne,ne_eq,Int.not_lt,Int.not_le,ge_iff_le,gt_iff_lt,beq_eq_false_iff_ne,Nat.zero_add];omega)) (Rl.at (by rw [Int.toNat_natCast];exact eg) (Rl.bind hx (Rl.f (by decide) ho))))) (by
   intro i hs hi hok
   refine⟨_,rfl,Rl.up (f:=fun k q=>qM k q n i f0 f1 f2 f3 f4 nl) ?_⟩
   show Rl (fun k q=>qa8 k (qM k q) _ _ _ _ _ _ _ _) _
   unfold qa8
   have eg:=List.getElem?_eq_getElem hi
   have hnm:=g.nm _ (List.getElem_mem hi)
   have hx:=qkI (f0[i]'hi) (by omega)
   have hf:qaR (f0[i]'hi)=false:=by
    rw [←Bool.not_eq_true]
    exact fun h=>hok fun x hx=>by rw [eg] at hx;cases hx;exact h
   rw [hf] at hx
   exact Rl.t (by first | omega | (simp only [decide_eq_true_eq,decide_eq_false_iff_not,Int.toNat_natCast,beq_iff_eq,bne_iff_ne,ne_eq,Int.not_lt,Int.not_le,ge_iff_le,gt_iff_lt,beq_eq_false_iff_ne,Nat.zero_add];omega)) (Rl.t (by first | omega | (simp only [decide_eq_true_eq,decide_eq_false_iff_not,Int.toNat_natCast,beq_iff_eq,bne_iff_ne,ne_eq,Int.not_lt,Int.not_le,ge_iff_le,gt_iff_lt,beq_eq_false_iff_ne,Nat.zero_add];omega)) (Rl.at (by rw [Int.toNat_natCast];exact eg) (Rl.bind hx (Rl.t (by decide) (Rl.pure _)))))) f0.length 0 (by omega) (by omega)
 have hall:f0.all qaR=true↔∀j,0≤j→j<f0.length→∀x,f0[j]? =some x→qaR x=true:=by
  rw [List.all_eq_true]
  exact⟨fun h j _ _ x hx=>h x (List.mem_of_getElem? hx),fun h x hx=>by
   obtain⟨j,hj,e⟩:=List.mem_iff_getElem.1 hx
   exact h j (Nat.zero_le _) hj x (by rw [List.getElem?_eq_getElem hj,e])⟩
 refine⟨(90,f0,f1,f2,f3,f4,nl),rfl,?_⟩
 rcases b2 with ⟨b2,rfl⟩ | ⟨b2,a,rfl,rfl⟩
 ·rw [if_pos (hall.2 b2)];exact b1.diag
 ·rw [if_neg (fun h=>b2 (hall.1 h))];exact b1.diag
theorem qsa:Rn (fun k=>qd0 k f0 f1 f2 f3 f4) (chk f0 f1 f2 f3 f4):=by
 refine Rn.up (f:=fun k=>qd0 k f0 f1 f2 f3 f4) ?_
 show Rn (fun k=>qfF k f0 f1 f2 f3 f4) _
 have g0:=g.l0
 have g1:=g.l1
 have hno:qer f0 f1 f2 f3 f4=false→chk f0 f1 f2 f3 f4=90:=fun h=>if_neg (by rw [h];decide)
 unfold qfF
 refine Rn.bind (qdp f2 f3) ?_
 cases hn:okN f2 f3
 ·rw [hno (by simp [qer,hn])];exact Rn.f (by decide) (Rn.pure _)
 refine Rn.t (by decide) ?_
 by_cases p2:0<f2
 rotate_left
 ·rw [hno (by simp [qer,p2])];exact Rn.f (by rw [decide_eq_false_iff_not];omega) (Rn.pure _)
 refine Rn.t (by rw [decide_eq_false_iff_not];omega) ?_
 by_cases q:f4=1∨f4=2
 rotate_left
 ·rw [hno (by simp [qer,q])]
  by_cases q1:f4<1
  ·exact Rn.f (by rw [decide_eq_false_iff_not];omega) (Rn.pure _)
  ·exact Rn.t (by rw [decide_eq_false_iff_not];omega) (Rn.f (by rw [decide_eq_false_iff_not];omega) (Rn.pure _))
 refine Rn.t (by rw [decide_eq_false_iff_not];omega) (Rn.t (by rw [decide_eq_false_iff_not];omega) ?_)
 by_cases l1:1≤f0.length
 rotate_left
 ·rw [hno (by simp [qer,l1])];exact Rn.f (by rw [decide_eq_false_iff_not];omega) (Rn.pure _)
 refine Rn.t (by rw [decide_eq_false_iff_not];omega) ?_
 by_cases l2:f0.length≤32
 rotate_left
 ·rw [hno (by simp [qer,l2])];exact Rn.f (by rw [decide_eq_false_iff_not];omega) (Rn.pure _)
 refine Rn.t (by rw [decide_eq_false_iff_not];omega) ?_
 by_cases l3:f1.length≤64
 rotate_left
 ·rw [hno (by simp [qer,l3])];exact Rn.f (by rw [decide_eq_false_iff_not];omega) (Rn.pure _)
 refine Rn.t (by rw [decide_eq_false_iff_not];omega) ?_
 obtain⟨x,r,ex⟩:∃x r,f0=x::r:=by cases f0 with | nil=>simp at l1 | cons x r=>exact⟨x,r,rfl⟩
 have ex0:f0[0]? =some x:=by rw [ex];rfl
 have exh:(f0.map dl).headD []=dl x:=by rw [ex];rfl
 refine Rn.at ex0 ?_
 by_cases hz:dl x=b0
 rotate_left
 ·rw [hno (by unfold qer;rw [decide_eq_false (p:=(f0.map dl).headD []=b0) (by rw [exh];exact hz)];simp)]
  exact Rn.t (by simp only [Bool.not_eq_true',beq_eq_false_iff_ne,ne_eq];exact hz) (Rn.pure _)
 refine Rn.f (by simp only [Bool.not_eq_true',beq_eq_false_iff_ne,ne_eq];exact fun h=>h hz) ?_
 obtain⟨c1,c2,c3⟩:=qoH f0 f1 f2 f3 f4 g f1.length 0 [] (by omega) rfl
 rw [List.drop_zero] at c3
 refine Rn.bind c3.diag ?_
 cases hd:f1.all (qgA f0.length f1)
 ·rw [hno (by simp only [qer,hd];simp)]
  show Rn (fun k=>some c1.1) 90
  rw [c2];exact Rn.pure _
 obtain⟨a1,a2,h1⟩:=qn8 f0 f1 f2 f3 f4 g f1.length (f1.map fun d=>d.2.1)
 show Rn (fun k=>Option.bind (qM k k f1.length 0 f0 f1 f2 f3 f4 (f1.map fun d=>d.2.1)) _) _
 refine Rn.bind h1 ?_
 cases hl:f0.all qaR
 ·rw [hno (by simp only [qer,hl];simp)]
  show Rn (fun k=>some a1.1) 90
  rw [a2];exact Rn.pure _
 show Rn (fun k=>if 0+f1.length≤(f1.map fun d=>d.2.1).length then Option.bind (qbX k (List.take f1.length (f1.map fun d=>d.2.1))) _ else none) _
 have tk:List.take f1.length (f1.map fun d=>d.2.1)=f1.map fun d=>d.2.1:=List.take_of_length_le (by rw [List.length_map];omega)
 rw [tk]
 refine Rn.t (by rw [List.length_map];omega) (Rn.bind (qma _ (by rw [List.length_map];omega)) ?_)
 cases hw:twB (f1.map fun d=>d.2.1)
 rotate_left
 ·rw [hno (by simp only [qer,hw];simp)];exact Rn.f (by decide) (Rn.pure _)
 refine Rn.t rfl ?_
 show Rn (fun k=>Option.bind (qbX k f0) _) _
 refine Rn.bind (qma f0 (by omega)) ?_
 cases ht:twB f0
 rotate_left
 ·rw [hno (by simp only [qer,ht];simp)];exact Rn.t rfl (Rn.pure _)
 refine Rn.f (by decide) ?_
 show Rn (fun k=>Option.bind (qct k f0 f1 f2 f3 f4) _) _
 refine Rn.bind (qn7 f0 f1 f2 f3 f4 g) ?_
 have hyes:qer f0 f1 f2 f3 f4=true:=by
  unfold qer
  rw [hn,hd,hl,hw,ht,decide_eq_true p2,decide_eq_true q,decide_eq_true (show 1≤f0.length∧f0.length≤32 from⟨l1,l2⟩),decide_eq_true l3,decide_eq_true (show(f0.map dl).headD []=b0 by rw [exh];exact hz)]
  rfl
 have hc:chk f0 f1 f2 f3 f4=if(48:Int)<(f0.length:Int)-1+qeq f1 then 5 else 0:=if_pos hyes
 rw [hc]
 by_cases l4:(48:Int)<(f0.length:Int)-1+qeq f1
 ·rw [if_pos l4];exact Rn.t (by rw [decide_eq_true_eq];exact l4) (Rn.pure _)
 ·rw [if_neg l4];exact Rn.f (by rw [decide_eq_true_eq];exact l4) (Rn.pure _)
end
theorem qA9 {α:Type} {f:Nat→Option α} {x:α} (h:∀j,f (j+40)=some x):Rn f x:=Rn.eq 40 fun k hk=>by
 obtain⟨j,rfl⟩:∃j,k=j+40:=⟨k-40,by omega⟩
 exact h j
theorem qlq:Rn (fun k=>qfu k) true:=qA9 fun j=>by kernel_rfl
theorem qmr (F:Nat→Nat→List Int→Int→Int→Option (Int ⊕ Unit)) (G:Nat→Int→Option Bool) (bad:Int→Bool) (s:List Int) (hs:s.length≤1000000000000000000)
  (hF:∀k q x x1,F k (q+1) s x x1=if((decide (x1<x))=true)then(if((0:Int)≤x1)then Option.bind s[x1.toNat]? (fun x4=>Option.bind (G k x4) (fun r4=>if r4=true then some (Sum.inl x1)else F k q s x (IntKind.i64.wrap (x1+1))))else none)else some (Sum.inr ()))
  (hG:∀p∈s,Rn (fun k=>G k p) (bad p)):∃o,Rl (fun k q=>F k q s s.length 0) o∧(s.any bad=false∧o= .inr ()∨s.any bad=true∧∃a:Int,0≤a∧o= .inl a):=by
 obtain⟨o,h1,h2⟩:=qdb s.length 0 (fun k q i=>F k q s s.length i) () (fun a=>0≤a) (fun j=>∀p,s[j]? =some p→bad p=false) (by
   refine Rl.up (f:=fun k q=>F k q s s.length s.length) ?_
   simp only [hF]
   exact Rl.f (by simp) (Rl.pure _)) (by
   intro i hs0 hi hok o ho
   refine Rl.up (f:=fun k q=>F k q s s.length (i:Int)) ?_
   simp only [hF]
   have eg:=List.getElem?_eq_getElem hi
   have hg:=hG _ (List.getElem_mem hi)
   rw [hok _ eg] at hg
   refine Rl.t (by rw [decide_eq_true_eq];omega) (Rl.t (by omega) (Rl.at (by rw [Int.toNat_natCast];exact eg) (Rl.bind hg (Rl.f (by decide) ?_))))
   rw [qf (x:=(i:Int)+1) (by omega)]
   exact ho) (by
   intro i hs0 hi hok
   refine⟨(i:Int),by omega,Rl.up (f:=fun k q=>F k q s s.length (i:Int)) ?_⟩
   simp only [hF]
   have eg:=List.getElem?_eq_getElem hi
   have hg:=hG _ (List.getElem_mem hi)
   have hb:bad (s[i]'hi)=true:=by
    cases hb:bad (s[i]'hi)with
    | true=>rfl
    | false=>exact absurd (fun p hp=>by rw [eg] at hp;cases hp;exact hb) hok
   rw [hb] at hg
   exact Rl.t (by rw [decide_eq_true_eq];omega) (Rl.t (by omega) (Rl.at (by rw [Int.toNat_natCast];exact eg) (Rl.bind hg (Rl.t (by decide) (Rl.pure _)))))) s.length 0 (by omega) (by omega)
 have hall:s.any bad=false↔∀j,0≤j→j<s.length→∀p,s[j]? =some p→bad p=false:=by
  rw [List.any_eq_false]
  constructor
  ·intro h j _ hj p hp;exact Bool.eq_false_iff.2 (h p (List.mem_of_getElem? hp))
  ·intro h p hp
   obtain⟨j,hj,e⟩:=List.mem_iff_getElem.1 hp
   rw [h j (Nat.zero_le _) hj p (by rw [List.getElem?_eq_getElem hj,e])]
   decide
 refine⟨o,h1,?_⟩
 rcases h2 with ⟨h2,rfl⟩ | ⟨h2,a,ha,rfl⟩
 ·exact .inl ⟨hall.2 h2,rfl⟩
 ·refine .inr ⟨?_,a,ha,rfl⟩
  rw [←Bool.not_eq_false,hall]
  exact h2
def qcr:List Dv→Nat→List Int
  | [],_=> []
  | d::l,i=>if d.1=100∨d.1=115 then(i:Int)::qcr l (i+1)else qcr l (i+1)
theorem qjz:∀(l:List Dv) (i:Nat),(qcr l i).length≤l.length
  | [],_=>Nat.le_refl _
  | d::l,i=>by have:=qjz l (i+1);rw [qcr];split<;>(simp only [List.length_cons];omega)
theorem qjA:∀(l:List Dv) (i:Nat) (x:Int),x∈qcr l i→∃j:Nat,x=(j:Int)∧i≤j∧j<i+l.length
  | [],_,_,h=>by cases h
  | d :: l, i, x, h => by
    rw [qcr] at h
    have rec':x∈qcr l (i+1)→∃j:Nat,x=(j:Int)∧i≤j∧j<i+(d::l).length:=fun h=>by
      obtain⟨j,h1,h2,h3⟩:=qjA l (i+1) x h
      exact⟨j,h1,by omega,by rw [List.length_cons];omega⟩
    split at h
    · rcases List.mem_cons.1 h with rfl | h
      · exact⟨i,rfl,Nat.le_refl _,by rw [List.length_cons];omega⟩
      · exact rec' h
    · exact rec' h
section
variable (f0 : List ByteArray) (f1 : List Dv) (f2 f3 f4 : Int) (hl : f1.length ≤ 1000000000)
include hl
theorem qsb:∀(d i:Nat) (ls:List Int),i+d=f1.length→ls.length≤i→
    Rl (fun k q=>qcF k q ls.length f1 (f1.length:Int) (i:Int) ls) ((ls++qcr (f1.drop i) i).length,ls++qcr (f1.drop i) i):=by
  intro d
  induction d with
  | zero =>
    intro i ls e h
    refine Rl.up (f:=fun k q=>qcF k q ls.length f1 (f1.length:Int) (i:Int) ls) ?_
    show Rl (fun k q=>qdR k (qcF k q) _ _ _ _ _) _
    unfold qdR
    rw [List.drop_eq_nil_of_le (by omega),qcr,List.append_nil]
    exact Rl.f (by rw [decide_eq_true_eq];omega) (Rl.pure _)
  | succ d ih =>
    intro i ls e h
    have hi:i<f1.length:=by omega
    have w1:IntKind.i64.wrap ((i:Int)+1)=((i+1:Nat):Int):=by rw [qf (by omega)];omega
    have eg:f1[Int.toNat (i:Int)]? =some f1[i]:=by rw [Int.toNat_natCast];exact List.getElem?_eq_getElem hi
    rw [List.drop_eq_getElem_cons hi,qcr]
    generalize f1[i]=x at eg
    refine Rl.up (f:=fun k q=>qcF k q ls.length f1 (f1.length:Int) (i:Int) ls) ?_
    show Rl (fun k q=>qdR k (qcF k q) _ _ _ _ _) _
    unfold qdR
    simp only [w1,List.take_succ_cons,List.take_zero,List.length_singleton,List.length_cons,List.length_nil,Nat.zero_add,List.take_length]
    refine Rl.t (by rw [decide_eq_true_eq];omega) (Rl.t (by omega) (Rl.at eg ?_))
    have app:=ih (i+1) (ls++ [(i:Int)]) (by omega) (by simp;omega)
    rw [List.append_assoc,List.singleton_append,show(ls++ [(i:Int)]).length=ls.length+1 from by rw [List.length_append];rfl] at app
    have non:=ih (i+1) ls (by omega) (by omega)
    by_cases c1:x.1=100
    · rw [if_pos (.inl c1)]
      exact Rl.f (by simp [c1]) (Rl.t (Nat.le_refl _) (Rl.t (by omega) app))
    · refine Rl.t (by simp [c1]) ?_
      by_cases c2:x.1=115
      · rw [if_pos (.inr c2)]
        exact Rl.t (by simp [c2]) (Rl.t (Nat.le_refl _) (Rl.t (by omega) app))
      · rw [if_neg (by omega)]
        exact Rl.f (by simp [c2]) non
theorem qvE:Rn (fun k=>qgw k f0 f1 f2 f3 f4) (qcr f1 0):=by
  have h:=qsb f1 hl f1.length 0 [] (by omega) (by simp)
  refine Rn.up (f:=fun k=>qgw k f0 f1 f2 f3 f4) ?_
  show Rn (fun k=>qhI k f0 f1 f2 f3 f4) _
  unfold qhI
  refine Rn.bind h.diag (Rn.t (by simp) (Rn.const ?_))
  simp only [List.nil_append,List.drop_zero,List.take_length]
theorem qqG:∀(d i:Nat) (ls:List Int),i+d=f1.length→ls.length≤i→
    Rl (fun k q=>qbL k q ls.length (i:Int) f0 f1 f2 f3 f4 ls) ((ls++qcr (f1.drop i) i).length,f0,f1,f2,f3,f4,ls++qcr (f1.drop i) i):=by
  intro d
  induction d with
  | zero =>
    intro i ls e h
    refine Rl.up (f:=fun k q=>qbL k q ls.length (i:Int) f0 f1 f2 f3 f4 ls) ?_
    show Rl (fun k q=>qcx k (qbL k q) _ _ _ _ _ _ _ _) _
    unfold qcx
    rw [List.drop_eq_nil_of_le (by omega),qcr,List.append_nil]
    exact Rl.f (by rw [decide_eq_true_eq];omega) (Rl.pure _)
  | succ d ih =>
    intro i ls e h
    have hi:i<f1.length:=by omega
    have w1:IntKind.i64.wrap ((i:Int)+1)=((i+1:Nat):Int):=by rw [qf (by omega)];omega
    have eg:f1[Int.toNat (i:Int)]? =some f1[i]:=by rw [Int.toNat_natCast];exact List.getElem?_eq_getElem hi
    rw [List.drop_eq_getElem_cons hi,qcr]
    generalize f1[i]=x at eg
    refine Rl.up (f:=fun k q=>qbL k q ls.length (i:Int) f0 f1 f2 f3 f4 ls) ?_
    show Rl (fun k q=>qcx k (qbL k q) _ _ _ _ _ _ _ _) _
    unfold qcx
    simp only [w1,List.take_succ_cons,List.take_zero,List.length_singleton,List.length_cons,List.length_nil,Nat.zero_add,List.take_length]
    refine Rl.t (by rw [decide_eq_true_eq];omega) (Rl.t (by omega) (Rl.at eg ?_))
    have app:=ih (i+1) (ls++ [(i:Int)]) (by omega) (by simp;omega)
    rw [List.append_assoc,List.singleton_append,show(ls++ [(i:Int)]).length=ls.length+1 from by rw [List.length_append];rfl] at app
    have non:=ih (i+1) ls (by omega) (by omega)
    by_cases c1:x.1=100
    · rw [if_pos (.inl c1)]
      exact Rl.f (by simp [c1]) (Rl.t (Nat.le_refl _) (Rl.t (by omega) app))
    · refine Rl.t (by simp [c1]) (Rl.t (by omega) (Rl.at eg ?_))
      by_cases c2:x.1=115
      · rw [if_pos (.inr c2)]
        exact Rl.t (by simp [c2]) (Rl.t (Nat.le_refl _) (Rl.t (by omega) app))
      · rw [if_neg (by omega)]
        exact Rl.f (by simp [c2]) non
theorem qtC:Rn (fun k=>qep k f0 f1 f2 f3 f4) (qcr f1 0):=by
  have h:=qqG f0 f1 f2 f3 f4 hl f1.length 0 [] (by omega) (by simp)
  refine Rn.up (f:=fun k=>qep k f0 f1 f2 f3 f4) ?_
  show Rn (fun k=>qgb k f0 f1 f2 f3 f4) _
  unfold qgb
  refine Rn.bind h.diag (Rn.t (by simp) (Rn.const ?_))
  simp only [List.nil_append,List.drop_zero,List.take_length]
end
def qdc (v:Int):Bool:=decide (v>1000000000000000000∨v< -1000000000000000000)
theorem qvF (v:Int):Rn (fun k=>qec k v) (qdc v):=by
  refine Rn.up (f:=fun k=>qec k v) ?_
  show Rn (fun k=>qgN k v) _
  unfold qgN qdc
  by_cases c:v>1000000000000000000
  · exact Rn.f (by rw [decide_eq_false_iff_not];exact fun h=>h c) (Rn.const (congrArg some (decide_eq_true (by omega)).symm))
  · exact Rn.t (decide_eq_false c) (Rn.const (congrArg some (decide_eq_decide.2 (by omega))))
theorem qmc (l:List Int) (hl:l.length≤1000000000000000000):Rn (fun k=>qe5 k l) (!l.any qdc):=by
  obtain⟨o,b1,b2⟩:=qmr qbH qec qdc l hl (fun _ _ _ _=>rfl) (fun p _=>qvF p)
  have key:∀a,Rn (fun k=>qc o (fun r4=>some r4) (fun r4=>some (-1))) a→Rn (fun k=>qaD k l) a:=by
    intro a h
    refine Rn.up (f:=fun k=>qaD k l) ?_
    show Rn (fun k=>qbV k l) _
    unfold qbV
    exact Rn.bind b1.diag h
  have hc:Rn (fun k=>qan k l) (l.any qdc):=by
    refine Rn.up (f:=fun k=>qan k l) ?_
    show Rn (fun k=>qbC k l) _
    unfold qbC
    rcases b2 with ⟨b2,rfl⟩ | ⟨b2,a,ha,rfl⟩
    · rw [b2];exact Rn.bind (key _ (Rn.pure _)) (Rn.pure _)
    · rw [b2];exact Rn.bind (key _ (Rn.pure _)) (Rn.const (congrArg some (decide_eq_true ha)))
  refine Rn.up (f:=fun k=>qe5 k l) ?_
  show Rn (fun k=>qhJ k l) _
  unfold qhJ
  exact Rn.bind hc (Rn.pure _)
theorem qlr (l:List Int) (hl:l.length≤1000000000000000000):Rn (fun k=>qc0 k l) (!l.any qdc):=by
  obtain⟨o,b1,b2⟩:=qdb l.length 0 (fun k q i=>qab k q l i) () (fun a=>a=false) (fun j=>∀v,l[j]? =some v→qdc v=false) (by
      refine Rl.up (f:=fun k q=>qab k q l l.length) ?_
      show Rl (fun k q=>qaN k (qab k q) _ _) _
      unfold qaN
      exact Rl.f (by simp) (Rl.pure _)) (by
      intro i hs hi hok o ho
      refine Rl.up (f:=fun k q=>qab k q l i) ?_
      show Rl (fun k q=>qaN k (qab k q) _ _) _
      unfold qaN
      rw [qf (x:=(i:Int)+1) (by omega)]
      have eg:l[Int.toNat (i:Int)]? =some l[i]:=by rw [Int.toNat_natCast];exact List.getElem?_eq_getElem hi
      have hv:=hok _ (List.getElem?_eq_getElem hi)
      unfold qdc at hv
      rw [decide_eq_false_iff_not] at hv
      exact Rl.t (by rw [decide_eq_true_eq];omega) (Rl.t (by omega) (Rl.at eg (Rl.t (decide_eq_false (by omega)) (Rl.t (by omega) (Rl.at eg (Rl.f (by rw [decide_eq_true_eq];omega) ho))))))) (by
      intro i hs hi hok
      refine⟨false,rfl,Rl.up (f:=fun k q=>qab k q l i) ?_⟩
      show Rl (fun k q=>qaN k (qab k q) _ _) _
      unfold qaN
      have eg:l[Int.toNat (i:Int)]? =some l[i]:=by rw [Int.toNat_natCast];exact List.getElem?_eq_getElem hi
      have hb:qdc l[i]=true:=by
        cases hb:qdc l[i] with
        | true=>rfl
        | false=>exact absurd (fun v hv=>by rw [List.getElem?_eq_getElem hi] at hv;cases hv;exact hb) hok
      unfold qdc at hb
      rw [decide_eq_true_eq] at hb
      refine Rl.t (by rw [decide_eq_true_eq];omega) (Rl.t (by omega) (Rl.at eg ?_))
      by_cases c:l[i]>1000000000000000000
      · exact Rl.f (by rw [decide_eq_false_iff_not];exact fun h=>h c) (Rl.pure _)
      · exact Rl.t (decide_eq_false c) (Rl.t (by omega) (Rl.at eg (Rl.t (by rw [decide_eq_true_eq];omega) (Rl.pure _))))) l.length 0 (by omega) (by omega)
  have hall:l.any qdc=false↔∀j,0≤j→j<l.length→∀v,l[j]? =some v→qdc v=false:=by
    rw [List.any_eq_false]
    constructor
    · intro h j _ hj v hv;exact Bool.eq_false_iff.2 (h v (List.mem_of_getElem? hv))
    · intro h p hp
      obtain⟨j,hj,e⟩:=List.mem_iff_getElem.1 hp
      rw [h j (Nat.zero_le _) hj p (by rw [List.getElem?_eq_getElem hj,e])]
      decide
  refine Rn.up (f:=fun k=>qc0 k l) ?_
  show Rn (fun k=>qe9 k l) _
  unfold qe9
  rcases b2 with ⟨b2,rfl⟩ | ⟨b2,x,rfl,rfl⟩
  · rw [hall.2 b2];exact Rn.bind b1.diag (Rn.pure _)
  · have : l.any qdc = true := by rw [← Bool.not_eq_false, hall]; exact b2
    rw [this];exact Rn.bind b1.diag (Rn.pure _)
noncomputable def qho (d:Dv) (v:Int):Bool:=okM d.2.2.2.2.2.2.1 d.2.2.2.2.2.2.2.1 d.2.2.2.2.2.2.2.2.1 d.2.2.2.2.2.2.2.2.2 && decide (0≤v∧v<d.2.2.2.2.2.2.2.2.1.length)
theorem qmd {d:Dv} (h:GoodD d):Rn (fun k=>qgx k d.2.2.2.2.2.2.1 d.2.2.2.2.2.2.2.1 d.2.2.2.2.2.2.2.2.1 d.2.2.2.2.2.2.2.2.2) (if okM d.2.2.2.2.2.2.1 d.2.2.2.2.2.2.2.1 d.2.2.2.2.2.2.2.2.1 d.2.2.2.2.2.2.2.2.2=true then(d.2.2.2.2.2.2.2.2.1.length:Int)else 0):=by
  have a5:=h.mn
  have a6:=h.mg
  have a7:=h.mv
  refine Rn.up (f:=fun k=>qgx k d.2.2.2.2.2.2.1 d.2.2.2.2.2.2.2.1 d.2.2.2.2.2.2.2.2.1 d.2.2.2.2.2.2.2.2.2) (Rn.bind (qi8 _ _ _ _ (by omega) (by omega) (by omega)) ?_)
  generalize okM d.2.2.2.2.2.2.1 d.2.2.2.2.2.2.2.1 d.2.2.2.2.2.2.2.2.1 d.2.2.2.2.2.2.2.2.2=b
  cases b
  · exact Rn.t rfl (Rn.pure _)
  · exact Rn.f (by decide) (Rn.pure _)
section
variable (f0 : List ByteArray) (f1 : List Dv) (f2 f3 f4 : Int) (g : Gd f0 f1) (s0 : Int) (s1 s2 s3 : List Int)
def qjB (b:List Int):Prop:=∀j,0≤j→j<b.length→∀x v d,b[j]? =some x→s3[j]? =some v→f1[x.toNat]? =some d→qho d v=true
include g
theorem qtD (b:List Int) (hb:b.length≤1000000000) (hs:s3.length=b.length) (hx:∀x∈b,∃j:Nat,x=(j:Int)∧j<f1.length):
    ∃o,Rl (fun k q=>qbP k q b (b.length:Int) 0 f0 f1 f2 f3 f4 s0 s1 s2 s3) o∧(qjB f1 s3 b∧o= .inr (f0,f1,f2,f3,f4,s0,s1,s2,s3)∨¬qjB f1 s3 b∧∃a,a=((190:Int),f0,f1,f2,f3,f4,s0,s1,s2,s3)∧o= .inl a):=by
  refine qdb b.length 0 (fun k q i=>qbP k q b (b.length:Int) i f0 f1 f2 f3 f4 s0 s1 s2 s3) (f0,f1,f2,f3,f4,s0,s1,s2,s3) (fun a=>a=((190:Int),f0,f1,f2,f3,f4,s0,s1,s2,s3)) (fun j=>∀x v d,b[j]? =some x→s3[j]? =some v→f1[x.toNat]? =some d→qho d v=true) ?_ ?_ ?_ b.length 0 (by omega) (by omega)
  · refine Rl.up (f := fun k q => qbP k q b (b.length : Int) (b.length : Int) f0 f1 f2 f3 f4 s0 s1 s2 s3) ?_
    show Rl (fun k q=>qcG k (qbP k q) _ _ _ _ _ _ _ _ _ _ _ _) _
    unfold qcG
    exact Rl.f (by simp) (Rl.pure _)
  · intro i _ hi hok o ho
    refine Rl.up (f:=fun k q=>qbP k q b (b.length:Int) (i:Int) f0 f1 f2 f3 f4 s0 s1 s2 s3) ?_
    show Rl (fun k q=>qcG k (qbP k q) _ _ _ _ _ _ _ _ _ _ _ _) _
    unfold qcG
    rw [qf (x:=(i:Int)+1) (by omega)]
    have eb:b[Int.toNat (i:Int)]? =some b[i]:=by rw [Int.toNat_natCast];exact List.getElem?_eq_getElem hi
    have es:s3[Int.toNat (i:Int)]? =some (s3[i]'(by omega)):=by rw [Int.toNat_natCast];exact List.getElem?_eq_getElem (by omega)
    obtain⟨j,e1,e2⟩:=hx _ (List.getElem_mem hi)
    have ef:f1[Int.toNat b[i]]? =some f1[j]:=by rw [e1,Int.toNat_natCast];exact List.getElem?_eq_getElem e2
    have hk:=hok _ _ _ (List.getElem?_eq_getElem hi) (List.getElem?_eq_getElem (by omega)) ef
    have hg:=g.dv _ (List.getElem_mem e2)
    generalize f1[j]=d at ef hk hg
    generalize s3[i]'(by omega)=v at es hk
    unfold qho at hk
    rw [Bool.and_eq_true,decide_eq_true_eq] at hk
    have hm:=qmd hg
    rw [if_pos hk.1] at hm
    exact Rl.t (by rw [decide_eq_true_eq];omega) (Rl.t (by omega) (Rl.at eb (Rl.t (by omega) (Rl.at es (Rl.t (decide_eq_false (by omega)) (Rl.t (by omega) (Rl.at es (Rl.t (by omega) (Rl.at ef (Rl.bind hm (Rl.f (by rw [decide_eq_true_eq];omega) ho)))))))))))
  · intro i _ hi hok
    refine⟨_,rfl,Rl.up (f:=fun k q=>qbP k q b (b.length:Int) (i:Int) f0 f1 f2 f3 f4 s0 s1 s2 s3) ?_⟩
    show Rl (fun k q=>qcG k (qbP k q) _ _ _ _ _ _ _ _ _ _ _ _) _
    unfold qcG
    have eb:b[Int.toNat (i:Int)]? =some b[i]:=by rw [Int.toNat_natCast];exact List.getElem?_eq_getElem hi
    have es0:s3[i]? =some (s3[i]'(by omega)):=List.getElem?_eq_getElem (by omega)
    have es:s3[Int.toNat (i:Int)]? =some (s3[i]'(by omega)):=by rw [Int.toNat_natCast];exact es0
    obtain⟨j,e1,e2⟩:=hx _ (List.getElem_mem hi)
    have ef:f1[Int.toNat b[i]]? =some f1[j]:=by rw [e1,Int.toNat_natCast];exact List.getElem?_eq_getElem e2
    have hk:¬qho f1[j] (s3[i]'(by omega))=true:=fun h=>hok fun x v d h1 h2 h3=>by
      rw [List.getElem?_eq_getElem hi] at h1;cases h1
      rw [es0] at h2;cases h2
      rw [ef] at h3;cases h3
      exact h
    have hg:=g.dv _ (List.getElem_mem e2)
    generalize f1[j]=d at ef hk hg
    generalize s3[i]'(by omega)=v at es hk
    unfold qho at hk
    rw [Bool.and_eq_true,decide_eq_true_eq] at hk
    have hm:=qmd hg
    refine Rl.t (by rw [decide_eq_true_eq];omega) (Rl.t (by omega) (Rl.at eb (Rl.t (by omega) (Rl.at es ?_))))
    by_cases c:v<0
    · exact Rl.f (by rw [decide_eq_false_iff_not];exact fun h=>h c) (Rl.pure _)
    · refine Rl.t (decide_eq_false c) (Rl.t (by omega) (Rl.at es (Rl.t (by omega) (Rl.at ef (Rl.bind hm (Rl.t ?_ (Rl.pure _)))))))
      rw [decide_eq_true_eq]
      split
      · rename_i q
        have:¬(0≤v∧v<(d.2.2.2.2.2.2.2.2.1.length:Int)):=fun h=>hk ⟨q,h⟩
        omega
      · omega
theorem qtE (b:List Int) (hb:b.length≤1000000000) (hs:s3.length=b.length) (hx:∀x∈b,∃j:Nat,x=(j:Int)∧j<f1.length):
    ∃o,Rl (fun k q=>qV k q b 0 f0 f1 f2 f3 f4 s0 s1 s2 s3) o∧(qjB f1 s3 b∧o= .inr (f0,f1,f2,f3,f4,s0,s1,s2,s3)∨¬qjB f1 s3 b∧∃a,a=((190:Int),f0,f1,f2,f3,f4,s0,s1,s2,s3)∧o= .inl a):=by
  have hfl:∀ {d:Dv} (v:Int),GoodD d→Rn (fun k=>qdk k d.2.2.2.2.2.2.1 d.2.2.2.2.2.2.2.1 d.2.2.2.2.2.2.2.2.1 d.2.2.2.2.2.2.2.2.2 v) (qjy d.2.2.2.2.2.2.1 d.2.2.2.2.2.2.2.1 d.2.2.2.2.2.2.2.2.1 d.2.2.2.2.2.2.2.2.2 v):=by
    intro d v h
    have a5:=h.mn
    have a6:=h.mg
    have a7:=h.mv
    exact qqE _ _ _ _ (by omega) (by omega) (by omega) v
  refine qdb b.length 0 (fun k q i=>qV k q b i f0 f1 f2 f3 f4 s0 s1 s2 s3) (f0,f1,f2,f3,f4,s0,s1,s2,s3) (fun a=>a=((190:Int),f0,f1,f2,f3,f4,s0,s1,s2,s3)) (fun j=>∀x v d,b[j]? =some x→s3[j]? =some v→f1[x.toNat]? =some d→qho d v=true) ?_ ?_ ?_ b.length 0 (by omega) (by omega)
  · refine Rl.up (f := fun k q => qV k q b (b.length : Int) f0 f1 f2 f3 f4 s0 s1 s2 s3) ?_
    show Rl (fun k q=>qa9 k (qV k q) _ _ _ _ _ _ _ _ _ _ _) _
    unfold qa9
    exact Rl.f (by simp) (Rl.pure _)
  · intro i _ hi hok o ho
    refine Rl.up (f:=fun k q=>qV k q b (i:Int) f0 f1 f2 f3 f4 s0 s1 s2 s3) ?_
    show Rl (fun k q=>qa9 k (qV k q) _ _ _ _ _ _ _ _ _ _ _) _
    unfold qa9
    rw [qf (x:=(i:Int)+1) (by omega)]
    have eb:b[Int.toNat (i:Int)]? =some b[i]:=by rw [Int.toNat_natCast];exact List.getElem?_eq_getElem hi
    have es:s3[Int.toNat (i:Int)]? =some (s3[i]'(by omega)):=by rw [Int.toNat_natCast];exact List.getElem?_eq_getElem (by omega)
    obtain⟨j,e1,e2⟩:=hx _ (List.getElem_mem hi)
    have ef:f1[Int.toNat b[i]]? =some f1[j]:=by rw [e1,Int.toNat_natCast];exact List.getElem?_eq_getElem e2
    have hk:=hok _ _ _ (List.getElem?_eq_getElem hi) (List.getElem?_eq_getElem (by omega)) ef
    have hg:=g.dv _ (List.getElem_mem e2)
    generalize f1[j]=d at ef hk hg
    generalize s3[i]'(by omega)=v at es hk
    unfold qho at hk
    rw [Bool.and_eq_true,decide_eq_true_eq] at hk
    have hm:=hfl v hg
    rw [qpk _ _ _ _ hk.1 hk.2] at hm
    exact Rl.t (by rw [decide_eq_true_eq];omega) (Rl.t (by omega) (Rl.at eb (Rl.t (by omega) (Rl.at ef (Rl.t (by omega) (Rl.at es (Rl.bind hm (Rl.f (by decide) ho))))))))
  · intro i _ hi hok
    refine⟨_,rfl,Rl.up (f:=fun k q=>qV k q b (i:Int) f0 f1 f2 f3 f4 s0 s1 s2 s3) ?_⟩
    show Rl (fun k q=>qa9 k (qV k q) _ _ _ _ _ _ _ _ _ _ _) _
    unfold qa9
    have eb:b[Int.toNat (i:Int)]? =some b[i]:=by rw [Int.toNat_natCast];exact List.getElem?_eq_getElem hi
    have es0:s3[i]? =some (s3[i]'(by omega)):=List.getElem?_eq_getElem (by omega)
    have es:s3[Int.toNat (i:Int)]? =some (s3[i]'(by omega)):=by rw [Int.toNat_natCast];exact es0
    obtain⟨j,e1,e2⟩:=hx _ (List.getElem_mem hi)
    have ef:f1[Int.toNat b[i]]? =some f1[j]:=by rw [e1,Int.toNat_natCast];exact List.getElem?_eq_getElem e2
    have hk:¬qho f1[j] (s3[i]'(by omega))=true:=fun h=>hok fun x v d h1 h2 h3=>by
      rw [List.getElem?_eq_getElem hi] at h1;cases h1
      rw [es0] at h2;cases h2
      rw [ef] at h3;cases h3
      exact h
    have hg:=g.dv _ (List.getElem_mem e2)
    generalize f1[j]=d at ef hk hg
    generalize s3[i]'(by omega)=v at es hk
    unfold qho at hk
    rw [Bool.and_eq_true,decide_eq_true_eq] at hk
    have hm:=hfl v hg
    have hne:qjy d.2.2.2.2.2.2.1 d.2.2.2.2.2.2.2.1 d.2.2.2.2.2.2.2.2.1 d.2.2.2.2.2.2.2.2.2 v≠0:=by
      by_cases q:okM d.2.2.2.2.2.2.1 d.2.2.2.2.2.2.2.1 d.2.2.2.2.2.2.2.2.1 d.2.2.2.2.2.2.2.2.2=true
      · rw [qkK _ _ _ _ q (fun h=>hk ⟨q,h⟩)];decide
      · rw [qpj _ _ _ _ q];decide
    exact Rl.t (by rw [decide_eq_true_eq];omega) (Rl.t (by omega) (Rl.at eb (Rl.t (by omega) (Rl.at ef (Rl.t (by omega) (Rl.at es (Rl.bind hm (Rl.t (by rw [bne_iff_ne];exact hne) (Rl.pure _)))))))))
end
section
variable (f0 : List ByteArray) (f1 : List Dv) (f2 f3 f4 : Int) (g : Gd f0 f1) (s0 : Int) (s1 s2 s3 : List Int)
def qij:Prop:=0≤s0∧s0≤1000000000∧(s1.length:Int)=(f0.length:Int)-1+qeq f1∧s2.length=f1.length∧s3.length=(qcr f1 0).length∧s1.any qdc=false∧s2.any qdc=false∧qjB f1 s3 (qcr f1 0)
open Classical in
noncomputable def qfc:Int:=if chk f0 f1 f2 f3 f4=0 then(if qij f0 f1 s0 s1 s2 s3 then 0 else 190)else chk f0 f1 f2 f3 f4
variable (h1 : s1.length ≤ 1000000000000000000) (h2 : s2.length ≤ 1000000000000000000)
theorem qpl {f0 f1 f2 f3 f4 s0 s1 s2 s3} (hc:chk f0 f1 f2 f3 f4=0) (h:¬qij f0 f1 s0 s1 s2 s3):qfc f0 f1 f2 f3 f4 s0 s1 s2 s3=190:=by
  unfold qfc;rw [if_pos hc,if_neg h]
theorem qn9 {f0 f1 f2 f3 f4 s0 s1 s2 s3} (hc:chk f0 f1 f2 f3 f4=0) (h:qij f0 f1 s0 s1 s2 s3):qfc f0 f1 f2 f3 f4 s0 s1 s2 s3=0:=by
  unfold qfc;rw [if_pos hc,if_pos h]
theorem qh1 {f0 f1 f2 f3 f4 s0 s1 s2 s3} (h:qfc f0 f1 f2 f3 f4 s0 s1 s2 s3=0):chk f0 f1 f2 f3 f4=0∧qij f0 f1 s0 s1 s2 s3:=by
  unfold qfc at h
  split at h
  · rename_i hc
    split at h
    · rename_i q;exact⟨hc,q⟩
    · cases h
  · rename_i hc;exact absurd h hc
include g h1 h2
theorem qzz:Rn (fun k=>qgX k f0 f1 f2 f3 f4 s0 s1 s2 s3) (qfc f0 f1 f2 f3 f4 s0 s1 s2 s3):=by
  have g0:=g.l0
  have g1:=g.l1
  have hb1:=qjz f1 0
  refine Rn.up (f:=fun k=>qgX k f0 f1 f2 f3 f4 s0 s1 s2 s3) ?_
  show Rn (fun k=>qid k f0 f1 f2 f3 f4 s0 s1 s2 s3) _
  unfold qid
  have hf:=qr4 f0 f1 f2 f3 f4 g
  refine Rn.bind hf ?_
  by_cases hc:chk f0 f1 f2 f3 f4=0
  rotate_left
  · exact Rn.t (by rw [bne_iff_ne];exact hc) (Rn.const (by unfold qfc;rw [if_neg hc]))
  have hu:Rn (fun k=>qfl k f0 f1 f2 f3 f4) ((f0.length:Int)-1+qeq f1,brL ((f0.length:Int)-1) f1):=by
    refine Rn.up (f:=fun k=>qfl k f0 f1 f2 f3 f4) ?_
    show Rn (fun k=>qgM k f0 f1 f2 f3 f4) _
    unfold qgM
    refine Rn.bind hf (Rn.f (by rw [bne_iff_ne];exact fun h=>h hc) (Rn.bind (qph f0 f1 f2 f3 f4 g0 g1) (Rn.pure _)))
  refine Rn.f (by rw [bne_iff_ne];exact fun h=>h hc) (Rn.bind hu (Rn.bind (qvE f0 f1 f2 f3 f4 g1) ?_))
  have no:∀ {f:Nat→Option Int},¬qij f0 f1 s0 s1 s2 s3→Rn f 190→Rn f (qfc f0 f1 f2 f3 f4 s0 s1 s2 s3):=fun h r=>by rw [qpl hc h];exact r
  by_cases q0:s0<0
  · exact no (fun h=>by unfold qij at h;omega) (Rn.f (by simp [q0]) (Rn.pure _))
  refine Rn.t (by simpa using q0) ?_
  by_cases q1:s0>1000000000
  · exact no (fun h=>by unfold qij at h;omega) (Rn.f (by simp [q1]) (Rn.pure _))
  refine Rn.t (by simpa using q1) ?_
  by_cases q2:(s1.length:Int)=(f0.length:Int)-1+qeq f1
  rotate_left
  · exact no (fun h=>q2 h.2.2.1) (Rn.f (by rw [bne_eq_false_iff_eq];exact q2) (Rn.pure _))
  refine Rn.t (by rw [bne_eq_false_iff_eq];exact q2) ?_
  by_cases q3:s2.length=f1.length
  rotate_left
  · exact no (fun h=>q3 h.2.2.2.1) (Rn.f (by rw [bne_eq_false_iff_eq];omega) (Rn.pure _))
  refine Rn.t (by rw [bne_eq_false_iff_eq];omega) ?_
  by_cases q4:s3.length=(qcr f1 0).length
  rotate_left
  · exact no (fun h=>q4 h.2.2.2.2.1) (Rn.f (by rw [bne_eq_false_iff_eq];omega) (Rn.pure _))
  refine Rn.t (by rw [bne_eq_false_iff_eq];omega) (Rn.bind (qmc s1 h1) ?_)
  cases q5:s1.any qdc
  rotate_left
  · exact no (fun h=>by rw [h.2.2.2.2.2.1] at q5;cases q5) (Rn.f (by decide) (Rn.pure _))
  refine Rn.t rfl (Rn.bind (qmc s2 h2) ?_)
  cases q6:s2.any qdc
  rotate_left
  · exact no (fun h=>by rw [h.2.2.2.2.2.2.1] at q6;cases q6) (Rn.t rfl (Rn.pure _))
  refine Rn.f (by decide) ?_
  obtain⟨o,r1,r2⟩:=qtD f0 f1 f2 f3 f4 g s0 s1 s2 s3 (qcr f1 0) (by omega) q4 fun x hx=>by
    obtain⟨j,e,_,l⟩:=qjA f1 0 x hx;exact⟨j,e,by omega⟩
  refine Rn.bind r1.diag ?_
  rcases r2 with ⟨r2,rfl⟩ | ⟨r2,a,rfl,rfl⟩
  · rw [qn9 hc ⟨by omega,by omega,q2,q3,q4,q5,q6,r2⟩];exact Rn.pure _
  · exact no (fun h=>r2 h.2.2.2.2.2.2.2) (Rn.pure _)
theorem qsc:Rn (fun k=>qd1 k f0 f1 f2 f3 f4 s0 s1 s2 s3) (qfc f0 f1 f2 f3 f4 s0 s1 s2 s3):=by
  have g0:=g.l0
  have g1:=g.l1
  have hb1:=qjz f1 0
  refine Rn.up (f:=fun k=>qd1 k f0 f1 f2 f3 f4 s0 s1 s2 s3) ?_
  show Rn (fun k=>qfG k f0 f1 f2 f3 f4 s0 s1 s2 s3) _
  unfold qfG
  refine Rn.bind (qsa f0 f1 f2 f3 f4 g) ?_
  by_cases hc:chk f0 f1 f2 f3 f4=0
  rotate_left
  · exact Rn.t (by rw [bne_iff_ne];exact hc) (Rn.const (by unfold qfc;rw [if_neg hc]))
  refine Rn.f (by rw [bne_iff_ne];exact fun h=>h hc) (Rn.bind (qn7 f0 f1 f2 f3 f4 g) (Rn.bind (qtC f0 f1 f2 f3 f4 g1) ?_))
  have no:∀ {f:Nat→Option Int},¬qij f0 f1 s0 s1 s2 s3→Rn f 190→Rn f (qfc f0 f1 f2 f3 f4 s0 s1 s2 s3):=fun h r=>by rw [qpl hc h];exact r
  by_cases q0:s0<0
  · exact no (fun h=>by unfold qij at h;omega) (Rn.f (by simp [q0]) (Rn.pure _))
  refine Rn.t (by simpa using q0) ?_
  by_cases q1:s0>1000000000
  · exact no (fun h=>by unfold qij at h;omega) (Rn.f (by simp [q1]) (Rn.pure _))
  refine Rn.t (by simpa using q1) ?_
  by_cases q2:(s1.length:Int)=(f0.length:Int)-1+qeq f1
  rotate_left
  · exact no (fun h=>q2 h.2.2.1) (Rn.f (by rw [bne_eq_false_iff_eq];exact q2) (Rn.pure _))
  refine Rn.t (by rw [bne_eq_false_iff_eq];exact q2) ?_
  by_cases q3:s2.length=f1.length
  rotate_left
  · exact no (fun h=>q3 h.2.2.2.1) (Rn.f (by rw [bne_eq_false_iff_eq];omega) (Rn.pure _))
  refine Rn.t (by rw [bne_eq_false_iff_eq];omega) ?_
  by_cases q4:s3.length=(qcr f1 0).length
  rotate_left
  · exact no (fun h=>q4 h.2.2.2.2.1) (Rn.t (by rw [bne_iff_ne];omega) (Rn.pure _))
  refine Rn.f (by rw [bne_iff_ne];omega) (Rn.bind (qlr s1 h1) ?_)
  cases q5:s1.any qdc
  rotate_left
  · exact no (fun h=>by rw [h.2.2.2.2.2.1] at q5;cases q5) (Rn.f (by decide) (Rn.pure _))
  refine Rn.t rfl (Rn.bind (qlr s2 h2) ?_)
  cases q6:s2.any qdc
  rotate_left
  · exact no (fun h=>by rw [h.2.2.2.2.2.2.1] at q6;cases q6) (Rn.t rfl (Rn.pure _))
  refine Rn.f (by decide) ?_
  obtain⟨o,r1,r2⟩:=qtE f0 f1 f2 f3 f4 g s0 s1 s2 s3 (qcr f1 0) (by omega) q4 fun x hx=>by
    obtain⟨j,e,_,l⟩:=qjA f1 0 x hx;exact⟨j,e,by omega⟩
  refine Rn.bind r1.diag ?_
  rcases r2 with ⟨r2,rfl⟩ | ⟨r2,a,rfl,rfl⟩
  · rw [qn9 hc ⟨by omega,by omega,q2,q3,q4,q5,q6,r2⟩];exact Rn.pure _
  · exact no (fun h=>r2 h.2.2.2.2.2.2.2) (Rn.pure _)
end
theorem qoa {A B α:Type} (l:List α) (p:α→Bool) (F:Nat→Nat→Int→Option (A ⊕ B)) (b:B) (f:Nat→α→A)
    (hend:Rl (fun k n=>F k n (l.length:Int)) (.inr b))
    (hgo:∀(i:Nat) (x:α),l[i]? =some x→p x=false→∀o,Rl (fun k n=>F k n ((i:Int)+1)) o→Rl (fun k n=>F k n (i:Int)) o)
    (hno:∀(i:Nat) (x:α),l[i]? =some x→p x=true→Rl (fun k n=>F k n (i:Int)) (.inl (f i x))):
    (l.any p=false∧Rl (fun k n=>F k n 0) (.inr b))∨∃i x,l[i]? =some x∧l.findIdx? p=some i∧Rl (fun k n=>F k n 0) (.inl (f i x)):=by
  have key:∀d i:Nat,i+d=l.length→((l.drop i).any p=false∧Rl (fun k n=>F k n (i:Int)) (.inr b))∨∃j x,l[i+j]? =some x∧(l.drop i).findIdx? p=some j∧Rl (fun k n=>F k n (i:Int)) (.inl (f (i+j) x)):=by
    intro d
    induction d with
    | zero =>
      intro i e
      obtain rfl:i=l.length:=by omega
      exact .inl ⟨by rw [List.drop_length];rfl,hend⟩
    | succ d ih =>
      intro i e
      have hi:i<l.length:=by omega
      have eg:=List.getElem?_eq_getElem hi
      rw [List.drop_eq_getElem_cons hi,List.any_cons,List.findIdx?_cons]
      cases hp:p l[i]
      · rcases ih (i + 1) (by omega) with ⟨a1, a2⟩ | ⟨j, x, a1, a2, a3⟩
        · exact .inl ⟨by simpa using a1,hgo i _ eg hp _ (by simpa using a2)⟩
        · refine .inr ⟨j + 1, x, by rw [← a1]; congr 1; omega, by simp [a2], ?_⟩
          rw [show i+(j+1)=i+1+j by omega]
          exact hgo i _ eg hp _ (by simpa using a3)
      · exact .inr ⟨0,l[i],by simp,by simp,hno i _ eg hp⟩
  rcases key l.length 0 (by omega)with h | ⟨j,x,a1,a2,a3⟩
  · exact .inl (by simpa using h)
  · exact .inr ⟨j,x,by simpa using a1,by simpa using a2,by simpa using a3⟩
def whr (l:List (List UInt8)) (s:List UInt8):Int×Int:=match l.findIdx? (fun x=>decide (x=s))with
  | some i=>((i:Int),0)
  | none=>(0,6)
theorem qsd {l:List (List UInt8)} {s:List UInt8} (h:l.any (fun x=>decide (x=s))=false):whr l s=(0,6):=by
  unfold whr
  rw [List.findIdx?_eq_none_iff.2 fun x hx=>by rw [List.any_eq_false] at h;simpa using h x hx]
theorem qlN {l:List (List UInt8)} {s:List UInt8} {i:Nat} (h:l.findIdx? (fun x=>decide (x=s))=some i):whr l s=((i:Int),0):=by
  unfold whr;rw [h]
theorem qpm {α:Type} (f:α→List UInt8) (s:List UInt8) (l:List α):(l.map f).any (fun x=>decide (x=s))=l.any fun x=>decide (f x=s):=by
  induction l with
  | nil=>rfl
  | cons x l ih=>simp only [List.map_cons,List.any_cons,ih]
theorem qob {α:Type} (f:α→List UInt8) (s:List UInt8) (l:List α):(l.map f).findIdx? (fun x=>decide (x=s))=l.findIdx? fun x=>decide (f x=s):=by
  induction l with
  | nil=>rfl
  | cons x l ih=>simp only [List.map_cons,List.findIdx?_cons,ih]
section
variable (f0 : List ByteArray) (f1 : List Dv) (f2 f3 f4 : Int) (g : Gd f0 f1) (s : ByteArray)
include g
theorem qvG:Rn (fun k=>qhX k f0 f1 f2 f3 f4 s) (whr (f1.map fun d=>dl d.2.1) (dl s)):=by
  have g1:=g.l1
  refine Rn.up (f:=fun k=>qhX k f0 f1 f2 f3 f4 s) ?_
  show Rn (fun k=>qjt k f0 f1 f2 f3 f4 s) _
  unfold qjt
  rcases qoa f1 (fun d=>decide (dl d.2.1=dl s)) (fun k q i=>qcS k q s f1 (f1.length:Int) i) () (fun i x3=>((i:Int),(0:Int),x3.1,x3.2.1,x3.2.2.1,x3.2.2.2.1,x3.2.2.2.2.1.1,x3.2.2.2.2.1.2,x3.2.2.2.2.2.1.1,x3.2.2.2.2.2.1.2.1,x3.2.2.2.2.2.1.2.2,x3.2.2.2.2.2.2.1,x3.2.2.2.2.2.2.2.1,x3.2.2.2.2.2.2.2.2.1,x3.2.2.2.2.2.2.2.2.2)) (by
        refine Rl.up (f:=fun k q=>qcS k q s f1 (f1.length:Int) (f1.length:Int)) ?_
        show Rl (fun k q=>qdx k (qcS k q) _ _ _ _) _
        unfold qdx
        exact Rl.f (by simp) (Rl.pure _)) (by
        intro i x e hp o ho
        have hi:=(List.getElem?_eq_some_iff.1 e).1
        refine Rl.up (f:=fun k q=>qcS k q s f1 (f1.length:Int) (i:Int)) ?_
        show Rl (fun k q=>qdx k (qcS k q) _ _ _ _) _
        unfold qdx
        rw [qf (x:=(i:Int)+1) (by omega)]
        exact Rl.t (by first | omega | (simp only [decide_eq_true_eq,decide_eq_false_iff_not,Int.toNat_natCast,beq_iff_eq,bne_iff_ne,ne_eq,Int.not_lt,Int.not_le,ge_iff_le,gt_iff_lt,beq_eq_false_iff_ne,Nat.zero_add];omega)) (Rl.t (by first | omega | (simp only [decide_eq_true_eq,decide_eq_false_iff_not,Int.toNat_natCast,beq_iff_eq,bne_iff_ne,ne_eq,Int.not_lt,Int.not_le,ge_iff_le,gt_iff_lt,beq_eq_false_iff_ne,Nat.zero_add];omega)) (Rl.at (by rw [Int.toNat_natCast];exact e) (Rl.f (by rw [beq_iff_eq];simpa using hp) ho)))) (by
        intro i x e hp
        have hi:=(List.getElem?_eq_some_iff.1 e).1
        refine Rl.up (f:=fun k q=>qcS k q s f1 (f1.length:Int) (i:Int)) ?_
        show Rl (fun k q=>qdx k (qcS k q) _ _ _ _) _
        unfold qdx
        exact Rl.t (by first | omega | (simp only [decide_eq_true_eq,decide_eq_false_iff_not,Int.toNat_natCast,beq_iff_eq,bne_iff_ne,ne_eq,Int.not_lt,Int.not_le,ge_iff_le,gt_iff_lt,beq_eq_false_iff_ne,Nat.zero_add];omega)) (Rl.t (by first | omega | (simp only [decide_eq_true_eq,decide_eq_false_iff_not,Int.toNat_natCast,beq_iff_eq,bne_iff_ne,ne_eq,Int.not_lt,Int.not_le,ge_iff_le,gt_iff_lt,beq_eq_false_iff_ne,Nat.zero_add];omega)) (Rl.at (by rw [Int.toNat_natCast];exact e) (Rl.t (by rw [beq_iff_eq];simpa using hp) (Rl.pure _)))))with ⟨r1,r2⟩ | ⟨i,x,r0,r1,r2⟩
  · rw [qsd (by rw [qpm];exact r1)];exact Rn.bind r2.diag (Rn.pure _)
  · rw [qlN (by rw [qob];exact r1)];exact Rn.bind r2.diag (Rn.pure _)
theorem qoc:Rn (fun k=>qgy k f0 f1 f2 f3 f4 s) (whr (f0.map dl) (dl s)):=by
  have g1:=g.l0
  have key:∀ {a:Int},Rn (fun k=>qaL k f0 s) a→Rn (fun k=>if decide (a<0)=true then some ((0:Int),(6:Int))else some (a,0)) (whr (f0.map dl) (dl s))→Rn (fun k=>qgy k f0 f1 f2 f3 f4 s) (whr (f0.map dl) (dl s)):=by
    intro a h1 h2
    refine Rn.up (f:=fun k=>qgy k f0 f1 f2 f3 f4 s) ?_
    show Rn (fun k=>qiW k f0 f1 f2 f3 f4 s) _
    unfold qiW
    exact Rn.bind h1 h2
  have up:∀ {o:Int ⊕ Unit} {a:Int},Rl (fun k q=>qv k q f0 s (f0.length:Int) 0) o→Rn (fun k=>qc o (fun r=>some r) (fun r=>some (-1))) a→Rn (fun k=>qaL k f0 s) a:=by
    intro o a h1 h2
    refine Rn.up (f:=fun k=>qaL k f0 s) ?_
    show Rn (fun k=>qcH k f0 s) _
    unfold qcH
    exact Rn.bind h1.diag h2
  rcases qoa f0 (fun d=>decide (dl d=dl s)) (fun k q i=>qv k q f0 s (f0.length:Int) i) () (fun i x3=>(i:Int)) (by
        refine Rl.up (f:=fun k q=>qv k q f0 s (f0.length:Int) (f0.length:Int)) ?_
        show Rl (fun k q=>qF k (qv k q) _ _ _ _) _
        unfold qF
        exact Rl.f (by simp) (Rl.pure _)) (by
        intro i x e hp o ho
        have hi:=(List.getElem?_eq_some_iff.1 e).1
        refine Rl.up (f:=fun k q=>qv k q f0 s (f0.length:Int) (i:Int)) ?_
        show Rl (fun k q=>qF k (qv k q) _ _ _ _) _
        unfold qF
        rw [qf (x:=(i:Int)+1) (by omega)]
        exact Rl.t (by first | omega | (simp only [decide_eq_true_eq,decide_eq_false_iff_not,Int.toNat_natCast,beq_iff_eq,bne_iff_ne,ne_eq,Int.not_lt,Int.not_le,ge_iff_le,gt_iff_lt,beq_eq_false_iff_ne,Nat.zero_add];omega)) (Rl.t (by first | omega | (simp only [decide_eq_true_eq,decide_eq_false_iff_not,Int.toNat_natCast,beq_iff_eq,bne_iff_ne,ne_eq,Int.not_lt,Int.not_le,ge_iff_le,gt_iff_lt,beq_eq_false_iff_ne,Nat.zero_add];omega)) (Rl.at (by rw [Int.toNat_natCast];exact e) (Rl.f (by rw [beq_iff_eq];exact fun h=>(by simpa using hp:¬dl x=dl s) h.symm) ho)))) (by
        intro i x e hp
        have hi:=(List.getElem?_eq_some_iff.1 e).1
        refine Rl.up (f:=fun k q=>qv k q f0 s (f0.length:Int) (i:Int)) ?_
        show Rl (fun k q=>qF k (qv k q) _ _ _ _) _
        unfold qF
        exact Rl.t (by first | omega | (simp only [decide_eq_true_eq,decide_eq_false_iff_not,Int.toNat_natCast,beq_iff_eq,bne_iff_ne,ne_eq,Int.not_lt,Int.not_le,ge_iff_le,gt_iff_lt,beq_eq_false_iff_ne,Nat.zero_add];omega)) (Rl.t (by first | omega | (simp only [decide_eq_true_eq,decide_eq_false_iff_not,Int.toNat_natCast,beq_iff_eq,bne_iff_ne,ne_eq,Int.not_lt,Int.not_le,ge_iff_le,gt_iff_lt,beq_eq_false_iff_ne,Nat.zero_add];omega)) (Rl.at (by rw [Int.toNat_natCast];exact e) (Rl.t (by rw [beq_iff_eq];exact(by simpa using hp:dl x=dl s).symm) (Rl.pure _)))))with ⟨r1,r2⟩ | ⟨i,x,r0,r1,r2⟩
  · rw [qsd (by rw [qpm];exact r1)] at key ⊢;exact key (up r2 (Rn.pure _)) (Rn.t (by decide) (Rn.pure _))
  · rw [qlN (by rw [qob];exact r1)] at key ⊢;exact key (up r2 (Rn.pure _)) (Rn.f (by rw [decide_eq_true_eq];omega) (Rn.pure _))
end
theorem qlO (c:UInt8) (x:UInt8) (hx:x≠c):∀l:List UInt8,x∈l→∃p∈pcs c l,x∈p
  | [],h=>by cases h
  | y :: r, h => by
    unfold pcs
    by_cases e:y=c
    · rw [if_pos e]
      rcases List.mem_cons.1 h with rfl | h
      · exact absurd e hx
      · obtain ⟨p, h1, h2⟩ := qlO c x hx r h
        exact⟨p,List.mem_cons_of_mem _ h1,h2⟩
    · rw [if_neg e]
      rcases List.mem_cons.1 h with rfl | h
      · exact⟨_,List.mem_cons_self ..,List.mem_cons_self ..⟩
      · obtain ⟨p, h1, h2⟩ := qlO c x hx r h
        cases hq:pcs c r with
        | nil=>rw [hq] at h1;cases h1
        | cons q qs =>
          rw [hq] at h1
          rcases List.mem_cons.1 h1 with rfl | h1
          · exact⟨_,List.mem_cons_self ..,List.mem_cons_of_mem _ h2⟩
          · exact⟨p,List.mem_cons_of_mem _ h1,h2⟩
theorem qme {l:List UInt8} (h:(44:UInt8)∈l):qgc l=false:=by
  obtain⟨p,h1,h2⟩:=qlO 46 44 (by decide) l h
  have:qfV p=false:=by
    unfold qfV
    rw [Bool.and_eq_false_iff]
    left
    rw [List.all_eq_false]
    exact⟨44,List.mem_map.2 ⟨44,h2,rfl⟩,by decide⟩
  unfold qgc
  rw [Bool.and_eq_false_iff]
  right
  rw [List.all_eq_false]
  exact⟨p,h1,by rw [this];decide⟩
theorem qvH:qgc []=false:=by decide
theorem qse {l:List UInt8} {c:UInt8}:0<Go.Lib.countByte l c↔c∈l:=by unfold Go.Lib.countByte;exact List.count_pos_iff
theorem qmf {l:List UInt8} (h:qgc l=true):Go.Lib.countByte l 44=0:=by
  rcases Nat.eq_zero_or_pos (Go.Lib.countByte l 44)with h' | h'
  · exact h'
  · rw [qme (qse.1 h')] at h;cases h
theorem qlP (t:ByteArray) (i:Nat):t.data[i]? =(dl t)[i]? :=by unfold dl;rw [Array.getElem?_toList]
structure Prb (t:ByteArray) (x0 x1 xl:UInt8) (A:List UInt8):Prop where
  eq:dl t=x0::x1::(A++ [xl])
theorem Prb.of (t:ByteArray) (h:3≤t.size):∃x0 x1 xl A,Prb t x0 x1 xl A:=by
  rw [←qag] at h
  cases e:dl t with
  | nil=>rw [e] at h;simp at h
  | cons x0 r =>
    cases r with
    | nil=>rw [e] at h;simp at h
    | cons x1 r =>
      rcases List.eq_nil_or_concat r with rfl | ⟨A,xl,rfl⟩
      · rw [e] at h;simp at h
      · exact⟨x0,x1,xl,A,⟨by rw [e,List.concat_eq_append]⟩⟩
section
variable {t : ByteArray} {x0 x1 xl : UInt8} {A : List UInt8} (h : Prb t x0 x1 xl A)
include h
theorem Prb.size:t.size=A.length+3:=by rw [←qag,h.eq];simp
theorem Prb.a0:t.data[0]? =some x0:=by rw [qlP,h.eq];rfl
theorem Prb.a1:t.data[1]? =some x1:=by rw [qlP,h.eq];rfl
theorem Prb.al (hs:t.size≤1000000000000):t.data[Int.toNat (IntKind.wrap .i64 ((t.size:Int)-1))]? =some xl:=by
  have:=h.size
  rw [qf (by omega),show((t.size:Int)-1).toNat=A.length+2 by omega,qlP,h.eq]
  simp
theorem Prb.inner (hs:t.size≤1000000000000):dl (t.extract 2 (Int.toNat (IntKind.wrap .i64 ((t.size:Int)-1))))=A:=by
  have:=h.size
  rw [qf (by omega),show((t.size:Int)-1).toNat=A.length+2 by omega,qjw,h.eq]
  simp
end
theorem qjC (x:UInt8) (n:Nat) (hn:n<256):((x.toNat:Nat):Int)=(n:Int)↔x=n.toUInt8:=by
  constructor
  · intro h
    apply UInt8.toNat.inj
    rw [show(n.toUInt8).toNat=n from by simp [Nat.toUInt8];omega]
    omega
  · rintro rfl
    rw [show(n.toUInt8).toNat=n from by simp [Nat.toUInt8];omega]
def qod (x0 x1 xl:UInt8) (l:List ByteArray):Prop:=(x0=118∨x0=105)∧x1=40∧xl=41∧l.length≤2∧(x0=105→l.length=1)∧l.all qaR=true
open Classical in
noncomputable def qh2 (x0 x1 xl:UInt8) (l:List ByteArray):Int×List ByteArray×Bool:=if qod x0 x1 xl l then((x0.toNat:Nat),l,true)else(0,[],false)
theorem qtF (l:List ByteArray) (hl:l.length≤1000000000000) (hs:∀p∈l,p.size≤1000000000000):Rn (fun k=>qp k l) (!l.all qaR):=by
  obtain⟨o,b1,b2⟩:=qhP qbn qfU qaR l (by omega) (fun _ _ _ _=>rfl) (fun p hp=>by
    refine Rn.up (f:=fun k=>qfU k p) ?_
    show Rn (fun k=>qhg k p) _
    unfold qhg
    exact Rn.bind (qn3 p (hs p hp)) (Rn.pure _))
  refine Rn.up (f:=fun k=>qp k l) ?_
  show Rn (fun k=>qbi k l) _
  unfold qbi
  have key:∀a,Rn (fun k=>qc o (fun r4=>some r4) (fun r4=>some (-1))) a→Rn (fun k=>qav k l) a:=by
    intro a h
    refine Rn.up (f:=fun k=>qav k l) ?_
    show Rn (fun k=>qbJ k l) _
    unfold qbJ
    exact Rn.bind b1.diag h
  rcases b2 with ⟨b2,rfl⟩ | ⟨b2,a,ha,rfl⟩
  · rw [b2];exact Rn.bind (key _ (Rn.pure _)) (Rn.pure _)
  · rw [b2];exact Rn.bind (key _ (Rn.pure _)) (Rn.const (congrArg some (decide_eq_true ha)))
theorem qvI {t:ByteArray} {x0 x1 xl:UInt8} {A:List UInt8} (h:Prb t x0 x1 xl A) (h4:4≤t.size) (hs:t.size≤1000000000000):
    ∃l:List ByteArray,l.map dl=pcs 44 A∧(∀p∈l,p.size≤t.size)∧Rn (fun k=>qgZ k t) (qh2 x0 x1 xl l):=by
  have hz:=h.size
  obtain⟨l,q1,q2⟩:=qjx (t.extract 2 (Int.toNat (IntKind.wrap .i64 ((t.size:Int)-1)))) 44 (by rw [←qag,h.inner hs];omega)
  obtain⟨q3,q4⟩:=qi2 q2
  have q5:=qi1 q2
  have q6:(t.extract 2 (Int.toNat (IntKind.wrap .i64 ((t.size:Int)-1)))).size=A.length:=by rw [←qag,h.inner hs]
  rw [h.inner hs] at q2
  refine⟨l,q2,fun p hp=>by have:=q5 p hp;omega,?_⟩
  have hb:=qtF l (by omega) (fun p hp=>by have:=q5 p hp;omega)
  have no:∀ {f:Nat→Option (Int×List ByteArray×Bool)},¬qod x0 x1 xl l→Rn f (0,[],false)→Rn f (qh2 x0 x1 xl l):=fun h r=>by unfold qh2;rw [if_neg h];exact r
  have u118:(((x0.toNat:Nat):Int)=118)↔x0=118:=qjC x0 118 (by decide)
  have u105:(((x0.toNat:Nat):Int)=105)↔x0=105:=qjC x0 105 (by decide)
  have u40:(((x1.toNat:Nat):Int)=40)↔x1=40:=qjC x1 40 (by decide)
  have u41:(((xl.toNat:Nat):Int)=41)↔xl=41:=qjC xl 41 (by decide)
  refine Rn.up (f:=fun k=>qgZ k t) ?_
  show Rn (fun k=>qif k t) _
  unfold qif
  refine Rn.t (by rw [decide_eq_false_iff_not];omega) (Rn.at h.a0 ?_)
  have w:IntKind.wrap .i64 ((t.size:Int)-1)=(t.size:Int)-1:=qf (by omega)
  -- behind the head
  have tail:x0=118∨x0=105→Rn (fun k=>Option.bind t.data[1]? fun x1=>if((((UInt8.toNat x1:Nat):Int) != 40)=false)then(if((0:Int)≤(IntKind.wrap .i64 ((t.size:Int)-1)))then Option.bind t.data[Int.toNat (IntKind.wrap .i64 ((t.size:Int)-1))]? fun x2=>if((((UInt8.toNat x2:Nat):Int) != 41)=true)then some (0,[],false)else(if(((0:Int)≤2)∧((2≤(IntKind.wrap .i64 ((t.size:Int)-1)))∧((IntKind.wrap .i64 ((t.size:Int)-1))≤(t.size:Int))))then Option.bind (qcd k (t.extract 2 (Int.toNat (IntKind.wrap .i64 ((t.size:Int)-1)))) (ByteArray.mk (List.toArray (44:: [])))) fun r2=>if((decide ((r2.length:Int)>2))=false)then(Option.bind t.data[0]? fun x3=>if((((UInt8.toNat x3:Nat):Int) == 105)=true)then(if(((r2.length:Int) != 1)=false)then(Option.bind (qp k r2) fun r3=>if(r3=true)then some (0,[],false)else Option.bind t.data[0]? fun x4=>some (((UInt8.toNat x4:Nat):Int),r2,true))else some (0,[],false))else Option.bind (qp k r2) fun r3=>if(r3=true)then some (0,[],false)else Option.bind t.data[0]? fun x4=>some (((UInt8.toNat x4:Nat):Int),r2,true))else some (0,[],false)else none)else none)else some (0,[],false)) (qh2 x0 x1 xl l):=by
    intro hx
    refine Rn.at h.a1 ?_
    by_cases c1:x1=40
    rotate_left
    · exact no (fun h=>c1 h.2.1) (Rn.f (by rw [bne_eq_false_iff_eq,u40];exact c1) (Rn.pure _))
    refine Rn.t (by rw [bne_eq_false_iff_eq,u40];exact c1) (Rn.t (by rw [w];omega) (Rn.at (h.al hs) ?_))
    by_cases c2:xl=41
    rotate_left
    · exact no (fun h=>c2 h.2.2.1) (Rn.t (by rw [bne_iff_ne,ne_eq,u41];exact c2) (Rn.pure _))
    refine Rn.f (by rw [bne_iff_ne,ne_eq,u41];exact fun h=>h c2) (Rn.t (by rw [w];omega) (Rn.bind q1 ?_))
    by_cases c3:l.length≤2
    rotate_left
    · exact no (fun h=>c3 h.2.2.2.1) (Rn.f (by rw [decide_eq_false_iff_not];omega) (Rn.pure _))
    refine Rn.t (by rw [decide_eq_false_iff_not];omega) (Rn.at h.a0 ?_)
    have fin:(x0=105→l.length=1)→Rn (fun k=>Option.bind (qp k l) fun r3=>if(r3=true)then some (0,[],false)else Option.bind t.data[0]? fun x4=>some (((UInt8.toNat x4:Nat):Int),l,true)) (qh2 x0 x1 xl l):=by
      intro h1
      refine Rn.bind hb ?_
      cases hq:l.all qaR
      · exact no (fun h=>by rw [h.2.2.2.2.2] at hq;cases hq) (Rn.t rfl (Rn.pure _))
      · refine Rn.f (by decide) (Rn.at h.a0 (Rn.const ?_))
        unfold qh2
        rw [if_pos ⟨hx,c1,c2,c3,h1,hq⟩]
    by_cases c4:x0=105
    · refine Rn.t (by rw [beq_iff_eq, u105]; exact c4) ?_
      by_cases c5:l.length=1
      · exact Rn.t (by rw [bne_eq_false_iff_eq];omega) (fin fun _=>c5)
      · exact no (fun h=>c5 (h.2.2.2.2.1 c4)) (Rn.f (by rw [bne_eq_false_iff_eq];omega) (Rn.pure _))
    · exact Rn.f (by rw [beq_iff_eq,u105];exact c4) (fin fun h=>absurd h c4)
  by_cases d1:x0=118
  · exact Rn.f (by rw [bne_iff_ne,ne_eq,u118];exact fun h=>h d1) (tail (.inl d1))
  · refine Rn.t (by rw [bne_iff_ne, ne_eq, u118]; exact d1) (Rn.at h.a0 ?_)
    by_cases d2:x0=105
    · exact Rn.t (by rw [bne_eq_false_iff_eq,u105];exact d2) (tail (.inr d2))
    · exact no (fun h=>by rcases h.1 with h | h;exact d1 h;exact d2 h) (Rn.f (by rw [bne_eq_false_iff_eq,u105];exact d2) (Rn.pure _))
def qby (s1:List Int) (n:Nat):Int:=if n=0 then 0 else(s1[n-1]?).getD 0
theorem qh3 (l:List (List UInt8)) (s:List UInt8):(∃i:Nat,whr l s=((i:Int),0)∧i<l.length∧l[i]? =some s)∨whr l s=(0,6):=by
  unfold whr
  cases h:l.findIdx? (fun x=>decide (x=s))with
  | none=>exact .inr rfl
  | some i =>
    obtain⟨h1,h2,_⟩:=List.findIdx?_eq_some_iff_getElem.1 h
    refine .inl ⟨i,rfl,h1,?_⟩
    rw [List.getElem?_eq_getElem h1]
    simpa using h2
theorem qhu {s1:List Int} (h:s1.any qdc=false) (n:Nat): -1000000000000000000≤qby s1 n∧qby s1 n≤1000000000000000000:=by
  unfold qby
  split
  · omega
  · cases e : s1[n - 1]? with
    | none=>simp
    | some x =>
      rw [List.any_eq_false] at h
      have:=h x (List.mem_of_getElem? e)
      unfold qdc at this
      rw [decide_eq_true_eq] at this
      simp only [Option.getD_some]
      omega
theorem qtG {s1:List Int} {n:Nat} (h:0<n) (hl:n≤s1.length):s1[n-1]? =some (qby s1 n):=by
  unfold qby
  rw [if_neg (by omega),List.getElem?_eq_getElem (by omega)]
  rfl
section
variable (f0 : List ByteArray) (f1 : List Dv) (f2 f3 f4 : Int)
theorem qmg (s0:Int) (s1 s2 s3:List Int) (v sg:Int) (l:List ByteArray):Rl (fun k q=>qaI k q v sg l (l.length:Int) (l.length:Int) f0 f1 f2 f3 f4 s0 s1 s2 s3) (.inr (v,f0,f1,f2,f3,f4,s0,s1,s2,s3)):=by
  refine Rl.up (f:=fun k q=>qaI k q v sg l (l.length:Int) (l.length:Int) f0 f1 f2 f3 f4 s0 s1 s2 s3) ?_
  show Rl (fun k q=>qcI k (qaI k q) _ _ _ _ _ _ _ _ _ _ _ _ _ _) _
  unfold qcI
  exact Rl.f (by simp) (Rl.pure _)
variable (g : Gd f0 f1) (s0 : Int) (s1 s2 s3 : List Int)
include g
theorem qjD (v sg:Int) (l:List ByteArray) (i:Nat) (p:ByteArray) (e:l[i]? =some p) (hw:whr (f0.map dl) (dl p)=(0,6)):
    Rl (fun k q=>qaI k q v sg l (l.length:Int) (i:Int) f0 f1 f2 f3 f4 s0 s1 s2 s3) (.inl (0,6,f0,f1,f2,f3,f4,s0,s1,s2,s3)):=by
  have hi:=(List.getElem?_eq_some_iff.1 e).1
  have hf:=qoc f0 f1 f2 f3 f4 g p
  rw [hw] at hf
  refine Rl.up (f:=fun k q=>qaI k q v sg l (l.length:Int) (i:Int) f0 f1 f2 f3 f4 s0 s1 s2 s3) ?_
  show Rl (fun k q=>qcI k (qaI k q) _ _ _ _ _ _ _ _ _ _ _ _ _ _) _
  unfold qcI
  exact Rl.t (by first | omega | (simp only [decide_eq_true_eq,decide_eq_false_iff_not,Int.toNat_natCast,beq_iff_eq,bne_iff_ne,ne_eq,Int.not_lt,Int.not_le,ge_iff_le,gt_iff_lt,beq_eq_false_iff_ne,Nat.zero_add];omega)) (Rl.t (by first | omega | (simp only [decide_eq_true_eq,decide_eq_false_iff_not,Int.toNat_natCast,beq_iff_eq,bne_iff_ne,ne_eq,Int.not_lt,Int.not_le,ge_iff_le,gt_iff_lt,beq_eq_false_iff_ne,Nat.zero_add];omega)) (Rl.at (by rw [Int.toNat_natCast];exact e) (Rl.bind hf (Rl.t (by decide) (Rl.pure _)))))
variable (hx : s1.any qdc = false) (hn : f0.length ≤ s1.length + 1)
include hx hn
theorem qi3 (v sg:Int) (hv: -1000000000000000000≤v∧v≤1000000000000000000) (hsg:sg=1∨sg= -1) (l:List ByteArray) (i n:Nat) (hl:l.length≤10) (p:ByteArray) (e:l[i]? =some p) (hw:whr (f0.map dl) (dl p)=((n:Int),0)) (hnl:n<f0.length) {o}
    (h:Rl (fun k q=>qaI k q (v+sg*qby s1 n) (-1) l (l.length:Int) ((i+1:Nat):Int) f0 f1 f2 f3 f4 s0 s1 s2 s3) o):
    Rl (fun k q=>qaI k q v sg l (l.length:Int) (i:Int) f0 f1 f2 f3 f4 s0 s1 s2 s3) o:=by
  have hi:=(List.getElem?_eq_some_iff.1 e).1
  have hf:=qoc f0 f1 f2 f3 f4 g p
  have g0:=g.l0
  rw [hw] at hf
  have hb:=qhu hx n
  refine Rl.up (f:=fun k q=>qaI k q v sg l (l.length:Int) (i:Int) f0 f1 f2 f3 f4 s0 s1 s2 s3) ?_
  show Rl (fun k q=>qcI k (qaI k q) _ _ _ _ _ _ _ _ _ _ _ _ _ _) _
  unfold qcI
  have w2:IntKind.i64.wrap ((i:Int)+1)=((i+1:Nat):Int):=by rw [qf (by omega)];omega
  refine Rl.t (by first | omega | (simp only [decide_eq_true_eq,decide_eq_false_iff_not,Int.toNat_natCast,beq_iff_eq,bne_iff_ne,ne_eq,Int.not_lt,Int.not_le,ge_iff_le,gt_iff_lt,beq_eq_false_iff_ne,Nat.zero_add];omega)) (Rl.t (by first | omega | (simp only [decide_eq_true_eq,decide_eq_false_iff_not,Int.toNat_natCast,beq_iff_eq,bne_iff_ne,ne_eq,Int.not_lt,Int.not_le,ge_iff_le,gt_iff_lt,beq_eq_false_iff_ne,Nat.zero_add];omega)) (Rl.at (by rw [Int.toNat_natCast];exact e) (Rl.bind hf (Rl.f (by show ¬((0:Int) != 0)=true;decide) ?_))))
  rw [w2]
  by_cases c:0<n
  · have eq:s1[Int.toNat (IntKind.wrap .i64 ((n:Int)-1))]? =some (qby s1 n):=by
      rw [qf (by omega),show((n:Int)-1).toNat=n-1 by omega]
      exact qtG c (by omega)
    have w3:IntKind.i64.wrap (v+IntKind.i64.wrap (sg*qby s1 n))=v+sg*qby s1 n:=by
      rcases hsg with rfl | rfl
      · rw [qf (x:=1*qby s1 n) (by omega),qf (by omega)]
      · rw [qf (x:= -1*qby s1 n) (by omega),qf (by omega)]
    refine Rl.t (by rw [decide_eq_true_eq];show(n:Int)>0;omega) (Rl.t (by show 0≤IntKind.wrap .i64 ((n:Int)-1);rw [qf (by omega)];omega) (Rl.at eq ?_))
    rw [w3]
    exact h
  · refine Rl.f (by rw [decide_eq_true_eq]; show ¬ (n : Int) > 0; omega) ?_
    have:v+sg*qby s1 n=v:=by unfold qby;rw [if_pos (by omega)];omega
    rw [this] at h
    exact h
end
def qqH (f1:List Dv) (s2:List Int) (A:List UInt8):Int×Int:=
  let w:=whr (f1.map fun d=>dl d.2.1) A
  if w.2=0 then((s2[w.1.toNat]?).getD 0,0)else(0,6)
def qhp (f0:List ByteArray) (s1:List Int):List (List UInt8)→Int×Int
  | [p]=>let w:=whr (f0.map dl) p;if w.2=0 then(qby s1 w.1.toNat,0)else(0,6)
  | [p,q]=>let w:=whr (f0.map dl) p;let u:=whr (f0.map dl) q;if w.2=0∧u.2=0 then(qby s1 w.1.toNat-qby s1 u.1.toNat,0)else(0,6)
  | _=>(0,3)
def qi4 (f0:List ByteArray) (f1:List Dv) (s1 s2:List Int) (x0 x1 xl:UInt8) (A:List UInt8):Int×Int:=
  if x1=40∧xl=41∧(pcs 44 A).all qgc=true then(if x0=105∧(pcs 44 A).length=1 then qqH f1 s2 A else if x0=118 then qhp f0 s1 (pcs 44 A)else(0,3))else(0,3)
section
variable (f0 : List ByteArray) (f1 : List Dv) (f2 f3 f4 : Int) (g : Gd f0 f1) (s0 : Int) (s1 s2 s3 : List Int) (h1 : s1.length ≤ 1000000000000000000) (h2 : s2.length ≤ 1000000000000000000)
include g h1 h2
variable (hc : qfc f0 f1 f2 f3 f4 s0 s1 s2 s3 = 0)
include hc
theorem qoe {t:ByteArray} {x0 x1 xl:UInt8} {A:List UInt8} (h:Prb t x0 x1 xl A) (h4:4≤t.size) (hs:t.size≤1000000000000):
    Rn (fun k=>qbQ k f0 f1 f2 f3 f4 s0 s1 s2 s3 t) (qi4 f0 f1 s1 s2 x0 x1 xl A):=by
  have ht:=qzz f0 f1 f2 f3 f4 g s0 s1 s2 s3 h1 h2
  rw [hc] at ht
  obtain⟨hc0,hok⟩:=qh1 hc
  have hx:s1.any qdc=false:=hok.2.2.2.2.2.1
  have hn:f0.length≤s1.length+1:=by have:=hok.2.2.1;omega
  have hl2:s2.length=f1.length:=hok.2.2.2.1
  have g0:=g.l0
  obtain⟨l,q1,q2,q3⟩:=qvI h h4 hs
  have hlen:l.length=(pcs 44 A).length:=by rw [←q1,List.length_map]
  have hall:l.all qaR=(pcs 44 A).all qgc:=by
    rw [←q1,List.all_map];rfl
  refine Rn.up (f:=fun k=>qbQ k f0 f1 f2 f3 f4 s0 s1 s2 s3 t) ?_
  show Rn (fun k=>qig k f0 f1 f2 f3 f4 s0 s1 s2 s3 t) _
  unfold qig
  refine Rn.bind ht (Rn.f (by decide) (Rn.bind q3 ?_))
  by_cases hq:qod x0 x1 xl l
  rotate_left
  · have e1 : qh2 x0 x1 xl l = (0, [], false) := if_neg hq
    rw [e1]
    refine Rn.t rfl (Rn.const (congrArg some ?_))
    unfold qi4
    split
    · rename_i hh
      split
      · rename_i h3;exact absurd ⟨.inr h3.1,hh.1,hh.2.1,by omega,fun _=>by omega,by rw [hall];exact hh.2.2⟩ hq
      · split
        · rename_i h3 h5
          have h6:¬(pcs 44 A).length≤2:=fun h6=>hq ⟨.inl h5,hh.1,hh.2.1,by omega,(fun h7=>by rw [h5] at h7;cases h7),by rw [hall];exact hh.2.2⟩
          unfold qhp
          split
          · rename_i e;rw [e] at h6;simp at h6
          · rename_i e;rw [e] at h6;simp at h6
          · rfl
        · rfl
    · rfl
  have e1:qh2 x0 x1 xl l=(((x0.toNat:Nat):Int),l,true):=if_pos hq
  rw [e1]
  obtain⟨a1,a2,a3,a4,a5,a6⟩:=hq
  rw [hall] at a6
  have u105:(((x0.toNat:Nat):Int)=105)↔x0=105:=qjC x0 105 (by decide)
  refine Rn.f (by show ¬(!true)=true;decide) ?_
  have e2:qi4 f0 f1 s1 s2 x0 x1 xl A=if x0=105∧(pcs 44 A).length=1 then qqH f1 s2 A else if x0=118 then qhp f0 s1 (pcs 44 A)else(0,3):=if_pos ⟨a2,a3,a6⟩
  rw [e2]
  by_cases c:x0=105
  · have hone : l.length = 1 := a5 c
    obtain⟨p,rfl⟩:=List.length_eq_one_iff.1 hone
    have hp:pcs 44 A= [dl p]:=q1.symm
    have hA:A=dl p:=by
      have hk:Go.Lib.countByte A 44=0:=by have:=qlL 44 A;rw [hp] at this;simp at this;exact this
      have:=qhO 44 A hk
      rw [hp] at this
      cases this;rfl
    rw [if_pos ⟨c,by rw [←hlen];exact hone⟩]
    refine Rn.t (by rw [beq_iff_eq];exact u105.2 c) (Rn.at (by rfl) ?_)
    refine Rn.bind (qvG f0 f1 f2 f3 f4 g p) ?_
    unfold qqH
    rw [hA]
    rcases qh3 (f1.map fun d=>dl d.2.1) (dl p)with ⟨i,w1,w2,_⟩ | w1
    · rw [w1]
      rw [List.length_map] at w2
      refine Rn.f (by show ¬((0:Int) != 0)=true;decide) (Rn.t (by show(0:Int)≤(i:Int);omega) (Rn.at (show s2[Int.toNat (i:Int)]? =some (s2[i]'(by omega)) by rw [Int.toNat_natCast];exact List.getElem?_eq_getElem (by omega)) (Rn.const (congrArg some ?_))))
      simp only [if_true,Int.toNat_natCast]
      rw [List.getElem?_eq_getElem (by omega)]
      rfl
    · rw [w1]
      exact Rn.t (by decide) (Rn.pure _)
  · have c8 : x0 = 118 := a1.resolve_right c
    rw [if_neg (fun hh=>c hh.1),if_pos c8]
    refine Rn.f (by rw [beq_iff_eq];exact fun hh=>c (u105.1 hh)) ?_
    have hlist:(∃p,l= [p])∨∃p q,l= [p,q]:=by
      have:=qrV 44 A
      match l,hlen,a4 with
      | [],hl,_=>exfalso;apply this;exact List.length_eq_zero_iff.1 hl.symm
      | [p],_,_=>exact .inl ⟨p,rfl⟩
      | [p,q],_,_=>exact .inr ⟨p,q,rfl⟩
      | _::_::_::_,_,h5=>simp at h5
    rcases hlist with ⟨p,rfl⟩ | ⟨p,q,rfl⟩
    · rw [show pcs 44 A = [dl p] from q1.symm]
      unfold qhp
      rcases qh3 (f0.map dl) (dl p)with ⟨i,w1,w2,_⟩ | w1
      · rw [List.length_map] at w2
        have hb:=qhu hx i
        have r:=qi3 f0 f1 f2 f3 f4 g s0 s1 s2 s3 hx hn 0 1 (by omega) (.inl rfl) [p] 0 i (by simp) p rfl w1 w2 (qmg f0 f1 f2 f3 f4 s0 s1 s2 s3 (0+1*qby s1 i) (-1) [p])
        refine Rn.bind r.diag (Rn.const (congrArg some ?_))
        simp only [w1,if_true,Int.toNat_natCast]
        congr 1;omega
      · have r := qjD f0 f1 f2 f3 f4 g s0 s1 s2 s3 0 1 [p] 0 p rfl w1
        refine Rn.bind r.diag (Rn.const (congrArg some ?_))
        simp [w1]
    · rw [show pcs 44 A = [dl p, dl q] from q1.symm]
      unfold qhp
      rcases qh3 (f0.map dl) (dl p)with ⟨i,w1,w2,_⟩ | w1
      · rw [List.length_map] at w2
        have hb:=qhu hx i
        rcases qh3 (f0.map dl) (dl q)with ⟨j,v1,v2,_⟩ | v1
        · rw [List.length_map] at v2
          have hb':=qhu hx j
          have r2:=qi3 f0 f1 f2 f3 f4 g s0 s1 s2 s3 hx hn (0+1*qby s1 i) (-1) (by omega) (.inr rfl) [p,q] 1 j (by simp) q rfl v1 v2 (qmg f0 f1 f2 f3 f4 s0 s1 s2 s3 (0+1*qby s1 i+ -1*qby s1 j) (-1) [p,q])
          have r:=qi3 f0 f1 f2 f3 f4 g s0 s1 s2 s3 hx hn 0 1 (by omega) (.inl rfl) [p,q] 0 i (by simp) p rfl w1 w2 r2
          refine Rn.bind r.diag (Rn.const (congrArg some ?_))
          simp only [w1,v1,and_self,if_true,Int.toNat_natCast]
          congr 1;omega
        · have r2 := qjD f0 f1 f2 f3 f4 g s0 s1 s2 s3 (0 + 1 * qby s1 i) (-1) [p, q] 1 q rfl v1
          have r:=qi3 f0 f1 f2 f3 f4 g s0 s1 s2 s3 hx hn 0 1 (by omega) (.inl rfl) [p,q] 0 i (by simp) p rfl w1 w2 r2
          refine Rn.bind r.diag (Rn.const (congrArg some ?_))
          simp [w1,v1]
      · have r := qjD f0 f1 f2 f3 f4 g s0 s1 s2 s3 0 1 [p, q] 0 p rfl w1
        refine Rn.bind r.diag (Rn.const (congrArg some ?_))
        simp [w1]
end
theorem qtH {f0:List ByteArray} {s1:List Int} {p:List UInt8} {i:Nat} (h:whr (f0.map dl) p=((i:Int),0)):qhp f0 s1 [p]=(qby s1 i,0):=by unfold qhp;simp [h]
theorem qtI {f0:List ByteArray} {s1:List Int} {p q:List UInt8} {i j:Nat} (h:whr (f0.map dl) p=((i:Int),0)) (h':whr (f0.map dl) q=((j:Int),0)):qhp f0 s1 [p,q]=(qby s1 i-qby s1 j,0):=by unfold qhp;simp [h,h']
section
variable (f0 : List ByteArray) (f1 : List Dv) (f2 f3 f4 s0 : Int) (s1 s2 s3 : List Int) (t u : ByteArray) (hu : u.size ≤ 1000000000000)
include hu
end
section
variable (f0 : List ByteArray) (f1 : List Dv) (f2 f3 f4 : Int) (g : Gd f0 f1) (s0 : Int) (s1 s2 s3 : List Int) (h1 : s1.length ≤ 1000000000000000000) (h2 : s2.length ≤ 1000000000000000000)
theorem qsf (hc:qfc f0 f1 f2 f3 f4 s0 s1 s2 s3=0):whr (f0.map dl) [48]=(0,0)∧0<f0.length:=by
  obtain⟨hc0,hok⟩:=qh1 hc
  have hb:=qn6 hc0
  unfold qer at hb
  simp only [Bool.and_eq_true,decide_eq_true_eq] at hb
  obtain⟨⟨⟨⟨⟨⟨⟨⟨⟨_,_⟩,_⟩,l1⟩,_⟩,hz⟩,_⟩,_⟩,_⟩,_⟩:=hb
  cases f0 with
  | nil=>simp at l1
  | cons x r =>
    refine⟨qlN (i:=0) ?_,by simp⟩
    rw [List.map_cons,List.findIdx?_cons,if_pos]
    exact decide_eq_true hz
include g h1 h2
variable (hc : qfc f0 f1 f2 f3 f4 s0 s1 s2 s3 = 0)
include hc
end
theorem qoI (f0:List ByteArray) (f1:List Dv) (f2 f3 f4:Int) (hl:f1.length≤1000000000):∀(d i:Nat) (n:Int),i+d=f1.length→
    ∃v,Rl (fun k q=>qH k q n (i:Int) f0 f1 f2 f3 f4) v:=by
  intro d
  induction d with
  | zero =>
    intro i n e
    refine⟨(n,f0,f1,f2,f3,f4),Rl.up (f:=fun k q=>qH k q n (i:Int) f0 f1 f2 f3 f4) ?_⟩
    show Rl (fun k q=>qa0 k (qH k q) _ _ _ _ _ _ _) _
    unfold qa0
    exact Rl.f (by first | omega | (simp only [decide_eq_true_eq,decide_eq_false_iff_not,Int.toNat_natCast,beq_iff_eq,bne_iff_ne,ne_eq,Int.not_lt,Int.not_le,ge_iff_le,gt_iff_lt,beq_eq_false_iff_ne,Nat.zero_add];omega)) (Rl.pure _)
  | succ d ih =>
    intro i n e
    have hi:i<f1.length:=by omega
    have w:IntKind.i64.wrap ((i:Int)+1)=((i+1:Nat):Int):=by rw [qf (by omega)];omega
    have eg:f1[Int.toNat (i:Int)]? =some f1[i]:=by rw [Int.toNat_natCast];exact List.getElem?_eq_getElem hi
    by_cases c:n<800
    · have key:∃n':Int,∀k q,qa0 k (qH k q) n (i:Int) f0 f1 f2 f3 f4=qH k q n' ((i+1:Nat):Int) f0 f1 f2 f3 f4:=by
        apply Exists.intro
        intro k q
        unfold qa0
        rw [if_pos (by rw [decide_eq_true_eq];omega),if_pos (by rw [decide_eq_true_eq];exact c),if_pos (by omega),eg,Option.bind_some,w]
      obtain⟨n',hk⟩:=key
      obtain⟨v,hv⟩:=ih (i+1) n' (by omega)
      refine⟨v,Rl.up (f:=fun k q=>qH k q n (i:Int) f0 f1 f2 f3 f4) ?_⟩
      rw [show(fun k q=>qH k (q+1) n (i:Int) f0 f1 f2 f3 f4)=(fun k q=>qH k q n' ((i+1:Nat):Int) f0 f1 f2 f3 f4)from funext fun k=>funext fun q=>hk k q]
      exact hv
    · refine ⟨(n, f0, f1, f2, f3, f4), Rl.up (f := fun k q => qH k q n (i : Int) f0 f1 f2 f3 f4) ?_⟩
      show Rl (fun k q=>qa0 k (qH k q) _ _ _ _ _ _ _) _
      unfold qa0
      exact Rl.t (by first | omega | (simp only [decide_eq_true_eq,decide_eq_false_iff_not,Int.toNat_natCast,beq_iff_eq,bne_iff_ne,ne_eq,Int.not_lt,Int.not_le,ge_iff_le,gt_iff_lt,beq_eq_false_iff_ne,Nat.zero_add];omega)) (Rl.f (by rw [decide_eq_true_eq];exact c) (Rl.pure _))
theorem qmh (f0:List ByteArray) (f1:List Dv) (f2 f3 f4:Int) (hl:f1.length≤1000000000) (s0:Int) (s1 s2 s3:List Int):∃b,Rn (fun k=>qdZ k f0 f1 f2 f3 f4 s0 s1 s2 s3) b:=by
  obtain⟨v,hv⟩:=qoI f0 f1 f2 f3 f4 hl f1.length 0 (IntKind.wrap .i64 ((IntKind.wrap .i64 ((IntKind.wrap .i64 ((f0.length:Int)+(min 400 (s1.length:Int))))+(min 400 (s2.length:Int))))+(min 400 (s3.length:Int)))) (by omega)
  refine⟨decide (v.1≥800),Rn.up (f:=fun k=>qdZ k f0 f1 f2 f3 f4 s0 s1 s2 s3) ?_⟩
  show Rn (fun k=>qfy k f0 f1 f2 f3 f4 s0 s1 s2 s3) _
  unfold qfy
  exact Rn.bind hv.diag (Rn.pure _)
abbrev qqI:Cd:= .pr (.int .i64) (.pr (.sl (.int .i64)) (.pr (.sl (.int .i64)) (.sl (.int .i64))))
theorem qBa {y:qqI.D} (w:qgB 8589934592 qqI y):y.2.1.length≤1000000000000000000∧y.2.2.1.length≤1000000000000000000:=by
  obtain⟨_,⟨⟨_,w1⟩,_⟩,⟨⟨_,w2⟩,_⟩,_⟩:=w
  simp only [Cd.by] at w1 w2
  exact⟨by omega,by omega⟩
theorem qc3 (a b:ByteArray):dl (a++b)=dl a++dl b:=by unfold dl;rw [ByteArray.data_append,Array.toList_append]
theorem qpn {l:List (List UInt8)} {s:List UInt8} (h:s∈l):∃i:Nat,whr l s=((i:Int),0):=by
  unfold whr
  cases e:l.findIdx? (fun x=>decide (x=s))with
  | none=>rw [List.findIdx?_eq_none_iff] at e;have:=e s h;simp at this
  | some i=>exact⟨i,rfl⟩
section
variable (f0 : List ByteArray) (f1 : List Dv) (f2 f3 f4 : Int) (s0 : Int) (s1 s2 s3 : List Int) (hc : qfc f0 f1 f2 f3 f4 s0 s1 s2 s3 = 0)
include hc
theorem qqJ:f0.all qaR=true∧1≤f0.length∧f0.length≤32:=by
  obtain⟨hc0,hok⟩:=qh1 hc
  have hb:=qn6 hc0
  unfold qer at hb
  simp only [Bool.and_eq_true,decide_eq_true_eq] at hb
  obtain⟨⟨⟨⟨⟨⟨⟨⟨⟨_,_⟩,_⟩,l1⟩,_⟩,_⟩,_⟩,l2⟩,_⟩,_⟩:=hb
  exact⟨l2,l1.1,l1.2⟩
variable (g : Gd f0 f1) (h1 : s1.length ≤ 1000000000000000000) (h2 : s2.length ≤ 1000000000000000000)
include g h1 h2
theorem qkM {t:ByteArray} {A:List UInt8} (h:Prb t 118 40 41 A) (hA:qgc A=true) (ht:t.size≤1000000000000) {i:Nat} (hw:whr (f0.map dl) A=((i:Int),0)):
    Rn (fun k=>qbQ k f0 f1 f2 f3 f4 s0 s1 s2 s3 t) (qby s1 i,0):=by
  have hz:=h.size
  have hne:A≠ []:=fun e=>by rw [e,qvH] at hA;cases hA
  have hlen:1≤A.length:=by cases A with | nil=>exact absurd rfl hne | cons=>simp
  have hp:=qhO 44 A (qmf hA)
  have hr:=qoe f0 f1 f2 f3 f4 g s0 s1 s2 s3 h1 h2 hc h (by omega) ht
  have e:qi4 f0 f1 s1 s2 118 40 41 A=(qby s1 i,0):=by
    unfold qi4
    rw [hp,if_pos ⟨rfl,rfl,by simp [hA]⟩,if_neg (fun hh=>absurd hh.1 (by decide)),if_pos rfl,qtH hw]
  rw [e] at hr
  exact hr
theorem qof {t:ByteArray} {A B:List UInt8} (h:Prb t 118 40 41 (A++44::B)) (hA:qgc A=true) (hB:qgc B=true) (ht:t.size≤1000000000000) {i j:Nat} (hw:whr (f0.map dl) A=((i:Int),0)) (hv:whr (f0.map dl) B=((j:Int),0)):
    Rn (fun k=>qbQ k f0 f1 f2 f3 f4 s0 s1 s2 s3 t) (qby s1 i-qby s1 j,0):=by
  have hz:=h.size
  rw [List.length_append,List.length_cons] at hz
  have hna:(44:UInt8)∉A:=fun hm=>by rw [qme hm] at hA;cases hA
  have hp:pcs 44 (A++44::B)= [A,B]:=by rw [qlM 44 B A hna,qhO 44 B (qmf hB)]
  have hr:=qoe f0 f1 f2 f3 f4 g s0 s1 s2 s3 h1 h2 hc h (by omega) ht
  have e:qi4 f0 f1 s1 s2 118 40 41 (A++44::B)=(qby s1 i-qby s1 j,0):=by
    unfold qi4
    rw [hp,if_pos ⟨rfl,rfl,by simp [hA,hB]⟩,if_neg (fun hh=>absurd hh.1 (by decide)),if_pos rfl,qtI hw hv]
  rw [e] at hr
  exact hr
variable (hnm : ∀ s ∈ f0, s.size ≤ 8589934592)
include hnm
theorem qvJ (wh:Int) (hwh:0≤wh∧wh≤65535):Rn (fun k=>qam k f0 f1 f2 f3 f4 s0 s1 s2 s3 wh) true:=by
  have g1:=g.l1
  obtain⟨n1,n2,n3⟩:=qqJ f0 f1 f2 f3 f4 s0 s1 s2 s3 hc
  obtain⟨hz0,hz1⟩:=qsf f0 f1 f2 f3 f4 s0 s1 s2 s3 hc
  obtain⟨b,hb⟩:=qmh f0 f1 f2 f3 f4 (by omega) s0 s1 s2 s3
  have hk:=qsc f0 f1 f2 f3 f4 g s0 s1 s2 s3 h1 h2
  rw [hc] at hk
  have hx:s1.any qdc=false:=(qh1 hc).2.2.2.2.2.2.1
  refine Rn.up (f:=fun k=>qam k f0 f1 f2 f3 f4 s0 s1 s2 s3 wh) ?_
  show Rn (fun k=>qaV k f0 f1 f2 f3 f4 s0 s1 s2 s3 wh) _
  unfold qaV
  refine Rn.bind qlq (Rn.f (by decide) (Rn.bind hb ?_))
  cases b
  rotate_left
  · exact Rn.f (by decide) (Rn.pure _)
  have idx:∀ {y:Int},0≤y→∃(n:Nat) (x:ByteArray),Int.tmod y (f0.length:Int)=(n:Int)∧f0[n]? =some x∧x∈f0:=fun {y} hy=>by
    have e1:Int.tmod y (f0.length:Int)=y % (f0.length:Int):=Int.tmod_eq_emod_of_nonneg hy
    have e2:=Int.emod_nonneg y (show(f0.length:Int)≠0 by omega)
    have e3:=Int.emod_lt_of_pos y (show(0:Int)<(f0.length:Int) by omega)
    obtain⟨n,hn⟩:=Int.eq_ofNat_of_zero_le e2
    have hl:n<f0.length:=by omega
    exact⟨n,f0[n],by rw [e1,hn],List.getElem?_eq_getElem hl,List.getElem_mem hl⟩
  have y1:IntKind.wrap .i64 (Int.tmod wh 256)=wh % 256:=by rw [Int.tmod_eq_emod_of_nonneg hwh.1,qf (by omega)]
  have y2:IntKind.wrap .i64 (IntKind.wrap .u16 (Int.tdiv wh 256))=wh / 256:=by
    have e2:Int.tdiv wh 256=wh / 256:=Int.tdiv_eq_ediv_of_nonneg hwh.1
    have e3:IntKind.wrap .u16 (wh / 256)=wh / 256:=by
      show(wh / 256) % (2^16:Int)=wh / 256
      omega
    rw [e2,e3,qf (by omega)]
  obtain⟨i,a,i1,i2,i3⟩:=idx (y:=wh % 256) (by omega)
  obtain⟨j,c,j1,j2,j3⟩:=idx (y:=wh / 256) (by omega)
  have la:qgc (dl a)=true:=List.all_eq_true.1 n1 a i3
  have lc:qgc (dl c)=true:=List.all_eq_true.1 n1 c j3
  have za:=hnm a i3
  have zc:=hnm c j3
  obtain⟨p,wp⟩:=qpn (List.mem_map_of_mem (f:=dl) i3)
  obtain⟨q,wq⟩:=qpn (List.mem_map_of_mem (f:=dl) j3)
  have bp:=qhu hx p
  have bq:=qhu hx q
  have r1:=qkM f0 f1 f2 f3 f4 s0 s1 s2 s3 hc g h1 h2 (t:=(ByteArray.mk (List.toArray (118::(40:: [])))++a)++ByteArray.mk (List.toArray (41:: []))) (A:=dl a) ⟨by rw [qc3,qc3];rfl⟩ la (by rw [←qag,qc3,qc3,List.length_append,List.length_append,qag a];show 2+a.size+1≤_;omega) wp
  have r2:=qkM f0 f1 f2 f3 f4 s0 s1 s2 s3 hc g h1 h2 (t:=(ByteArray.mk (List.toArray (118::(40:: [])))++c)++ByteArray.mk (List.toArray (41:: []))) (A:=dl c) ⟨by rw [qc3,qc3];rfl⟩ lc (by rw [←qag,qc3,qc3,List.length_append,List.length_append,qag c];show 2+c.size+1≤_;omega) wq
  have tw:∀(x y:ByteArray),x.size≤8589934592→y.size≤8589934592→Prb ((((ByteArray.mk (List.toArray (118::(40:: [])))++x)++ByteArray.mk (List.toArray (44:: [])))++y)++ByteArray.mk (List.toArray (41:: []))) 118 40 41 (dl x++44::dl y)∧((((ByteArray.mk (List.toArray (118::(40:: [])))++x)++ByteArray.mk (List.toArray (44:: [])))++y)++ByteArray.mk (List.toArray (41:: []))).size≤1000000000000:=fun x y hx hy=>by
    constructor
    · refine ⟨?_⟩
      rw [qc3,qc3,qc3,qc3]
      show 118::40::_=118::40::_
      simp
      rfl
    · rw [← qag, qc3, qc3, qc3, qc3]
      simp only [List.length_append,qag x,qag y]
      show 2+x.size+1+y.size+1≤_
      omega
  have r3:=qof f0 f1 f2 f3 f4 s0 s1 s2 s3 hc g h1 h2 (tw a c za zc).1 la lc (tw a c za zc).2 wp wq
  have r4:=qof f0 f1 f2 f3 f4 s0 s1 s2 s3 hc g h1 h2 (tw c a zc za).1 lc la (tw c a zc za).2 wq wp
  have r5:=qkM f0 f1 f2 f3 f4 s0 s1 s2 s3 hc g h1 h2 (t:=ByteArray.mk (List.toArray (118::(40::(48::(41:: [])))))) (A:= [48]) ⟨rfl⟩ (by decide) (by decide) (i:=0) hz0
  have v0:qby s1 0=0:=rfl
  rw [v0] at r5
  have sz:∀x y:ByteArray,(x++y).size=x.size+y.size:=fun x y=>by rw [←qag,qc3,List.length_append,qag,qag]
  have k1:(ByteArray.mk (List.toArray ((118:UInt8)::(40:: [])))).size=2:=rfl
  have k2:(ByteArray.mk (List.toArray ((44:UInt8):: []))).size=1:=rfl
  rw [y1,y2,i1,j1]
  refine Rn.t rfl (Rn.bind hk (Rn.f (by decide) (Rn.f (by omega) (Rn.t (by omega) (Rn.at (by rw [Int.toNat_natCast];exact i2) (Rn.f (by omega) (Rn.t (by omega) (Rn.at (by rw [Int.toNat_natCast];exact j2) ?_))))))))
  simp only [sz,k1,k2]
  refine Rn.f (by omega) (Rn.f (by omega) (Rn.bind r1 (Rn.f (by omega) (Rn.f (by omega) (Rn.bind r2 (Rn.f (by omega) (Rn.f (by omega) (Rn.f (by omega) (Rn.f (by omega) (Rn.bind r3 (Rn.f (by omega) (Rn.f (by omega) (Rn.f (by omega) (Rn.f (by omega) (Rn.bind r4 (Rn.bind r5 ?_))))))))))))))))
  refine Rn.t (show(IntKind.wrap .i64 (IntKind.wrap .i64 (IntKind.wrap .i64 (IntKind.wrap .i64 ((0:Int)+0)+0)+0)+0) == 0)=true by decide) (Rn.t ?_ (Rn.t ?_ (Rn.const rfl)))
  · rw [beq_iff_eq];show _=IntKind.wrap .i64 (qby s1 p-qby s1 q);rw [qf (by omega)]
  · rw [beq_iff_eq];show _=IntKind.wrap .i64 (0-(qby s1 p-qby s1 q));rw [qf (by omega)];show qby s1 q-qby s1 p=_;omega
end
theorem qi5 (x:qlo.D) (y:qqI.D) (wh:Int) (w:qgB 8589934592 qlo x) (wy:qgB 8589934592 qqI y) (wt:qgB 8589934592 (.int .u16) wh):
    ∃k,qam k x.1 x.2.1 x.2.2.1.1 x.2.2.1.2 x.2.2.2 y.1 y.2.1 y.2.2.1 y.2.2.2 wh=some true:=by
  have g:=qA8 w
  have g1:=g.l1
  obtain⟨h1,h2⟩:=qBa wy
  have hw:0≤wh∧wh≤65535:=by
    simp only [qgB,Lit.wf,IntKind.min,IntKind.max,IntKind.signed,IntKind.bits] at wt
    simp at wt
    omega
  have hnm:∀s∈x.1,s.size≤8589934592:=by
    obtain⟨⟨_,w1⟩,_⟩:=w
    exact fun s hs=>(w1 s hs).2
  have main:Rn (fun k=>qam k x.1 x.2.1 x.2.2.1.1 x.2.2.1.2 x.2.2.2 y.1 y.2.1 y.2.2.1 y.2.2.2 wh) true:=by
    by_cases hc:qfc x.1 x.2.1 x.2.2.1.1 x.2.2.1.2 x.2.2.2 y.1 y.2.1 y.2.2.1 y.2.2.2=0
    · exact qvJ x.1 x.2.1 x.2.2.1.1 x.2.2.1.2 x.2.2.2 y.1 y.2.1 y.2.2.1 y.2.2.2 hc g h1 h2 hnm wh hw
    · obtain ⟨b, hb⟩ := qmh x.1 x.2.1 x.2.2.1.1 x.2.2.1.2 x.2.2.2 (by omega) y.1 y.2.1 y.2.2.1 y.2.2.2
      have hk:=qsc x.1 x.2.1 x.2.2.1.1 x.2.2.1.2 x.2.2.2 g y.1 y.2.1 y.2.2.1 y.2.2.2 h1 h2
      refine Rn.up (f:=fun k=>qam k x.1 x.2.1 x.2.2.1.1 x.2.2.1.2 x.2.2.2 y.1 y.2.1 y.2.2.1 y.2.2.2 wh) ?_
      show Rn (fun k=>qaV k x.1 x.2.1 x.2.2.1.1 x.2.2.1.2 x.2.2.2 y.1 y.2.1 y.2.2.1 y.2.2.2 wh) _
      unfold qaV
      refine Rn.bind qlq (Rn.f (by decide) (Rn.bind hb ?_))
      cases b
      · exact Rn.t rfl (Rn.bind hk (Rn.t (by rw [bne_iff_ne];exact hc) (Rn.pure _)))
      · exact Rn.f (by decide) (Rn.pure _)
  obtain⟨K,h⟩:=main
  exact⟨K,h K (Nat.le_refl _)⟩
end Go.Proofs.YtlnailgfialgnaaGreatDoor.Am

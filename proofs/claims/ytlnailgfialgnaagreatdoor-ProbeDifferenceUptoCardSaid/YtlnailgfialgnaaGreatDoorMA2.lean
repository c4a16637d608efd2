/- Calls: the operation. -/
import Derived.Test.YtlnailgfialgnaaGreatDoorMA1
import Derived.LoopN
import Derived.ChangeArms
import Derived.OpenShut
import Derived.Carry
import Derived.ShutString
import Derived.SizedLaws

set_option linter.unusedVariables false
set_option linter.unusedSimpArgs false
namespace Go.Proofs.YtlnailgfialgnaaGreatDoor.Am
open Go

section
variable {P : Program} {n : Nat} {w0 : World} {M0 : Bool → Nat → Prop} {U : Nat → Prop} {ι ι' : Io} {h h1 h2 : Hp} {fr : List (Nat × Sv)} {mem mem1 : Mem} {a : Act} {w w' : World}
 {c:Cfg} {callF:FuncId→List Vl→List Blk→Option (List Vl×List Blk)} {o:Oper} {nx:Nat} {e:Eff}

theorem qiz {rs:List Vl} {us:Array Value} (hr:RVs ι h rs us.toList):RS ι h (qlt rs) (qfQ us):=by
 obtain⟨h1,h2⟩:=hr
 have hlen:rs.length=us.size:=by simpa using h1
 unfold qfQ qlt
 split
 ·rename_i x
  have hs:us.size=1:=by rw [←hlen];rfl
  rw [dif_pos hs]
  obtain⟨u,e1,e2⟩:=h2 0 x rfl
  have:us[0]? =some u:=by simpa using e1
  rw [Array.getElem?_eq_getElem (by omega)] at this
  cases this
  exact e2
 ·rename_i hne
  have hs:us.size≠1:=by
   intro hs
   rw [←hlen] at hs
   match rs,hs with
   | [x],_=>exact hne x rfl
  rw [dif_neg hs]
  exact⟨us,rfl,by simpa using h1,h2⟩
theorem qki {rs:List Vl}:∀m,m∈(qlt rs).nms↔m∈qd rs:=by
 intro m
 unfold qlt
 split
 ·rfl
 ·rfl

theorem RA.noSl {x:At} {v:Value} (hn:x.noSl=true) (hm:x.nm= []) (hr:RA ι h x v):RA ι' h2 x v:=by
 cases x<;>simp [At.noSl] at hn
 case ptr=>simp [At.nm] at hm
 case sm=>simp [At.nm] at hm
 case mp=>simp [At.nm] at hm
 all_goals (have hr:RP h _ _:=hr;cases hr;first | exact .int _ _ | exact .bool _ | exact .str _ | exact .snil _ _ | exact .nilp)
theorem RV.noSl {x:Vl} {v:Value} (hn:x.cells.all At.noSl=true) (hm:qd [x]= []) (hr:RV ι h x v):RV ι' h2 x v:=by
 cases x with
 | a x=>exact RA.noSl (by simpa [Vl.cells] using hn) (by simpa [qd,Vl.cells] using hm) hr
 | g cs=>
  obtain⟨A,hA,hl⟩:=hr
  refine⟨A,hA,hl.1,fun j y hy=> ?_⟩
  obtain⟨u,q1,q2⟩:=hl.2 j y hy
  have hy':=List.mem_of_getElem? hy
  refine⟨u,q1,RA.noSl (List.all_eq_true.1 hn y hy') ?_ q2⟩
  have:∀m,m∉y.nm:=by
   intro m hm'
   have:m∈qd [Vl.g cs]:=by simp only [qd,Vl.cells,List.flatMap_cons,List.flatMap_nil,List.append_nil,List.mem_flatMap];exact⟨y,hy',hm'⟩
   rw [hm] at this
   cases this
  exact List.eq_nil_iff_forall_not_mem.2 this

theorem RA.noSl' {x:At} {v:Value} (hn:x.noSl=true) (hr:RA ι h x v):RA ι h2 x v:=by
 cases x<;>simp [At.noSl] at hn
 case ptr=>exact hr
 case sm=>exact hr
 case mp=>exact hr
 all_goals (have hr:RP h _ _:=hr;cases hr;first | exact .int _ _ | exact .bool _ | exact .str _ | exact .snil _ _ | exact .nilp)
theorem RVs.noSl {xs:List Vl} {vs:List Value} (hn:xs.all (fun v=>v.cells.all At.noSl)=true) (hr:RVs ι h xs vs):RVs ι h2 xs vs:=by
 refine⟨hr.1,fun j x e=> ?_⟩
 obtain⟨u,g1,g2⟩:=hr.2 j x e
 have hx:=List.all_eq_true.1 hn x (List.mem_of_getElem? e)
 refine⟨u,g1,?_⟩
 cases x with
 | a x=>exact RA.noSl' (by simpa [Vl.cells] using hx) g2
 | g cs=>
  obtain⟨A,rfl,hl⟩:=g2
  refine⟨A,rfl,hl.1,fun j y hy=> ?_⟩
  obtain⟨z,q1,q2⟩:=hl.2 j y hy
  exact⟨z,q1,RA.noSl' (List.all_eq_true.1 hx y (List.mem_of_getElem? hy)) q2⟩
theorem qlR {ρ:Nat→Option Nat} {x y:At} (e:qdS ρ x=some y):y.noSl=x.noSl:=by
 cases x
 case ptr | sm | mp=>
  simp only [qdS,Option.bind_eq_some_iff] at e
  obtain⟨_,_,e⟩:=e
  cases e;rfl
 all_goals (simp only [qdS,Option.some.injEq] at e;subst e;rfl)
theorem qlS {ρ:Nat→Option Nat} {cs ds:List At} (e:qo (qdS ρ) cs=some ds) (h:cs.all At.noSl=true):ds.all At.noSl=true:=by
 rw [List.all_eq_true] at h ⊢
 intro y hy
 obtain⟨j,hj⟩:=List.getElem?_of_mem hy
 obtain⟨x,hx,hxy⟩:=qt e j y hj
 rw [qlR hxy]
 exact h x (List.mem_of_getElem? hx)
theorem qlz {ρ:Nat→Option Nat} {xs ys:List Vl} (e:qo (qeF ρ) xs=some ys) (h:xs.all (fun v=>v.cells.all At.noSl)=true):ys.all (fun v=>v.cells.all At.noSl)=true:=by
 rw [List.all_eq_true] at h ⊢
 intro y hy
 obtain⟨j,hj⟩:=List.getElem?_of_mem hy
 obtain⟨x,hx,hxy⟩:=qt e j y hj
 have hq:=h x (List.mem_of_getElem? hx)
 cases x with
 | a x=>
  simp only [qeF,Option.bind_eq_some_iff] at hxy
  obtain⟨z,hz,hxy⟩:=hxy
  cases hxy
  simpa [Vl.cells,qlR hz] using hq
 | g cs=>
  simp only [qeF,Option.bind_eq_some_iff] at hxy
  obtain⟨z,hz,hxy⟩:=hxy
  cases hxy
  exact qlS hz hq
theorem qqU {ρ:Nat→Option Nat} {b b':Blk} (e:qdJ ρ b=some b') (h:∀el∈b.els,el.all At.noSl=true):∀el∈b'.els,el.all At.noSl=true:=by
 unfold qdJ at e
 split at e
 ·cases e;exact h
 ·simp only [Option.bind_eq_some_iff] at e
  obtain⟨els,e1,e⟩:=e
  cases e
  intro el hel
  obtain⟨j,hj⟩:=List.getElem?_of_mem hel
  obtain⟨x,hx,hxy⟩:=qt e1 j el hj
  exact qlS hxy (h x (List.mem_of_getElem? hx))
theorem RB.noSl {m:Nat} {B:Blk} (hb:RB ι h w m B) (hm:B.mp= []) (hn:∀el∈B.els,el.all At.noSl=true):RB ι h2 w m B:=by
 unfold RB at hb ⊢
 cases hL:ι m with
 | none=>rw [hL] at hb;exact hb
 | some L=>
  rw [hL] at hb
  rcases hb with ⟨⟨C,e1,e2,e3,e4⟩,e5⟩ | ⟨e0,es,e1,e2⟩
  ·refine .inl ⟨⟨C,e1,e2,e3,fun i el he=>⟨(e4 i el he).1,fun j x hx=> ?_⟩⟩,e5⟩
   obtain⟨u,g1,g2⟩:=(e4 i el he).2 j x hx
   exact⟨u,g1,RA.noSl' (List.all_eq_true.1 (hn el (List.mem_of_getElem? he)) x (List.mem_of_getElem? hx)) g2⟩
  ·refine .inr ⟨e0,es,e1,e2.1,fun i p hp=> ?_⟩
   rw [hm] at hp
   simp at hp
theorem Sim.thaw (hs:Sim n w0 M0 U ι h fr mem a w) {rs:List Vl} {bs bsR:List Blk} {us:List Value} {ι2:Io}
  (hp:Post (fun j=>(([]:List Nat)[j]?).bind ι) h1 w [] rs bs us w' ι' h2)
  (s:Sim n w0 M0 (fun m=>U m∨(nx≤m∧m<nx+bs.length)) ι2 h2 fr (qB mem1 (qdT (cnt nx bs) bsR)) a w')
  (t1:∀m,¬(nx≤m∧m<nx+bs.length)→ι2 m=ι m) (t2:∀(i m:Nat),(cnt nx bs)[i]? =some m→ι2 m=ι' i)
  (hf:∀m,nx≤m→m<nx+bs.length→¬U m) (e:qo (qdJ (fun i=>(cnt nx bs)[i]?)) bs=some bsR) (hfl:bs.all qjG=true):
  Sim n w0 M0 (fun m=>U m∨(nx≤m∧m<nx+bs.length)) ι2 h fr (qB mem (qdT (cnt nx bs) bsR)) a w':=by
 have hR:=qbj e
 have hlen:(cnt nx bs).length=bsR.length:=by rw [qkT,hR.1]
 obtain⟨z1,z2⟩:=qjg _ bsR mem (qjf _ _) hlen
 obtain⟨y1,y2⟩:=qjg _ bsR mem1 (qjf _ _) hlen
 have hnl:∀b,¬qh5 (fun j=>(([]:List Nat)[j]?).bind ι) [] b:=by
  rintro b ⟨i,B,L,g1,_⟩
  simp at g1
 have hfm:∀b,b<w.heap.size→w'.heap[b]? =w.heap[b]? :=fun b hb=>hp.frame b hb (hnl b)
 have hιU:∀m,U m→ι2 m=ι m:=fun m hm=>t1 m fun hq=>hf m hq.1 hq.2 hm
 have hk:∀x B,qk (qB mem (qdT (cnt nx bs) bsR)) x=some B→
   (qk (qB mem1 (qdT (cnt nx bs) bsR)) x=some B∧B.fz=false∧B.mp= []∧(∀el∈B.els,el.all At.noSl=true)∧∀L,ι2 x=some L→w.heap.size≤L.b)∨qk mem x=some B:=by
  intro x B hx
  by_cases hm:x∈cnt nx bs
  ·obtain⟨i,hi⟩:=List.getElem?_of_mem hm
   have hlt:i<bs.length:=by
    rw [qjJ] at hi
    split at hi
    ·assumption
    ·cases hi
   obtain⟨B'',q1,q2⟩:=hR.2 i _ (List.getElem?_eq_getElem hlt)
   have:=z1 i x B'' hi q1
   rw [hx] at this
   cases this
   obtain⟨d1,d2,d3,d4,d5,d6,d7,d8⟩:=qca q2 (hp.mm.pr i _ (List.getElem?_eq_getElem hlt))
   have hq:=List.all_eq_true.1 hfl _ (List.getElem_mem hlt)
   simp only [qjG,Bool.and_eq_true,Bool.not_eq_true'] at hq
   refine .inl ⟨y1 i x B hi q1,by rw [d4];exact hq.1,by rw [qly q2];simpa using hq.2.1,qqU q2 (List.all_eq_true.1 hq.2.2),fun L hL=> ?_⟩
   rw [t2 i x hi] at hL
   rcases hp.own2 i _ L (List.getElem?_eq_getElem hlt) hL with h' | ⟨j,B0,L0,r1,_⟩
   ·exact h'
   ·simp at r1
  ·rw [z2 x hm] at hx
   exact .inr hx
 refine { hsize:=hs.hsize,hdefers:=hs.hdefers,hfr:= ?_,hmem:= ?_,hinj:= ?_,hsub:= ?_,hmut:= ?_,hfrz:= ?_,hown:= ?_,hown2:= ?_,hframe:= ?_,hgrow:=s.hgrow,hos:=s.hos,htape:=s.htape,houtput:=s.houtput,hnm:=s.hnm,hnb:= ?_,hdom:=s.hdom,hpr:= ?_ }
 ·intro t v e'
  obtain⟨u,q1,q2⟩:=hs.hfr t v e'
  exact⟨u,q1,q2.mono (Sub.refl h) fun m hm=>hιU m (hs.hnm t v e' m hm)⟩
 ·intro x B hx
  rcases hk x B hx with ⟨g1,g2,g3,g4,g5⟩ | g
  ·exact(s.hmem x B g1).noSl g3 g4
  ·have hu:=hs.hnb x B g
   exact(hs.hmem x B g).to (hιU x hu.1) (fun L hL=>hfm L.b (hs.hdom x L hL).2) (Sub.refl h) fun m hm=>hιU m (hu.2 m hm)
 ·intro x y B1 B2 L1 L2 e1 e2 l1 l2 hq
  rcases hk x B1 e1 with ⟨g1,_,_,_,g5⟩ | g
  ·rcases hk y B2 e2 with ⟨k1,_,_,_,k5⟩ | k
   ·exact s.hinj x y B1 B2 L1 L2 g1 k1 l1 l2 hq
   ·rw [hιU y (hs.hnb y B2 k).1] at l2
    have:=(hs.hdom y L2 l2).2
    have:=g5 L1 l1
    omega
  ·rw [hιU x (hs.hnb x B1 g).1] at l1
   rcases hk y B2 e2 with ⟨k1,_,_,_,k5⟩ | k
   ·have:=(hs.hdom x L1 l1).2
    have:=k5 L2 l2
    omega
   ·rw [hιU y (hs.hnb y B2 k).1] at l2
    exact hs.hinj x y B1 B2 L1 L2 g k l1 l2 hq
 ·intro b o' hb
  have:=hs.hsub b o' hb
  rw [hfm b (by
   rcases Nat.lt_or_ge b w.heap.size with h' | h'
   ·exact h'
   ·rw [Array.getElem?_eq_none h'] at this;cases this)]
  exact this
 ·intro x B L e1 hz l
  rcases hk x B e1 with ⟨g1,_,_,_,g5⟩ | g
  ·have hL:=g5 L l
   cases hh:h L.b with
   | none=>rfl
   | some o'=>
    have:=hs.hsub _ _ hh
    rw [Array.getElem?_eq_none hL] at this
    cases this
  ·rw [hιU x (hs.hnb x B g).1] at l
   exact hs.hmut x B L g hz l
 ·intro x B L e1 hz l
  rcases hk x B e1 with ⟨g1,g2,_,_,g5⟩ | g
  ·rw [g2] at hz;cases hz
  ·rw [hιU x (hs.hnb x B g).1] at l
   rw [hfm L.b (hs.hdom x L l).2]
   exact hs.hfrz x B L g hz l
 ·intro x B L e1 hz l
  rcases hk x B e1 with ⟨g1,_,_,_,g5⟩ | g
  ·exact .inl (Nat.le_trans hs.hgrow (g5 L l))
  ·rw [hιU x (hs.hnb x B g).1] at l
   exact hs.hown x B L g hz l
 ·intro x B L e1 l
  rcases hk x B e1 with ⟨g1,_,_,_,g5⟩ | g
  ·exact .inl (Nat.le_trans hs.hgrow (g5 L l))
  ·rw [hιU x (hs.hnb x B g).1] at l
   exact hs.hown2 x B L g l
 ·intro b hb hM
  rw [hfm b (Nat.lt_of_lt_of_le hb hs.hgrow)]
  exact hs.hframe b hb hM
 ·intro x B e1
  rcases hk x B e1 with ⟨g1,_⟩ | g
  ·exact s.hnb x B g1
  ·exact⟨.inl (hs.hnb x B g).1,fun m hm=> .inl ((hs.hnb x B g).2 m hm)⟩
 ·intro x B e1
  rcases hk x B e1 with ⟨g1,_⟩ | g
  ·exact s.hpr x B g1
  ·exact hs.hpr x B g

theorem qsw {f:FuncId} {args:Array Value} {next:Act→World→Prop} {Q:Exit→Act→World→Prop} {R:Ending→World→Prop} (hr:(execOp a.eval o).run P w= .ok (.enter f args) w) (hc:Calls P f args w R)
  (hn:∀e w',R e w'→∃v,e= .returned v∧next (a.put o.dst v) w'):o.wp P a w next Q:=by
 unfold Oper.wp
 rw [hr]
 refine hc.mono fun e w' he=> ?_
 obtain⟨v,rfl,h2⟩:=hn e w' he
 exact h2

theorem RVs.append {xs ys:List Vl} {us vs:List Value} (h1:RVs ι h xs us) (h2:RVs ι h ys vs):RVs ι h (xs++ys) (us++vs):=by
 refine⟨by simp [h1.1,h2.1],fun j y e=> ?_⟩
 rw [List.getElem?_append] at e ⊢
 by_cases hj:j<xs.length
 ·rw [if_pos hj] at e;rw [if_pos (by rw [←h1.1];exact hj)];exact h1.2 j y e
 ·rw [if_neg hj] at e;rw [if_neg (by rw [←h1.1];exact hj),←h1.1];exact h2.2 _ y e
theorem qpx (hs:Sim n w0 M0 U ι h fr mem a w):∀ {os:List Operand} {vs:List Vl},qo (Am.evV fr) os=some vs→RVs ι h vs (os.map a.eval)∧∀m∈qd vs,U m:=by
 intro os vs e
 obtain⟨e1,_⟩:=qbj e
 refine⟨⟨by simp [e1],fun j x hx=> ?_⟩,fun m hm=> ?_⟩
 ·obtain⟨o',ho,hv⟩:=qt e j x hx
  exact⟨a.eval o',by simp [ho],(hs.evV hv).1⟩
 ·obtain⟨x,hx,hm⟩:=qaW.1 hm
  obtain⟨j,hj⟩:=List.getElem?_of_mem hx
  obtain⟨o',ho,hv⟩:=qt e j x hj
  exact(hs.evV hv).2 m hm

theorem quO (hC:qg3 P callF) (hs:Sim n w0 M0 U ι h fr mem a w) (hf:∀m,nx≤m→m<e.nn→¬U m) {fo:Operand} {args:Array Operand} {ats:Array TypeId} (hop:o.op= .call { callee:= .value fo,args:=args,argTypes:=ats })
  (he:stp c callF o fr mem nx=some e) {next:Act→World→Prop} {Q:Exit→Act→World→Prop} (hk:∀u w',Nxt n w0 M0 U ι h fr mem nx e a u w'→next (a.put o.dst u) w'):o.wp P a w next Q:=by
 simp only [stp,hop,Option.bind_eq_some_iff] at he
 obtain⟨fa,e1,he⟩:=he
 obtain⟨hrf, -⟩:=hs.evA e1
 split at he
 ·rename_i g cs
  simp only [Option.bind_eq_some_iff] at he
  obtain⟨as0,e2,he⟩:=he
  obtain⟨hargs0,hargn0⟩:=qpx hs e2
  obtain⟨V,hfv,hV⟩:∃V:Array Value,a.eval fo= .func (.func g) #[] V∧RVs ι h (cs.map Vl.a) V.toList:=by
   have hrf:RP h _ _:=hrf
   generalize a.eval fo=q at hrf
   cases hrf
   rename_i V us hn' hu hr'
   refine⟨V,rfl,by simpa using hn',fun j x hx=> ?_⟩
   obtain⟨y,hy,rfl⟩:=List.getElem?_map .. ▸hx |> Option.map_eq_some_iff.1
   exact⟨us j,by simpa using hu j y hy,RA.ofRP (hr' j y hy)⟩
  have hVn:∀m∈qd (cs.map Vl.a),U m:=by
   intro m hm
   obtain⟨x,hx,hm⟩:=qaW.1 hm
   obtain⟨y,hy,rfl⟩:=List.mem_map.1 hx
   obtain⟨j,hj⟩:=List.getElem?_of_mem hy
   have hrf:RP h _ _:=hrf
   generalize a.eval fo=q at hrf
   cases hrf
   rename_i V us hn' hu hr'
   have:=(hr' j y hj).nm
   simp only [qd,Vl.cells,List.flatMap_cons,List.flatMap_nil,List.append_nil,this] at hm
   cases hm
  have hargs:RVs ι h (as0++cs.map Vl.a) ((args.map a.eval++V).toList):=by
   rw [Array.toList_append,Array.toList_map]
   exact hargs0.append hV
  have hargn:∀m∈qd (as0++cs.map Vl.a),U m:=by
   intro m hm
   rw [qd,List.flatMap_append] at hm
   rcases List.mem_append.1 hm with hm | hm
   ·exact hargn0 m hm
   ·exact hVn m hm
  generalize as0++cs.map Vl.a=as at he hargs hargn
  unfold qgd at he
  simp only [Option.bind_eq_some_iff] at he
  obtain⟨vals,e3,blks,e4,vals',e5,⟨rs0,bs⟩,e6,rs,e7,bsR,e8,lu,e9,he⟩:=he
  generalize hN:clo (fun m=>if c.mutA g=true then qdK mem m else qgj mem m) 64 (qd vals) []=N at*
  generalize hF:(if c.mutA g=true then [] else qfo as++N.flatMap (qd3 mem))=F at*
  have hNd:N.Nodup:=by rw [←hN];exact qje _ _ _ _ List.nodup_nil
  obtain⟨h1,s1,s2,s3,s4,s5⟩:=Sim.freezeL F hs (Fzn.refl mem)
  have hvF:c.mutA g=false→Vw ι mem w h1 (qfo as)∧Vw ι mem w h1 (N.flatMap (qd3 mem)):=by
   intro hq
   rw [←hF] at s2
   simp only [hq] at s2
   exact⟨fun m hm=>s2 m (List.mem_append_left _ hm),fun m hm=>s2 m (List.mem_append_right _ hm)⟩
  -- the arguments
  have hvals:RVs ι h1 vals (args.map a.eval++V).toList:=by
   split at e3
   ·cases e3;exact hargs.mono s1 fun _ _=>rfl
   ·rename_i hq
    exact(qj6 hs s1 (hvF (by simpa using hq)).1 hargs e3).1
  obtain⟨hmm,hbl,hbf⟩:=qiy hs s4 s5 s1 hNd (cv:=c.mutA g) (fun hq=>(hvF hq).2) e4
  have hvals':=hvals.ren (ι':=fun j=>(N[j]?).bind ι) e5 (fun m m' hq=>by simp [qfW hq])
  have hvn:∀m∈qd vals',m<blks.length:=by
   intro m hm
   obtain⟨m',_,hq⟩:=qeW e5 m hm
   have:=qfW hq
   rw [hbl]
   rcases Nat.lt_or_ge m N.length with h' | h'
   ·exact h'
   ·rw [List.getElem?_eq_none (by omega)] at this;cases this
  obtain⟨⟨fn,hfn,hnm,hbd⟩,hcall⟩:=hC g vals' blks rs0 bs e6
  have hrun:(execOp a.eval o).run P w= .ok (.enter g (args.map a.eval++V)) w:=by
   have h1:¬fn.name= "runtime.NumGoroutine" :=by simpa using hnm
   have h2:¬fn.body=none:=by cases hx:fn.body<;>simp_all
   simp [execOp,hop,resolve,hfv,Deferred.ofValue,invoke,callFunc,hfn,h1,h2]
  refine qsw hrun (hcall w _ h1 (args.map a.eval++V) hvals' hvn hmm) ?_
  rintro en w' ⟨us,ι',h2,rfl,hp⟩
  refine⟨_,rfl,hk _ w' ?_⟩
  unfold qms at e9
  split at e9
  ·-- what was lent stays one's own
   split at e9
   ·rename_i hq
    cases e9
    cases he
    simp only [Bool.and_eq_true] at hq
    obtain⟨q1,q2,q3⟩:=hq
    have hN0:N= []:=by simpa using q1
    subst hN0
    have hbl0:blks= []:=List.eq_nil_of_length_eq_zero (by rw [hbl];rfl)
    subst hbl0
    obtain⟨ι2,t1,t2,t3,t4⟩:=s4.after hNd hbl hbf hp hf e8
    simp only [List.length_nil,List.nil_append,Nat.sub_zero,List.drop_zero] at t1 t2 t3 t4 e8 hf ⊢
    have hth:=hs.thaw hp t3 t1 t2 hf e8 q3
    have hrs:RVs ι2 h rs us.toList:=RVs.noSl (qlz e7 q2) (hp.rv.ren e7 fun m m' hq=>t2 m m' (by simpa using hq))
    refine⟨ι2,h,Sub.refl h,t1,hth,qiz hrs,?_,by simp,fun _ _ _=>rfl⟩
    intro m hm
    rw [qki] at hm
    obtain⟨m',_,hq⟩:=qeW e7 m hm
    exact t4 m' m (by simpa using hq)
   ·cases e9
  cases e9
  split at he
  ·-- nothing that only reads is handed back
   rename_i hq
   rw [Bool.and_eq_true] at hq
   obtain⟨q1,q2⟩:=hq
   have hbs:bs= []:=by simpa using q1
   subst hbs
   have hbl0:blks= []:=by have:=hp.len;exact List.eq_nil_of_length_eq_zero (by simpa using this)
   have hN0:N= []:=List.eq_nil_of_length_eq_zero (by rw [←hbl,hbl0];rfl)
   subst hN0
   subst hbl0
   cases he
   have hno:qd rs0= []:=List.eq_nil_iff_forall_not_mem.2 fun m hm=>by have:=hp.rn m hm;simp at this
   have hrn:qd rs= []:=List.eq_nil_iff_forall_not_mem.2 fun m hm=>by
    obtain⟨m',hm',_⟩:=qeW e7 m hm
    rw [hno] at hm'
    cases hm'
   have hRs:RVs ι h rs0 us.toList:=by
    refine⟨hp.rv.1,fun j x hx=> ?_⟩
    obtain⟨u,g1,g2⟩:=hp.rv.2 j x hx
    have hx':=List.mem_of_getElem? hx
    refine⟨u,g1,RV.noSl (List.all_eq_true.1 q2 x hx') (List.eq_nil_iff_forall_not_mem.2 fun m hm=> ?_) g2⟩
    have:=hp.rn m (qaW.2 ⟨x,hx',hm⟩)
    simp at this
   have hRs':RVs ι h rs us.toList:=hRs.ren e7 (fun m m' hq=>by simp [cnt] at hq)
   have hlent:∀b,¬qh5 (fun j=>(([]:List Nat)[j]?).bind ι) [] b:=by
    rintro b ⟨i,B,L,g1,_⟩
    simp at g1
   have hg:w.grownBy w' none:=⟨hp.os,hp.tape,hp.output,hp.grow,fun b hb _=>hp.frame b hb (hlent b)⟩
   have hbR:bsR= []:=by simp [qo] at e8;exact e8
   subst hbR
   refine⟨ι,h,Sub.refl h,fun _ _=>rfl,?_,qiz hRs',?_,by simp,fun _ _ _=>rfl⟩
   ·simp [qdT,cnt,qB]
    exact(hs.grown hg fun g hg=>by cases hg).weak fun m hm=> .inl hm
   ·intro m hm
    rw [qki,hrn] at hm
    cases hm
  ·cases he
   obtain⟨ι2,t1,t2,t3,t4⟩:=s4.after hNd hbl hbf hp hf e8
   refine⟨ι2,h2,s1.trans hp.sub,t1,?_,?_,?_,by simp,?_⟩
   ·simp only
    rw [qcO]
    exact t3
   ·exact qiz (hp.rv.ren e7 fun m m' hq=>t2 m m' hq)
   ·intro m hm
    rw [qki] at hm
    obtain⟨m',_,hq⟩:=qeW e7 m hm
    exact t4 m' m hq
   ·intro b hb hM
    have hnl:¬qh5 (fun j=>(N[j]?).bind ι) blks b:=by
     rintro⟨i,B,L,g1,g2,g3,rfl⟩
     obtain⟨m,B1,k1,k2,k3⟩:=hbf i B g1
     simp only [k1,Option.bind_some] at g3
     rcases s4.hown m B1 L k2 (by rw [←k3];exact g2) g3 with h' | h'
     ·omega
     ·exact hM h'
    rw [hp.view b (Nat.lt_of_lt_of_le hb hs.hgrow) hnl]
    by_cases hx:∃m∈F,∃B L,qk mem m=some B∧ι m=some L∧L.b=b
    ·obtain⟨m,hm,B,L,k1,k2,rfl⟩:=hx
     rw [s2 m hm B L k1 k2]
     cases hz:B.fz with
     | false=>
      rcases hs.hown m B L k1 hz k2 with h' | h'
      ·omega
      ·exact absurd h' hM
     | true=>exact(hs.hfrz m B L k1 hz k2).symm
    ·exact s3 b fun m hm B L k1 k2 hq=>hx ⟨m,hm,B,L,k1,k2,hq⟩
 ·cases he

end

section
variable {P : Program} {n : Nat} {w0 : World} {M0 : Bool → Nat → Prop} {U : Nat → Prop} {ι ι' ι0 : Io} {h h1 h2 h0 : Hp} {fr : List (Nat × Sv)} {mem mem1 : Mem} {a : Act} {w w' : World} {p : Nat}
 {c:Cfg} {callF:FuncId→List Vl→List Blk→Option (List Vl×List Blk)} {o:Oper} {nx:Nat} {e:Eff}

theorem qi.wp (hp:qi P n w0 M0 U ι h fr mem a w nx o e) {next:Act→World→Prop} {Q:Exit→Act→World→Prop} (hk:∀u w',Nxt n w0 M0 U ι h fr mem nx e a u w'→next (a.put o.dst u) w'):o.wp P a w next Q:=by
 rcases hp with ⟨u,w',h1,h2⟩ | ⟨w',h1,h2⟩
 ·exact qvL h1 (hk u w' h2)
 ·exact qsk h1 (hk _ w' h2)

theorem qm2 (hT:qbB P c.T) (hC:qg3 P callF) (hs:Sim n w0 M0 U ι h fr mem a w) (hf:∀m,nx≤m→m<e.nn→¬U m) (he:stp c callF o fr mem nx=some e) {next:Act→World→Prop} {Q:Exit→Act→World→Prop}
  (hk:∀u w',Nxt n w0 M0 U ι h fr mem nx e a u w'→next (a.put o.dst u) w'):o.wp P a w next Q:=by
 cases hop:o.op with
 | move x=>exact(quJ hs hop he).wp hk
 | assign x=>exact(qqL hs hop he).wp hk
 | pick k x y=>exact(quK hs hop he).wp hk
 | alloc t=>exact(qsl hT hs hf hop he).wp hk
 | box t x=>exact(qvM hT hs hf hop he).wp hk
 | build t ps=>exact(qsq hT hs hop he).wp hk
 | buildSlice t l ps=>exact(qmi hT hs hf hop he).wp hk
 | load t x=>exact(quL hT hs hop he).wp hk
 | store t x y=>exact(qsm hT hs hop he).wp hk
 | nilCheck x=>exact(qoi hs hop he).wp hk
 | binOp op t x y t2=>exact(qso hT hs hop he).wp hk
 | unOp op t x=>exact(quM hs hop he).wp hk
 | convert s d x=>exact(qpv hT hs hf hop he).wp hk
 | makeSlice t l k=>exact(qmV hT hs hf hop he).wp hk
 | slice t x lo hi mx=>exact(qst hT hs hop he).wp hk
 | fieldAddr s x f=>exact(qmW hT hs hop he).wp hk
 | field s x f=>exact(qsr hT hs hop he).wp hk
 | indexAddr t x i=>exact(qmX hT hs hop he).wp hk
 | index t x i=>exact(qss hT hs hop he).wp hk
 | extract x i=>exact(qpt hs hop he).wp hk
 | call k=>
  obtain⟨callee,args,ats⟩:=k
  cases callee with
  | value f=>exact quO hC hs hf hop he hk
  | invoke r m=>simp [stp,hop] at he
  | builtin b=>
   cases b with
   | len=>exact(qvO hT hs hop he).wp hk
   | min=>exact(qvP hs hop he).wp hk
   | max=>exact(qvQ hs hop he).wp hk
   | append=>exact(qqP hT hs hf hop he).wp hk
   | clear=>exact(qsu hT hs hop he).wp hk
   | _=>simp [stp,hop] at he
 | makeFunc fn first cs=>exact(qol hs hop he).wp hk
 | makeMap t r=>exact(qpw hs hf hop he).wp hk
 | lookup t x k ok=>exact(qqR hT hs hop he).wp hk
 | mapUpdate t x k y=>exact(qm1 hT hs hop he).wp hk
 | insert t x k y=>exact(qqT hT hs hop he).wp hk
 | _=>simp [stp,hop] at he

theorem Sim.put (hs:Sim n w0 M0 U ι h fr mem a w) {dst:Option Nat} {v:Sv} {u:Value} {fr':List (Nat×Sv)} (hr:RS ι h v u) (hn:∀m∈v.nms,U m) (e:qfp n fr dst v=some fr'):
  Sim n w0 M0 U ι h fr' mem (a.put dst u) w:=by
 cases dst with
 | none=>cases e;exact hs
 | some d=>
  simp only [qfp] at e
  split at e
  ·rename_i hd
   cases e
   refine { hs with hsize:=by simp [Act.put,hs.hsize],hfr:= ?_,hnm:= ?_ }
   ·intro t v' e'
    rw [qd5] at e'
    split at e'
    ·rename_i ht
     cases e'
     subst ht
     exact⟨u,by simp [Act.put,hs.hsize,hd],hr⟩
    ·rename_i ht
     obtain⟨u',q1,q2⟩:=hs.hfr t v' e'
     exact⟨u',by simp [Act.put,Array.getElem?_setIfInBounds_ne ht,q1],q2⟩
   ·intro t v' e' m hm
    rw [qd5] at e'
    split at e'
    ·cases e';exact hn m hm
    ·exact hs.hnm t v' e' m hm
  ·cases e

def qBb:Value→Option Bool
 | .bool b=>some b
 | _=>none

theorem qiA (hs:Sim n w0 M0 U ι h fr mem a w) {ops:Array Oper} {b:Bool} (e:qdG ops.toList o fr=some b):Region.wanted o (yielded ops a.tmps)=b:=by
 unfold qdG at e
 unfold Region.wanted
 split at e
 ·rename_i hg
  cases e
  rw [hg]
 ·rename_i j want hg
  rw [hg]
  simp only [Option.bind_eq_some_iff] at e
  obtain⟨d,⟨o',e1,e2⟩,v,e3,e⟩:=e
  obtain⟨u,q1,q2⟩:=hs.hfr d v e3
  have hy:yielded ops a.tmps j=qBb u:=by
   have h1:((ops[j]?).bind (·.dst)).bind (a.tmps[·]?)=some u:=by
    have:ops[j]? =some o':=by simpa using e1
    rw [this]
    simp only [Option.bind_some,e2]
    exact q1
   unfold yielded
   rw [h1]
   cases u<;>rfl
  simp only [hy]
  split at e
  ·rename_i b'
   cases e
   have:=RP.bool_inv (show RP h (.bool b') u from q2)
   subst this
   rfl
  ·rename_i hnb
   cases e
   have hub:∀b',u≠ .bool b':=by
    rintro b' rfl
    cases v with
    | v x=>
     cases x with
     | a x=>
      cases x with
      | ptr m i o=>obtain⟨L,_,hq⟩:=q2;cases hq
      | sm m lo k=>rcases q2 with ⟨L,c,_,hq,_⟩ | ⟨_,_,_,hq⟩<;>cases hq
      | mp m=>obtain⟨L,_,hq,_⟩:=q2;cases hq
      | bool b=>exact hnb b rfl
      | _=>have q2:RP h _ _:=q2;cases q2
     | g cs=>obtain⟨A,hq,_⟩:=q2;cases hq
    | t vs=>obtain⟨A,hq,_⟩:=q2;cases hq
    | u=>cases q2
   cases u<;>first | rfl | exact absurd rfl (hub _)

structure Hist (w0:World) (M0:Bool→Nat→Prop) (p:Nat) (ι0:Io) (h0:Hp) (ι:Io) (h:Hp):Prop where
 sub:Sub h0 h
 same:∀i,i<p→ι i=ι0 i
 view:∀b,b<w0.heap.size→¬M0 false b→h b=h0 b

def Cnf (n:Nat) (w0:World) (M0:Bool→Nat→Prop) (p:Nat) (ι0:Io) (h0:Hp) (σ:St) (a:Act) (w:World):Prop:=
 ∃ ι h,Sim n w0 M0 (fun m=>m<σ.nx) ι h σ.fr σ.mem a w∧Hist w0 M0 p ι0 h0 ι h∧p≤σ.nx

theorem qm3 (ι:Io) (h:Hp):RS ι h .u undef:=rfl

theorem qm4 (hT:qbB P c.T) (hC:qg3 P callF) {ops:Array Oper} {Q:Exit→Act→World→Prop}:
  ∀(r:List Oper) (i:Nat) (σ σ':St) (is is':List Info) (a:Act) (w:World),ops.toList.drop i=r→Cnf n w0 M0 p ι0 h0 σ a w→qcv c callF n ops.toList r σ is=some (σ',is')→
   (∀a' w',Cnf n w0 M0 p ι0 h0 σ' a' w'→Q .normal a' w')→wpOps P ops Q (List.range' i r.length) a w:=by
 intro r
 induction r with
 | nil=>
  intro i σ σ' is is' a w _ hc he hk
  simp [qcv] at he
  obtain⟨rfl,rfl⟩:=he
  exact hk a w hc
 | cons o r ih=>
  intro i σ σ' is is' a w hd hc he hk
  have ho:ops[i]? =some o:=by
   have:ops.toList[i]? =some o:=by
    have:=List.getElem?_drop (xs:=ops.toList) (i:=i) (j:=0)
    rw [hd] at this
    simpa using this.symm
   simpa using this
  have hd':ops.toList.drop (i+1)=r:=by
   rw [←List.drop_drop,hd]
   rfl
  simp only [List.length_cons,List.range'_succ,wpOps,ho]
  obtain⟨ι,h,hs,hh,hp⟩:=hc
  simp only [qcv] at he
  cases hw:qdG ops.toList o σ.fr with
  | none=>rw [hw] at he;simp [qfP] at he
  | some b=>
   rw [qiA hs hw]
   rw [hw] at he
   cases b with
   | false=>
    simp only [qfP] at he
    cases hp':qfp n σ.fr o.dst .u with
    | none=>rw [hp'] at he;simp [qh4] at he
    | some fr'=>
     rw [hp'] at he
     simp only [qh4] at he
     rw [if_neg (by simp)]
     exact ih (i+1) ⟨fr',σ.mem,σ.nx⟩ σ' _ is' _ w hd' ⟨ι,h,hs.put (qm3 ι h) (by simp [Sv.nms]) hp',hh,hp⟩ he hk
   | true=>
    simp only [qfP] at he
    rw [if_pos rfl]
    left
    cases hst:stp c callF o σ.fr σ.mem σ.nx with
    | none=>rw [hst] at he;simp [qkg] at he
    | some e=>
     rw [hst] at he
     simp only [qkg] at he
     cases hp':qfp n σ.fr o.dst e.v with
     | none=>rw [hp'] at he;simp [qh4] at he
     | some fr'=>
      rw [hp'] at he
      simp only [qh4] at he
      refine qm2 hT hC hs (fun m h1 h2 h3=>by omega) hst ?_
      rintro u w' ⟨ι',h',n1,n2,n3,n4,n5,n6,n7⟩
      refine ih (i+1) ⟨fr',qB σ.mem e.upd,e.nn⟩ σ' _ is' _ w' hd' ⟨ι',h',?_,⟨hh.sub.trans n1,fun j hj=> ?_,fun b hb hM=> ?_⟩,by simp only;omega⟩ he hk
      ·exact(n3.put n4 n5 hp').weak fun m hm=>by
        simp only at hm ⊢
        rcases hm with hm | hm<;>omega
      ·rw [n2 j (by omega),hh.same j hj]
      ·rw [n7 b hb hM,hh.view b hb hM]

end

theorem qqV {ns ns':Nat→List Nat}:∀(k:Nat) (ms acc:List Nat),(∀m∈clo ns k ms acc,ns' m=ns m)→clo ns' k ms acc=clo ns k ms acc:=by
 have pre:∀(k:Nat) (ms acc:List Nat) (m:Nat),m∈acc→m∈clo ns k ms acc:=by
  intro k
  induction k with
  | zero=>intro ms acc m hm;exact hm
  | succ k ih=>
   intro ms acc m hm
   cases ms with
   | nil=>exact hm
   | cons x ms=>
    simp only [clo]
    split
    ·exact ih _ _ m hm
    ·exact ih _ _ m (List.mem_append_left _ hm)
 intro k
 induction k with
 | zero=>intro ms acc _;rfl
 | succ k ih=>
  intro ms acc h
  cases ms with
  | nil=>rfl
  | cons x ms=>
   simp only [clo] at h ⊢
   split
   ·rename_i hc
    rw [if_pos hc] at h
    exact ih _ _ h
   ·rename_i hc
    rw [if_neg hc] at h
    have hx:ns' x=ns x:=h x (pre _ _ _ _ (by simp))
    rw [hx]
    exact ih _ _ h

theorem qcj {α β:Type} {f g:α→Option β} {l:List α} (h:∀x∈l,f x=g x):qo f l=qo g l:=by
 induction l with
 | nil=>rfl
 | cons x l ih=>
  simp only [qo]
  rw [h x (List.mem_cons_self ..),ih fun y hy=>h y (List.mem_cons_of_mem _ hy)]

section
variable {mem mem' : Mem} {fr fr' : List (Nat × Sv)}

def Eqm (mem mem':Mem) (F:List Nat):Prop:=∀m∈F,qk mem' m=qk mem m

theorem qhj {x:At} (h:Eqm mem mem' x.smn):qeU mem' x=qeU mem x:=by
 cases x<;>first | rfl | skip
 simp only [qeU]
 rw [h _ (by simp [At.smn])]
theorem qkU {x:Vl} (h:Eqm mem mem' (x.cells.flatMap At.smn)):qeE mem' x=qeE mem x:=by
 cases x with
 | a x=>simp only [qeE];rw [qhj (by simpa [Vl.cells] using h)]
 | g cs=>
  simp only [qeE]
  rw [qcj (l:=cs) fun x hx=>qhj fun m hm=>h m (List.mem_flatMap.2 ⟨x,hx,hm⟩)]
theorem qom {xs:List Vl} (h:Eqm mem mem' (qfo xs)):qo (qeE mem') xs=qo (qeE mem) xs:=
 qcj fun x hx=>qkU fun m hm=>h m (List.mem_flatMap.2 ⟨x,hx,hm⟩)
theorem qpy {b:Blk} (h:b.pr=false→Eqm mem mem' (b.els.flatMap fun e=>e.flatMap At.smn)):qgi mem' b=qgi mem b:=by
 unfold qgi
 split
 ·rfl
 ·rename_i hp
  rw [qcj fun e he=>qcj fun x hx=>qhj fun m hm=>h (by simpa using hp) m (List.mem_flatMap.2 ⟨e,he,List.mem_flatMap.2 ⟨x,hx,hm⟩⟩)]
theorem qeA {F:List Nat} (h:Eqm mem mem' F):qaO mem' F=qaO mem F:=by
 induction F with
 | nil=>rfl
 | cons m F ih=>
  simp only [qaO]
  rw [h m (List.mem_cons_self ..),ih fun x hx=>h x (List.mem_cons_of_mem _ hx)]
theorem qj7 {es:Nat} {x:At} {r:Nat×List (List At)×Bool×List Nat} (e:elsOf mem es x=some r) (h:Eqm mem mem' r.2.2.2):elsOf mem' es x=some r:=by
 cases x<;>first | exact e | skip
 rename_i m lo k
 simp only [elsOf,Option.bind_eq_some_iff] at e ⊢
 obtain⟨B,e1,e2⟩:=e
 split at e2
 ·rename_i hc
  cases e2
  exact⟨B,by rw [h m (by simp),e1],by rw [if_pos hc]⟩
 ·cases e2
theorem qhT {F:List Nat} {m:Nat} (u:Mem) (hm:qk mem' m=qk mem m):qk (qB mem' u) m=qk (qB mem u) m:=by
 induction u generalizing mem mem' with
 | nil=>exact hm
 | cons p u ih=>
  obtain⟨k,b⟩:=p
  simp only [qB]
  refine ih ?_
  rw [qbk,qbk,hm]

theorem qkj {o:Operand} (h:∀t,o= .tmp t→lk fr' t=lk fr t):ev fr' o=ev fr o:=by
 cases o<;>first | rfl | exact h _ rfl
theorem qlT {fr fr':List (Nat×Sv)} {o:Operand} (h:ev fr' o=ev fr o):gOf fr' o=gOf fr o:=by unfold gOf;rw [h]
theorem qjh {o:Operand} (h:∀t,o= .tmp t→lk fr' t=lk fr t):evA fr' o=evA fr o:=by unfold evA;rw [qkj h]
theorem qji {o:Operand} (h:∀t,o= .tmp t→lk fr' t=lk fr t):evV fr' o=evV fr o:=by unfold evV;rw [qkj h]
theorem qqW {o:Operand} (h:∀t,o= .tmp t→lk fr' t=lk fr t):evB fr' o=evB fr o:=by unfold evB;rw [qjh h]
theorem qlU {o:Operand} (h:∀t,o= .tmp t→lk fr' t=lk fr t):evI fr' o=evI fr o:=by unfold evI;rw [qjh h]
theorem qjj {d:Nat} {o:Option Operand} (h:∀t,o=some (.tmp t)→lk fr' t=lk fr t):qcu fr' d o=qcu fr d o:=by
 cases o with
 | none=>rfl
 | some o=>exact qlU fun t ht=>h t (by rw [ht])
theorem qm5 {ps:List (Nat×Operand)} (h:∀i t,(i,Operand.tmp t)∈ps→lk fr' t=lk fr t):qjd fr' ps=qjd fr ps:=
 qcj fun p hp=>by
  obtain⟨i,x⟩:=p
  simp only
  rw [qji fun t ht=>h i t (by rw [←ht];exact hp)]

variable {c : Cfg} {callF : FuncId → List Vl → List Blk → Option (List Vl × List Blk)} {o : Oper} {nx : Nat} {e : Eff}

theorem Fzn.upd (F:List Nat):∀ {mem1:Mem},Fzn mem mem1→Fzn mem (qB mem1 (qaO mem F)):=by
 induction F with
 | nil=>intro mem1 h;exact h
 | cons m F ih=>
  intro mem1 h
  cases hB:qk mem m with
  | none=>simp only [qaO,hB];exact ih h
  | some B=>
   simp only [qaO,hB,qB]
   refine ih fun x=> ?_
   rw [qbk]
   by_cases hx:m=x
   ·rw [if_pos hx];exact .inr ⟨B,by rw [←hx,hB],rfl⟩
   ·rw [if_neg hx];exact h x

theorem qmj {g:FuncId} {args:List Vl} (he:qgd c callF g args mem nx=some e) (hm:Eqm mem mem' e.rd):qgd c callF g args mem' nx=some e:=by
 unfold qgd at he ⊢
 simp only [Option.bind_eq_some_iff] at he ⊢
 obtain⟨vals,e3,blks,e4,vals',e5,⟨rs0,bs⟩,e6,rs,e7,bsR,e8,lu,e9,he⟩:=he
 generalize hN:clo (fun m=>if c.mutA g=true then qdK mem m else qgj mem m) 64 (qd vals) []=N at*
 generalize hF:(if c.mutA g=true then [] else qfo args++N.flatMap (qd3 mem))=F at*
 have hrd:Eqm mem mem' (N++F):=by
  cases he
  exact hm
 have hNm:Eqm mem mem' N:=fun m h=>hrd m (List.mem_append_left _ h)
 have hFm:Eqm mem mem' F:=fun m h=>hrd m (List.mem_append_right _ h)
 have hN':clo (fun m=>if c.mutA g=true then qdK mem' m else qgj mem' m) 64 (qd vals) []=N:=by
  rw [←hN]
  refine qqV _ _ _ fun m h=> ?_
  rw [hN] at h
  simp only [qdK,qgj,hNm m h]
 have hsm:N.flatMap (qd3 mem')=N.flatMap (qd3 mem):=by
  have:∀(l:List Nat),(∀m∈l,m∈N)→l.flatMap (qd3 mem')=l.flatMap (qd3 mem):=by
   intro l
   induction l with
   | nil=>intro _;rfl
   | cons x l ih=>
    intro h
    simp only [List.flatMap_cons]
    rw [ih fun m hm=>h m (List.mem_cons_of_mem _ hm)]
    congr 1
    simp only [qd3,hNm x (h x (List.mem_cons_self ..))]
  exact this N fun _ h=>h
 have hF':(if c.mutA g=true then [] else qfo args++N.flatMap (qd3 mem'))=F:=by rw [hsm,hF]
 refine⟨vals,?_,blks,?_,vals',?_,(rs0,bs),e6,rs,?_,bsR,?_,lu,?_,?_⟩
 ·split
  ·rename_i hq;rw [if_pos hq] at e3;exact e3
  ·rename_i hq
   rw [if_neg hq] at e3
   rw [qom]
   ·exact e3
   ·intro m h
    refine hFm m ?_
    rw [←hF,if_neg hq]
    exact List.mem_append_left _ h
 ·rw [hN',hF']
  rw [←e4]
  refine qcj fun m h=> ?_
  rw [qhT (F:= []) _ (hNm m h),qeA hFm]
  cases hb:qk (qB mem (qaO mem F)) m with
  | none=>rfl
  | some b=>
   simp only [Option.bind_some]
   split
   ·rfl
   ·rename_i hq
    rw [qpy]
    intro hp
    intro m' hm'
    refine hFm m' ?_
    rw [←hF,if_neg hq]
    refine List.mem_append_right _ (List.mem_flatMap.2 ⟨m,h,?_⟩)
    have hz:Fzn mem (qB mem (qaO mem F)):=Fzn.upd F (Fzn.refl mem)
    obtain⟨B0,f1,f2,_,_,f5,_⟩:=hz.of hb
    unfold qd3
    rw [f1]
    simp only [←f5,hp]
    rw [←f2]
    simpa using hm'
 ·rw [hN'];exact e5
 ·rw [hN'];exact e7
 ·rw [hN'];exact e8
 ·rw [hN',hF',qeA hFm];exact e9
 ·rw [hN',hF'];exact he

theorem qkV {t:TypeId} {s x:At} (he:qdL c t s x mem nx=some e) (hm:Eqm mem mem' e.rd):qdL c t s x mem' nx=some e:=by
 unfold qdL at he ⊢
 split at he
 ·rename_i et ht
  simp only [Option.bind_eq_some_iff] at he ⊢
  obtain⟨te,e1,src,e2,base,e3,he⟩:=he
  split at he
  ·rename_i hc
   cases he
   refine⟨te,e1,src,qj7 e2 fun m h=>hm m (List.mem_append_right _ h),base,?_,by rw [if_pos hc]⟩
   split at e3
   ·exact e3
   ·rename_i m lo k
    simp only [Option.bind_eq_some_iff] at e3 ⊢
    obtain⟨B,e4,e3⟩:=e3
    split at e3
    ·rename_i hq
     cases e3
     exact⟨B,by rw [hm m (List.mem_append_left _ (by simp)),e4],by rw [if_pos hq]⟩
    ·cases e3
   ·cases e3
  ·cases he
 ·cases he

theorem qpz {els:List (List At)} (h:Eqm mem mem' (qkf els)):qpo mem' els=qpo mem els:=
 qcj fun e he=>qcj fun x hx=>qhj fun m hm=>h m (List.mem_flatMap.2 ⟨e,he,List.mem_flatMap.2 ⟨x,hx,hm⟩⟩)
theorem qqX {m:Nat} {v:Vl} {q:Vl×List Nat} (e:arF mem m v=some q) (h:Eqm mem mem' (m::q.2)):arF mem' m v=some q:=by
 unfold arF at e ⊢
 rw [h m (List.mem_cons_self ..)]
 simp only [Option.bind_eq_some_iff] at e ⊢
 obtain⟨b,e1,e⟩:=e
 refine⟨b,e1,?_⟩
 split at e
 ·rename_i hb
  simp only [Option.bind_eq_some_iff] at e
  obtain⟨v',e2,e⟩:=e
  cases e
  rw [if_pos hb,qkU fun m' hm'=>h m' (List.mem_cons_of_mem _ (by simpa [qfo] using hm')),e2]
  rfl
 ·rename_i hb;rw [if_neg hb];exact e
theorem qlA {t:TypeId} {x:At} (he:qeV c t x mem nx=some e) (hm:Eqm mem mem' e.rd):qeV c t x mem' nx=some e:=by
 unfold qeV at he ⊢
 split at he
 ·simp only [Option.bind_eq_some_iff] at he ⊢
  obtain⟨te,e1,he⟩:=he
  refine⟨te,e1,?_⟩
  split at he
  ·exact he
  ·simp only [Option.bind_eq_some_iff] at he ⊢
   obtain⟨B,e2,he⟩:=he
   split at he
   ·rename_i hc
    cases he
    exact⟨B,by rw [hm _ (by simp),e2],by rw [if_pos hc]⟩
   ·cases he
  ·cases he
 ·cases he

theorem qpA {x:At} {p:At×List Nat} (e:qhv mem x=some p) (h:Eqm mem mem' p.2):qhv mem' x=some p:=by
 cases x<;>simp only [qhv] at e ⊢ <;>first | exact e | skip
 simp only [Option.bind_eq_some_iff] at e ⊢
 obtain⟨B,e1,e⟩:=e
 split at e
 ·rename_i hp
  simp only [Option.bind_eq_some_iff] at e
  obtain⟨el,e2,e⟩:=e
  cases e
  exact⟨B,by rw [h _ (List.mem_singleton.2 rfl),e1],by rw [if_pos hp,e2];rfl⟩
 ·cases e
theorem qon:∀ {xs:List At} {ps:List (At×List Nat)},qo (qhv mem) xs=some ps→Eqm mem mem' (ps.flatMap (·.2))→qo (qhv mem') xs=some ps:=by
 intro xs
 induction xs with
 | nil=>intro ps e _;exact e
 | cons x xs ih=>
  intro ps e h
  simp only [qo,Option.bind_eq_some_iff] at e ⊢
  obtain⟨p,e1,qs,e2,e⟩:=e
  cases e
  exact⟨p,qpA e1 fun m hm=>h m (List.mem_flatMap.2 ⟨p,List.mem_cons_self ..,hm⟩),qs,ih e2 fun m hm=>h m (by
   obtain⟨q,hq,hm⟩:=List.mem_flatMap.1 hm
   exact List.mem_flatMap.2 ⟨q,List.mem_cons_of_mem _ hq,hm⟩),rfl⟩
theorem qiB {T:TypeId→Option TI} {t:TypeId} {a k:At} {q:TypeId×Nat×Blk} (e:mapM T t mem a k=some q) (h:Eqm mem mem' [q.2.1]):mapM T t mem' a k=some q:=by
 unfold mapM at e ⊢
 split at e
 ·simp only [Option.bind_eq_some_iff] at e ⊢
  obtain⟨d,e1,e⟩:=e
  refine⟨d,e1,?_⟩
  split at e
  ·simp only [Option.bind_eq_some_iff] at e ⊢
   obtain⟨B,e2,e⟩:=e
   split at e
   ·rename_i hc
    cases e
    exact⟨B,by rw [h _ (List.mem_singleton.2 rfl),e2],by rw [if_pos hc]⟩
   ·cases e
  ·cases e
 ·cases e
theorem qqY (he:stp c callF o fr mem nx=some e) (hf:∀t,Operand.tmp t∈o.op.operands.toList→lk fr' t=lk fr t) (hm:Eqm mem mem' e.rd):stp c callF o fr' mem' nx=some e:=by
 have oE:∀x,x∈o.op.operands.toList→ev fr' x=ev fr x:=fun x hx=>qkj fun t ht=>hf t (ht▸hx)
 have oA:∀x,x∈o.op.operands.toList→evA fr' x=evA fr x:=fun x hx=>qjh fun t ht=>hf t (ht▸hx)
 have oV:∀x,x∈o.op.operands.toList→evV fr' x=evV fr x:=fun x hx=>qji fun t ht=>hf t (ht▸hx)
 have oB:∀x,x∈o.op.operands.toList→evB fr' x=evB fr x:=fun x hx=>qqW fun t ht=>hf t (ht▸hx)
 have oI:∀x,x∈o.op.operands.toList→evI fr' x=evI fr x:=fun x hx=>qlU fun t ht=>hf t (ht▸hx)
 cases hop:o.op<;>simp only [hop,Op.operands] at oE oA oV oB oI hf<;>simp only [stp,hop] at he ⊢
 case move x=>rw [oE x (by simp)];exact he
 case assign x=>rw [oE x (by simp)];exact he
 case pick k x y=>rw [oB k (by simp),oA x (by simp),oA y (by simp)];exact he
 case alloc t=>exact he
 case box t x=>rw [oV x (by simp)];exact he
 case build t ps=>
  have:qo (fun p:Nat×Operand=>(evV fr' p.2).bind fun v=>some (p.1,v)) ps.toList=qo (fun p:Nat×Operand=>(evV fr p.2).bind fun v=>some (p.1,v)) ps.toList:=
   qm5 fun i t h=>hf t (by simp;exact⟨i,by simpa using h⟩)
  rw [this]
  exact he
 case buildSlice t l ps=>
  have:∀z,qo (fun p:Nat×Operand=>(evV fr' p.2).bind fun v=>some (p.1,qgD z v)) ps.toList=qo (fun p:Nat×Operand=>(evV fr p.2).bind fun v=>some (p.1,qgD z v)) ps.toList:=
   fun z=>qcj fun p hp=>by
    obtain⟨i,x⟩:=p
    simp only
    rw [qji fun t ht=>hf t (by simp;exact⟨i,by rw [←ht];simpa using hp⟩)]
  simp only [this]
  split at he
  ·simp only [Option.bind_eq_some_iff] at he ⊢
   obtain⟨te,e1,ps',e2,els0,e3,els,e4,he⟩:=he
   split at he
   ·rename_i hc
    cases he
    have hF:Eqm mem mem' (qkf els0):=hm
    exact⟨te,e1,ps',e2,els0,e3,els,by rw [qpz hF];exact e4,by rw [if_pos hc,qeA hF]⟩
   ·cases he
  ·cases he
 case load t x=>
  rw [oA x (by simp)]
  simp only [Option.bind_eq_some_iff] at he ⊢
  obtain⟨ti,e1,y,e2,he⟩:=he
  refine⟨ti,e1,y,e2,?_⟩
  split at he
  ·simp only [Option.bind_eq_some_iff] at he ⊢
   obtain⟨B,e3,el,e4,v,e5,he⟩:=he
   cases he
   exact⟨B,by rw [hm _ (by simp),e3],el,e4,v,e5,rfl⟩
  ·exact he
  ·cases he
 case store t x y=>
  rw [oA x (by simp),oV y (by simp)]
  simp only [Option.bind_eq_some_iff] at he ⊢
  obtain⟨ti,e1,v,e2,z,e3,he⟩:=he
  refine⟨ti,e1,v,e2,z,e3,?_⟩
  split at he
  ·simp only [Option.bind_eq_some_iff] at he ⊢
   obtain⟨q,e4,B,e5,el,e6,he⟩:=he
   split at he
   ·rename_i hc
    cases he
    have hF:Eqm mem mem' q.2:=fun m' h'=>hm m' (List.mem_cons_of_mem _ h')
    refine⟨q,qqX e4 hm,B,?_,el,e6,by rw [if_pos hc,qeA hF]⟩
    rw [qeA hF,qhT (F:= []) _ (hm _ (List.mem_cons_self ..))]
    exact e5
   ·cases he
  ·cases he
 case nilCheck x=>rw [oA x (by simp)];exact he
 case binOp op t x y t2=>rw [qlT (oE x (by simp)),oA x (by simp),oA y (by simp),oV y (by simp)];exact he
 case unOp op t x=>rw [oA x (by simp)];exact he
 case convert s d x=>
  rw [oA x (by simp)]
  simp only [Option.bind_eq_some_iff] at he ⊢
  obtain⟨y,e1,he⟩:=he
  refine⟨y,e1,?_⟩
  split at he
  ·split at he
   ·simp only [Option.bind_eq_some_iff] at he ⊢
    obtain⟨q,e2,bs,e3,he⟩:=he
    cases he
    exact⟨q,qj7 e2 hm,bs,e3,rfl⟩
   ·cases he
  ·exact he
 case makeSlice t l k=>rw [oI l (by simp),oI k (by simp)];exact he
 case slice t x lo hi mx=>
  rw [oA x (by simp)]
  have hb1:∀d,qcu fr' d lo=qcu fr d lo:=fun d=>qjj fun t ht=>hf t (by simp [ht])
  have hb2:∀d,qcu fr' d hi=qcu fr d hi:=fun d=>qjj fun t ht=>hf t (by simp [ht])
  simp only [hb1,hb2]
  split at he
  ·cases he
  ·rename_i hmx
   rw [if_neg hmx]
   simp only [Option.bind_eq_some_iff] at he ⊢
   obtain⟨td,e1,y,e2,he⟩:=he
   refine⟨td,e1,y,e2,?_⟩
   split at he
   ·exact he
   ·exact he
   ·simp only [Option.bind_eq_some_iff] at he ⊢
    obtain⟨te,e3,B,e4,l,b1,r,b2,he⟩:=he
    split at he
    ·rename_i hc
     cases he
     exact⟨te,e3,B,by rw [hm _ (by simp),e4],l,b1,r,b2,by rw [if_pos hc]⟩
    ·cases he
   ·cases he
 case fieldAddr s x f=>rw [oA x (by simp)];exact he
 case field s x f=>rw [oV x (by simp)];exact he
 case indexAddr t x i=>
  rw [oA x (by simp),oI i (by simp)]
  split at he
  ·simp only [Option.bind_eq_some_iff] at he ⊢
   obtain⟨te,e1,iv,e2,y,e3,he⟩:=he
   refine⟨te,e1,iv,e2,y,e3,?_⟩
   split at he
   ·exact he
   ·simp only [Option.bind_eq_some_iff] at he ⊢
    obtain⟨B,e4,he⟩:=he
    split at he
    ·rename_i hc
     cases he
     exact⟨B,by rw [hm _ (by simp),e4],by rw [if_pos hc]⟩
    ·cases he
   ·cases he
  ·cases he
 case index t x i=>rw [qlT (oE x (by simp)),oA x (by simp),oI i (by simp)];exact he
 case extract x i=>rw [oE x (by simp)];exact he
 case call k=>
  obtain⟨callee,args,ats⟩:=k
  have hargs:∀x,x∈args.toList→x∈(Call.operands ⟨callee,args,ats⟩).toList:=by
   intro x hx
   simp only [Call.operands,Array.toList_append,List.mem_append]
   exact .inr hx
  have harg:∀(i:Nat) (x:Operand),args[i]? =some x→x∈args.toList:=by
   intro i x hx
   exact List.mem_of_getElem? (i:=i) (by simpa using hx)
  have hb:∀i:Nat,((args[i]?).bind fun o=>evA fr' o)=(args[i]?).bind fun o=>evA fr o:=by
   intro i
   cases hx:args[i]? with
   | none=>rfl
   | some x=>exact oA x (hargs x (harg i x hx))
  cases callee with
  | value f=>
   simp only at he ⊢
   have hfm:f∈(Call.operands ⟨.value f,args,ats⟩).toList:=by simp [Call.operands]
   rw [oA f hfm]
   simp only [Option.bind_eq_some_iff] at he ⊢
   obtain⟨fa,e1,he⟩:=he
   refine⟨fa,e1,?_⟩
   split at he
   ·simp only [Option.bind_eq_some_iff] at he ⊢
    obtain⟨as,e2,he⟩:=he
    refine⟨as,?_,qmj he hm⟩
    rw [←e2]
    exact qcj fun x hx=>oV x (hargs x hx)
   ·cases he
  | invoke r m=>cases he
  | builtin b=>
   cases b<;>simp only at he ⊢ <;>first | (cases he;done) | skip
   case len=>
    rw [hb 0]
    simp only [Option.bind_eq_some_iff] at he ⊢
    obtain⟨td,e1,y,e2,he⟩:=he
    refine⟨td,e1,y,e2,?_⟩
    split at he<;>first | exact he | skip
    simp only [Option.bind_eq_some_iff] at he ⊢
    obtain⟨B,e3,he⟩:=he
    cases he
    exact⟨B,by rw [hm _ (List.mem_singleton.2 rfl),e3],rfl⟩
   case min=>rw [hb 0,hb 1];exact he
   case max=>rw [hb 0,hb 1];exact he
   case clear=>
    rw [hb 0]
    simp only [Option.bind_eq_some_iff] at he ⊢
    obtain⟨t,e1,x,e2,he⟩:=he
    exact⟨t,e1,x,e2,qlA he hm⟩
   case append=>
    rw [hb 0,hb 1]
    simp only [Option.bind_eq_some_iff] at he ⊢
    obtain⟨t,e1,t',e2,s,e3,x,e4,he⟩:=he
    refine⟨t,e1,t',e2,s,e3,x,e4,?_⟩
    split at he
    ·rename_i hq
     rw [if_pos hq]
     exact qkV he hm
    ·cases he
 case makeMap t r=>exact he
 case lookup t x k ok=>
  rw [oA x (by simp),oA k (by simp)]
  simp only [Option.bind_eq_some_iff] at he ⊢
  obtain⟨xa,e1,key,e2,q,e3,te,e4,he⟩:=he
  split at he
  ·rename_i hc
   simp only [Option.bind_eq_some_iff] at he
   obtain⟨v,e5,he⟩:=he
   cases he
   exact⟨xa,e1,key,e2,q,qiB e3 hm,te,e4,by rw [if_pos hc,e5];rfl⟩
  ·cases he
 case mapUpdate t x k y=>
  rw [oA x (by simp),oA k (by simp),oA y (by simp)]
  simp only [Option.bind_eq_some_iff] at he ⊢
  obtain⟨xa,e1,key,e2,v,e3,q,e4,he⟩:=he
  split at he
  ·rename_i hc
   cases he
   exact⟨xa,e1,key,e2,v,e3,q,qiB e4 hm,by rw [if_pos hc]⟩
  ·cases he
 case insert t x k y=>
  rw [oA x (by simp),oA k (by simp),oA y (by simp)]
  simp only [Option.bind_eq_some_iff] at he ⊢
  obtain⟨xa,e1,key,e2,v,e3,q,e4,he⟩:=he
  split at he
  ·rename_i hc
   cases he
   exact⟨xa,e1,key,e2,v,e3,q,qiB e4 hm,by rw [if_pos hc]⟩
  ·cases he
 case makeFunc fn first cs=>
  split at he
  ·rename_i hf'
   split at he
   ·rw [if_pos hf']
    simp only [Option.bind_eq_some_iff] at he ⊢
    obtain⟨xs,e1,ps,e2,he⟩:=he
    cases he
    exact⟨xs,by rw [←e1];exact qcj fun x hx=>oA x (by simp at hx ⊢;exact .inr hx),ps,qon e2 hm,by rw [qeA hm]⟩
   ·cases he
  ·cases he
 all_goals cases he

end

def qbD {β:Type} (L:Nat→Bool) (f:Nat→Option β) (init:Option β):Nat→Option β
 | 0=>init
 | i+1=>if L i then(match f i with | some x=>some x | none=>qbD L f init i)else qbD L f init i

theorem qm6 {β:Type} {L:Nat→Bool} {f:Nat→Option β} {init:Option β} {j:Nat} (h1:∀i,i<j→f i≠none→L i=true):
  ∀n,j≤n→(∀k,j≤k→k<n→f k≠none→L k=false)→qbD L f init n=qbD (fun _=>true) f init j:=by
 have base:∀i,i≤j→qbD L f init i=qbD (fun _=>true) f init i:=by
  intro i
  induction i with
  | zero=>intro _;rfl
  | succ i ih=>
   intro hi
   simp only [qbD,if_true]
   rw [ih (by omega)]
   cases hf:f i with
   | none=>simp
   | some x=>rw [h1 i (by omega) (by rw [hf];simp)];simp
 intro n
 induction n with
 | zero=>
  intro hj _
  have:j=0:=by omega
  subst this
  rfl
 | succ n ih=>
  intro hj h2
  rcases Nat.eq_or_lt_of_le hj with hq | hq
  ·rw [←hq];exact base j (Nat.le_refl _)
  ·simp only [qbD]
   rw [ih (by omega) fun k hk hk2 hf=>h2 k hk (by omega) hf]
   cases hf:f n with
   | none=>simp
   | some x=>rw [h2 n (by omega) (by omega) (by rw [hf];simp)];simp

theorem qgS {β:Type} {L L':Nat→Bool} {f:Nat→Option β} {init:Option β}:∀n,(∀i,i<n→f i≠none→L i=L' i)→qbD L f init n=qbD L' f init n:=by
 intro n
 induction n with
 | zero=>intro _;rfl
 | succ n ih=>
  intro h
  simp only [qbD]
  rw [ih fun i hi hf=>h i (by omega) hf]
  cases hf:f n with
  | none=>simp
  | some x=>rw [h n (by omega) (by rw [hf];simp)]

theorem qlV {β:Type} {L:Nat→Bool} {f:Nat→Option β} {init:Option β} {j:Nat} {x:β} (hj:L j=true) (hx:f j=some x):
  ∀n,j<n→(∀k,j<k→k<n→f k≠none→L k=false)→qbD L f init n=some x:=by
 intro n
 induction n with
 | zero=>intro h _;omega
 | succ n ih=>
  intro h h2
  simp only [qbD]
  rcases Nat.eq_or_lt_of_le h with hq | hq
  ·have:j=n:=by omega
   subst this
   rw [hj,hx]
   simp
  ·rw [ih (by omega) fun k hk hk2 hf=>h2 k hk (by omega) hf]
   cases hf:f n with
   | none=>simp
   | some y=>rw [h2 n (by omega) (by omega) (by rw [hf];simp)];simp

section
variable {P : Program} {n : Nat} {w0 : World} {M0 : Bool → Nat → Prop} {U : Nat → Prop} {ι ι' ι0 : Io} {h h1 h2 h0 : Hp} {fr fr' : List (Nat × Sv)} {mem mem' : Mem} {a : Act} {w w' : World} {p : Nat}
 {c:Cfg} {callF:FuncId→List Vl→List Blk→Option (List Vl×List Blk)} {o:Oper} {nx:Nat} {e:Eff}

structure Rec where
 v:Sv
 upd:Mem
 rd:List Nat

def qmt (c:Cfg) (callF:FuncId→List Vl→List Blk→Option (List Vl×List Blk)) (nt:Nat) (ops:List Oper) (o:Oper) (σ σ':St) (r:Rec):Prop:=
 ((qdG ops o σ.fr=some true∧stp c callF o σ.fr σ.mem σ.nx=some { v:=r.v,upd:=r.upd,nn:=σ'.nx,rd:=r.rd })∨
  (qdG ops o σ.fr=some false∧r={ v:= .u,upd:= [],rd:= [] }∧σ'.nx=σ.nx))∧
 qfp nt σ.fr o.dst r.v=some σ'.fr∧σ'.mem=qB σ.mem r.upd

theorem qm7 {nt:Nat} {ops:List Oper}:∀(r:List Oper) (σ σ':St) (is is':List Info),qcv c callF nt ops r σ is=some (σ',is')→
  ∃(T:Nat→St) (R:Nat→Rec),T 0=σ∧T r.length=σ'∧(∀(i:Nat) (o:Oper),r[i]? =some o→qmt c callF nt ops o (T i) (T (i+1)) (R i))∧
   is'.reverse=is.reverse++(List.range r.length).map fun i=>({ rd:=(R i).rd,wr:=(R i).upd.map (·.1) }:Info):=by
 intro r
 induction r with
 | nil=>
  intro σ σ' is is' h
  simp [qcv] at h
  obtain⟨rfl,rfl⟩:=h
  exact⟨fun _=>σ,fun _=>⟨.u,[],[]⟩,rfl,rfl,by simp,by simp⟩
 | cons o r ih=>
  intro σ σ' is is' h
  simp only [qcv] at h
  have fin:∀(σ1:St) (rc:Rec),qmt c callF nt ops o σ σ1 rc→qcv c callF nt ops r σ1 ({ rd:=rc.rd,wr:=rc.upd.map (·.1) }::is)=some (σ',is')→
    ∃(T:Nat→St) (R:Nat→Rec),T 0=σ∧T (o::r).length=σ'∧(∀(i:Nat) (o':Oper),(o::r)[i]? =some o'→qmt c callF nt ops o' (T i) (T (i+1)) (R i))∧
     is'.reverse=is.reverse++(List.range (o::r).length).map fun i=>({ rd:=(R i).rd,wr:=(R i).upd.map (·.1) }:Info):=by
   intro σ1 rc hst hr
   obtain⟨T,R,t1,t2,t3,t4⟩:=ih σ1 σ' _ is' hr
   refine⟨fun i=>match i with | 0=>σ | i+1=>T i,fun i=>match i with | 0=>rc | i+1=>R i,rfl,by simpa using t2,?_,?_⟩
   ·intro i o' hi
    cases i with
    | zero=>simp at hi;subst hi;simp only [t1];exact hst
    | succ i=>simp at hi;exact t3 i o' hi
   ·rw [t4]
    simp only [List.length_cons,List.range_succ_eq_map,List.map_cons,List.map_map,List.reverse_cons,List.append_assoc,List.singleton_append]
    rfl
  cases hw:qdG ops o σ.fr with
  | none=>rw [hw] at h;simp [qfP] at h
  | some b=>
   rw [hw] at h
   cases b with
   | false=>
    simp only [qfP] at h
    cases hp:qfp nt σ.fr o.dst .u with
    | none=>rw [hp] at h;simp [qh4] at h
    | some f=>
     rw [hp] at h
     exact fin ⟨f,σ.mem,σ.nx⟩ ⟨.u,[],[]⟩ ⟨.inr ⟨hw,rfl,rfl⟩,hp,rfl⟩ h
   | true=>
    simp only [qfP] at h
    cases hst:stp c callF o σ.fr σ.mem σ.nx with
    | none=>rw [hst] at h;simp [qkg] at h
    | some e=>
     rw [hst] at h
     simp only [qkg] at h
     cases hp:qfp nt σ.fr o.dst e.v with
     | none=>rw [hp] at h;simp [qh4] at h
     | some f=>
      rw [hp] at h
      exact fin ⟨f,qB σ.mem e.upd,e.nn⟩ ⟨e.v,e.upd,e.rd⟩ ⟨.inl ⟨hw,hst⟩,hp,rfl⟩ h

inductive Reach (ops:List Oper):Nat→Nat→Prop
 | edge {i j:Nat} {o:Oper} {e:Edge} (ho:ops[j]? =some o) (he:e∈o.after) (hb:Region.binds .any e=true) (hi:e.on=i):Reach ops i j
 | step {i k j:Nat} {o:Oper} {e:Edge} (ho:ops[j]? =some o) (he:e∈o.after) (hb:Region.binds .any e=true) (hk:e.on=k) (hr:Reach ops i k):Reach ops i j

theorem qqZ (acc:List Nat) (i:Nat):∀(l:List Edge) (m:Nat),(l.foldl (fun m e=>m ||| 2^e.on ||| acc.getD e.on 0) m).testBit i=true→
  m.testBit i=true∨∃e∈l,e.on=i∨(acc.getD e.on 0).testBit i=true:=by
 intro l
 induction l with
 | nil=>intro m h;exact .inl h
 | cons e l ih=>
  intro m h
  rcases ih _ h with h | ⟨e',he',h⟩
  ·simp only [Nat.testBit_or,Bool.or_eq_true,Nat.testBit_two_pow,decide_eq_true_eq] at h
   rcases h with (h | h) | h
   ·exact .inl h
   ·exact .inr ⟨e,List.mem_cons_self ..,.inl h⟩
   ·exact .inr ⟨e,List.mem_cons_self ..,.inr h⟩
  ·exact .inr ⟨e',List.mem_cons_of_mem _ he',h⟩

theorem qpB (ops:List Oper):∀j i,((qvK ops).getD j 0).testBit i=true→Reach ops i j:=by
 have key:∀(r:List Oper) (k:Nat) (acc:List Nat),acc.length=k→ops.drop k=r→(∀j i,(acc.getD j 0).testBit i=true→Reach ops i j)→
   ∀j i,((r.foldl (fun acc o=>acc++ [(o.after.toList.filter (Region.binds .any)).foldl (fun m e=>m ||| 2^e.on ||| acc.getD e.on 0) 0]) acc).getD j 0).testBit i=true→Reach ops i j:=by
  intro r
  induction r with
  | nil=>intro k acc _ _ h;exact h
  | cons o r ih=>
   intro k acc hl hd h
   have ho:ops[k]? =some o:=by
    have:=List.getElem?_drop (xs:=ops) (i:=k) (j:=0)
    rw [hd] at this
    simpa using this.symm
   refine ih (k+1) _ (by simp [hl]) (by rw [←List.drop_drop,hd];rfl) ?_
   intro j i hi
   rw [List.getD_eq_getElem?_getD,List.getElem?_append] at hi
   split at hi
   ·exact h j i (by rw [List.getD_eq_getElem?_getD];exact hi)
   ·rename_i hj
    rcases Nat.eq_or_lt_of_le (Nat.le_of_not_lt hj)with hq | hq
    ·rw [←hq] at hi
     simp only [Nat.sub_self,List.getElem?_cons_zero,Option.getD_some] at hi
     have hjk:j=k:=by omega
     subst hjk
     rcases qqZ acc i _ _ hi with h0 | ⟨e,he,hi⟩
     ·simp at h0
     ·rw [List.mem_filter] at he
      obtain⟨he,hb⟩:=he
      rcases hi with hi | hi
      ·exact .edge ho (by simpa using he) hb hi
      ·exact .step ho (by simpa using he) hb rfl (h _ _ hi)
    ·rw [List.getElem?_eq_none (by simp;omega)] at hi
     simp at hi
 intro j i hi
 exact key ops 0 [] rfl rfl (by simp) j i hi

theorem Reach.listed {ops:List Oper} {L:Nat→Bool} (hd:∀j,L j=true→∀o,ops[j]? =some o→∀e∈o.after,Region.binds .any e=true→L e.on=true) {i j:Nat} (hr:Reach ops i j)
  (hj:∀o,ops[j]? =some o→∀e∈o.after,Region.binds .any e=true→L e.on=true):L i=true:=by
 induction hr with
 | edge ho he hb hi=>rw [←hi];exact hj _ ho _ he hb
 | step ho he hb hk hr ih=>
  have:=hj _ ho _ he hb
  rw [hk] at this
  exact ih (hd _ this)

end

section
variable {P : Program} {n : Nat} {w0 : World} {M0 : Bool → Nat → Prop} {U : Nat → Prop} {ι ι' ι0 : Io} {h h1 h2 h0 : Hp} {fr fr' : List (Nat × Sv)} {mem mem' : Mem} {a : Act} {w w' : World} {p : Nat}
  {c:Cfg} {callF:FuncId→List Vl→List Blk→Option (List Vl×List Blk)} {o:Oper} {nx:Nat} {e:Eff}

theorem qq0 {v:Vl} (h:Am.val v nx=some e):e.nn=nx:=by
  simp only [Am.val,Option.some.injEq] at h;subst h;rfl
theorem quP {v:Option At} (h:Am.valA v nx=some e):e.nn=nx:=by
  simp only [Am.valA,Option.bind_eq_some_iff] at h
  obtain⟨x,_,h⟩:=h
  exact qq0 h

theorem qvR (he:stp c callF o fr mem nx=some e):nx≤e.nn:=by
  unfold stp at he
  split at he
  all_goals
    (repeat' first
      | (rw [qq0 he];exact Nat.le_refl _)
      | (rw [quP he];exact Nat.le_refl _)
      | (cases he;first | exact Nat.le_refl _ | exact Nat.le_succ _)
      | (simp only [qdL,qgd,qeV] at he)
      | (unfold qsh at he)
      | (unfold qsg at he)
      | (unfold eqG at he)
      | (cases he;done)
      | (obtain⟨_,_,he⟩:=he)
      | (simp only [Option.bind_eq_some_iff,Option.some.injEq] at he;obtain⟨_,_,he⟩:=he)
      | (simp only [Option.some.injEq] at he;subst he;first | exact Nat.le_refl _ | exact Nat.le_succ _ | exact Nat.le_add_right _ _)
      | split at he
      | exact Nat.le_add_right _ _)

theorem qoo {ops:List Oper} (hf:∀t∈qhq ops o,lk fr' t=lk fr t):qdG ops o fr'=qdG ops o fr:=by
  unfold qdG
  cases hg:o.guard with
  | none=>rfl
  | some jw =>
    obtain⟨j,want⟩:=jw
    simp only
    cases hd:(ops[j]?).bind (·.dst)with
    | none=>rfl
    | some d =>
      simp only [Option.bind_some]
      rw [hf d (by simp [qhq,hg,hd])]

theorem Sim.congr (hs:Sim n w0 M0 U ι h fr mem a w) (hf:∀t,lk fr' t=lk fr t) (hm:∀m,lk mem' m=lk mem m):Sim n w0 M0 U ι h fr' mem' a w:=by
  have hg:∀m,qk mem' m=qk mem m:=fun m=>by unfold qk;rw [hm m]
  exact { hs with
    hfr:=fun t v e=>hs.hfr t v (by rw [←hf];exact e)
    hmem:=fun m B e=>hs.hmem m B (by rw [←hg];exact e)
    hinj:=fun m m' B B' L L' e e'=>hs.hinj m m' B B' L L' (by rw [←hg];exact e) (by rw [←hg];exact e')
    hmut:=fun m B L e=>hs.hmut m B L (by rw [←hg];exact e)
    hfrz:=fun m B L e=>hs.hfrz m B L (by rw [←hg];exact e)
    hown:=fun m B L e=>hs.hown m B L (by rw [←hg];exact e)
    hown2:=fun m B L e=>hs.hown2 m B L (by rw [←hg];exact e)
    hnm:=fun t v e=>hs.hnm t v (by rw [←hf];exact e)
    hnb:=fun m B e=>hs.hnb m B (by rw [←hg];exact e)
    hpr:=fun m B e=>hs.hpr m B (by rw [←hg];exact e) }

def wF (ops:Array Oper) (R:Nat→Rec) (t i:Nat):Option Sv:=if((ops[i]?).bind (·.dst))=some t then some (R i).v else none
def wM (R:Nat→Rec) (m i:Nat):Option (Option Blk):=lk (R i).upd.reverse m

structure Trace (c:Cfg) (callF:FuncId→List Vl→List Blk→Option (List Vl×List Blk)) (n:Nat) (ops:Array Oper) (T:Nat→St) (R:Nat→Rec):Prop where
  step:∀(i:Nat) (o:Oper),ops[i]? =some o→qmt c callF n ops.toList o (T i) (T (i+1)) (R i)
  clash:∀(i j:Nat) (o p:Oper),ops[i]? =some o→ops[j]? =some p→i<j→clash ops.toList o p ⟨(R i).rd,(R i).upd.map (·.1)⟩ ⟨(R j).rd,(R j).upd.map (·.1)⟩=true→Reach ops.toList i j
  less:∀(j:Nat) (o:Oper) (e:Edge),ops[j]? =some o→e∈o.after→Region.binds .any e=true→e.on<j

section
variable {ops : Array Oper} {T : Nat → St} {R : Nat → Rec} {L : Nat → Bool}

theorem Trace.nx1 (ht:Trace c callF n ops T R) {i:Nat} (hi:i<ops.size):(T i).nx≤(T (i+1)).nx:=by
  obtain⟨hs,_,_⟩:=ht.step i ops[i] (by simp [hi])
  rcases hs with ⟨_,hs⟩ | ⟨_,_,hs⟩
  · exact qvR hs
  · omega
theorem Trace.nxs (ht:Trace c callF n ops T R) {i j:Nat} (hij:i≤j) (hj:j≤ops.size):(T i).nx≤(T j).nx:=by
  induction j with
  | zero => have : i = 0 := by omega
            subst this;exact Nat.le_refl _
  | succ j ih =>
    rcases Nat.eq_or_lt_of_le hij with h | h
    · subst h;exact Nat.le_refl _
    · exact Nat.le_trans (ih (by omega) (by omega)) (ht.nx1 (by omega))

theorem Trace.frs (ht:Trace c callF n ops T R) (t:Nat):∀j,j≤ops.size→lk (T j).fr t=qbD (fun _=>true) (wF ops R t) (lk (T 0).fr t) j:=by
  intro j
  induction j with
  | zero=>intro _;rfl
  | succ j ih =>
    intro hj
    have hlt:j<ops.size:=by omega
    obtain⟨_,hp,_⟩:=ht.step j ops[j] (by simp [hlt])
    simp only [qbD,if_true,wF,Array.getElem?_eq_getElem hlt,Option.bind_some]
    cases hd:ops[j].dst with
    | none =>
      rw [hd] at hp
      simp only [qfp,Option.some.injEq] at hp
      rw [←hp,ih (by omega)]
      simp
    | some d =>
      rw [hd] at hp
      simp only [qfp] at hp
      split at hp
      · rw [← Option.some.inj hp, qd5]
        by_cases hdt:d=t
        · simp [hdt]
        · rw [if_neg hdt, ih (by omega)]
          simp [hdt]
      · cases hp
theorem Trace.mems (ht:Trace c callF n ops T R) (m:Nat):∀j,j≤ops.size→lk (T j).mem m=qbD (fun _=>true) (wM R m) (lk (T 0).mem m) j:=by
  intro j
  induction j with
  | zero=>intro _;rfl
  | succ j ih =>
    intro hj
    have hlt:j<ops.size:=by omega
    obtain⟨_,_,hm⟩:=ht.step j ops[j] (by simp [hlt])
    rw [hm,qoL,ih (by omega)]
    simp only [qbD,if_true,wM]
    cases lk (R j).upd.reverse m<;>rfl

structure Down (ops:Array Oper) (L:Nat→Bool):Prop where
  lt:∀i,L i=true→i<ops.size
  down:∀j,L j=true→∀o,ops[j]? =some o→∀e∈o.after,Region.binds .any e=true→L e.on=true

theorem qgT {β:Type} {l:List (Nat×β)} {m:Nat} (h:lk l.reverse m≠none):m∈l.map (·.1):=by
  have:∀(l:List (Nat×β)),lk l m≠none→m∈l.map (·.1):=by
    intro l
    induction l with
    | nil=>intro h;exact absurd rfl h
    | cons q r ih =>
      intro h
      rw [qd5] at h
      split at h
      · simp [*]
      · exact List.mem_cons_of_mem _ (ih h)
  have:=this _ h
  simpa using this

theorem qkk {xs ys:List Nat} {m:Nat} (h1:m∈xs) (h2:m∈ys):qkO xs ys=true:=by
  simp only [qkO,List.any_eq_true,List.contains_iff_mem]
  exact⟨m,h1,h2⟩

theorem Trace.sees (ht:Trace c callF n ops T R) (hL:Down ops L) {j:Nat} {oj:Oper} (ho:ops[j]? =some oj) (hj:L j=false)
    (hr:∀e∈oj.after,Region.binds .any e=true→L e.on=true):
    (∀t∈qhq ops.toList oj,qbD L (wF ops R t) (lk (T 0).fr t) ops.size=lk (T j).fr t)∧
    (∀m∈(R j).rd,qbD L (wM R m) (lk (T 0).mem m) ops.size=lk (T j).mem m):=by
  have hlt:j<ops.size:=(Array.getElem?_eq_some_iff.1 ho).1
  have hdn:∀i,Reach ops.toList i j→L i=true:=fun i hi=>
    hi.listed (fun k hk o' ho'=>hL.down k hk o' (by simpa using ho')) (fun o' ho'=>by
      have : o' = oj := by have h1 : ops[j]? = some o' := by simpa using ho'
                           rw [ho] at h1;exact(Option.some.inj h1).symm
      subst this;exact hr)
  have hup:∀k,Reach ops.toList j k→L k=false:=fun k hk=>by
    cases hq:L k with
    | false=>rfl
    | true =>
      have:=hk.listed (L:=L) (fun k hk o' ho'=>hL.down k hk o' (by simpa using ho')) (fun o' ho'=>hL.down k hq o' (by simpa using ho'))
      rw [hj] at this;cases this
  constructor
  · intro t htm
    rw [ht.frs t j (by omega)]
    have hw:∀k,k<ops.size→wF ops R t k≠none→∃ok,ops[k]? =some ok∧ok.dst=some t:=by
      intro k hk hne
      unfold wF at hne
      split at hne
      · rename_i hd
        simp only [Option.bind_eq_some_iff] at hd
        exact hd
      · exact absurd rfl hne
    refine qm6 (fun i hi hne=> ?_) _ (by omega) fun k hk hk2 hne=> ?_
    · obtain ⟨oi, e1, e2⟩ := hw i (by omega) hne
      refine hdn i (ht.clash i j oi oj e1 ho hi ?_)
      simp only [Am.clash,e2,List.contains_iff_mem.2 htm,Bool.true_or]
    · rcases Nat.eq_or_lt_of_le hk with rfl | hk
      · exact hj
      · obtain ⟨ok, e1, e2⟩ := hw k hk2 hne
        refine hup k (ht.clash j k oj ok ho e1 hk ?_)
        simp only [Am.clash,e2,List.contains_iff_mem.2 htm,Bool.true_or,Bool.or_true]
  · intro m hm
    rw [ht.mems m j (by omega)]
    refine qm6 (fun i hi hne=> ?_) _ (by omega) fun k hk hk2 hne=> ?_
    · refine hdn i (ht.clash i j _ oj (Array.getElem?_eq_getElem (by omega)) ho hi ?_)
      simp only [Am.clash,qkk (qgT hne) hm,Bool.true_or,Bool.or_true]
    · rcases Nat.eq_or_lt_of_le hk with rfl | hk
      · exact hj
      · refine hup k (ht.clash j k oj _ ho (Array.getElem?_eq_getElem hk2) hk ?_)
        simp only [Am.clash,qkk hm (qgT hne),Bool.true_or,Bool.or_true]

theorem Trace.puts (ht:Trace c callF n ops T R) (hL:Down ops L) {j:Nat} {oj:Oper} (ho:ops[j]? =some oj) (hj:L j=false) {L':Nat→Bool}
    (hL1:L' j=true) (hL2:∀i,i≠j→L' i=L i):
    (∀t,qbD L' (wF ops R t) (lk (T 0).fr t) ops.size=if oj.dst=some t then some (R j).v else qbD L (wF ops R t) (lk (T 0).fr t) ops.size)∧
    (∀m,qbD L' (wM R m) (lk (T 0).mem m) ops.size=(lk (R j).upd.reverse m).or (qbD L (wM R m) (lk (T 0).mem m) ops.size)):=by
  have hlt:j<ops.size:=(Array.getElem?_eq_some_iff.1 ho).1
  have hup:∀k,j<k→Reach ops.toList j k→L' k=false:=fun k hjk hk=>by
    rw [hL2 k (by omega)]
    cases hq:L k with
    | false=>rfl
    | true =>
      have:=hk.listed (L:=L) (fun k hk o' ho'=>hL.down k hk o' (by simpa using ho')) (fun o' ho'=>hL.down k hq o' (by simpa using ho'))
      rw [hj] at this;cases this
  constructor
  · intro t
    by_cases hd:oj.dst=some t
    · rw [if_pos hd]
      refine qlV hL1 (by simp [wF,ho,hd]) _ hlt fun k hk hk2 hne=> ?_
      unfold wF at hne
      split at hne
      · rename_i hdk
        simp only [Option.bind_eq_some_iff] at hdk
        obtain⟨ok,e1,e2⟩:=hdk
        refine hup k hk (ht.clash j k oj ok ho e1 hk ?_)
        simp only [Am.clash,hd,e2,beq_self_eq_true,Bool.or_true,Bool.true_or]
      · exact absurd rfl hne
    · rw [if_neg hd]
      refine qgS _ fun i hi hne=>hL2 i ?_
      rintro rfl
      simp [wF,ho,hd] at hne
  · intro m
    cases hm:lk (R j).upd.reverse m with
    | some x =>
      simp only [Option.some_or]
      refine qlV hL1 hm _ hlt fun k hk hk2 hne=>hup k hk (ht.clash j k oj _ ho (Array.getElem?_eq_getElem hk2) hk ?_)
      simp only [Am.clash,qkk (qgT (show lk (R j).upd.reverse m≠none by rw [hm];simp)) (qgT hne),Bool.true_or,Bool.or_true]
    | none =>
      simp only [Option.none_or]
      refine qgS _ fun i hi hne=>hL2 i ?_
      rintro rfl
      exact hne hm

def Mid (n:Nat) (w0:World) (M0:Bool→Nat→Prop) (p:Nat) (ι0:Io) (h0:Hp) (ops:Array Oper) (T:Nat→St) (R:Nat→Rec) (L:Nat→Bool) (a:Act) (w:World):Prop:=
  ∃ fr mem ι h, Sim n w0 M0 (fun m => m < (T 0).nx ∨ ∃ i, L i = true ∧ (T i).nx ≤ m ∧ m < (T (i + 1)).nx) ι h fr mem a w ∧ Hist w0 M0 p ι0 h0 ι h ∧
    (∀t,lk fr t=qbD L (wF ops R t) (lk (T 0).fr t) ops.size)∧(∀m,lk mem m=qbD L (wM R m) (lk (T 0).mem m) ops.size)

theorem Sim.ext {U':Nat→Prop} (hs:Sim n w0 M0 U ι h fr mem a w) (hu:∀m,U m→U' m):Sim n w0 M0 U' ι h fr mem a w:=hs.weak hu

theorem Trace.next (hT:qbB P c.T) (hC:qg3 P callF) (ht:Trace c callF n ops T R) (hL:Down ops L) (hp:p≤(T 0).nx) {j:Nat} {oj:Oper} (ho:ops[j]? =some oj) (hj:L j=false)
    (hr:∀e∈oj.after,Region.binds .any e=true→L e.on=true) {L':Nat→Bool} (hL1:L' j=true) (hL2:∀i,i≠j→L' i=L i)
    {Q:Exit→Act→World→Prop} {K:Act→World→Prop} (hK:∀a' w',Mid n w0 M0 p ι0 h0 ops T R L' a' w'→K a' w') (hc:Mid n w0 M0 p ι0 h0 ops T R L a w):wpOp P ops Q j K a w:=by
  have hlt:j<ops.size:=(Array.getElem?_eq_some_iff.1 ho).1
  obtain⟨fr,mem,ι,h,hs,hh,hf,hm⟩:=hc
  obtain⟨s1,s2⟩:=ht.sees hL ho hj hr
  obtain⟨p1,p2⟩:=ht.puts hL ho hj hL1 hL2
  obtain⟨hst,hput,hmm⟩:=ht.step j oj ho
  unfold wpOp
  rw [ho]
  simp only
  have hw:qdG ops.toList oj fr=qdG ops.toList oj (T j).fr:=qoo fun t htm=>by rw [hf,s1 t htm]
  have hput':∀v,v=(R j).v→∃f',qfp n fr oj.dst v=some f'∧∀t,lk f' t=qbD L' (wF ops R t) (lk (T 0).fr t) ops.size:=by
    rintro v rfl
    cases hd:oj.dst with
    | none =>
      refine⟨fr,rfl,fun t=> ?_⟩
      rw [p1,hd,hf]
      simp
    | some d =>
      rw [hd] at hput
      simp only [qfp] at hput ⊢
      split at hput
      · rename_i hdn
        rw [if_pos hdn]
        refine⟨_,rfl,fun t=> ?_⟩
        rw [p1,hd,qd5,hf]
        simp
      · cases hput
  rcases hst with ⟨hwt,hst⟩ | ⟨hwt,hR,hnx⟩
  · rw [qiA hs (hw.trans hwt), if_pos rfl]
    left
    have he:stp c callF oj fr mem (T j).nx=some { v:=(R j).v,upd:=(R j).upd,nn:=(T (j+1)).nx,rd:=(R j).rd }:=by
      refine qqY hst (fun t htm=> ?_) fun m hmr=> ?_
      · rw [hf]
        refine s1 t ?_
        simp only [qhq,List.mem_append,List.mem_filterMap]
        exact .inl ⟨_,htm,rfl⟩
      · unfold qk
        rw [hm,s2 m hmr]
    refine qm2 hT hC hs (fun m h1 h2 h3=> ?_) he ?_
    · simp only at h2
      rcases h3 with h3 | ⟨i,hi,h3,h4⟩
      · have := ht.nxs (Nat.zero_le j) (by omega)
        omega
      · have hij : i ≠ j := by rintro rfl; rw [hj] at hi; cases hi
        have hil:=hL.lt i hi
        rcases Nat.lt_or_ge i j with hq | hq
        · have := ht.nxs (show i + 1 ≤ j by omega) (by omega)
          omega
        · have := ht.nxs (show j + 1 ≤ i by omega) (by omega)
          omega
    · rintro u w' ⟨ι', h', n1, n2, n3, n4, n5, n6, n7⟩
      obtain⟨f',e1,e2⟩:=hput' _ rfl
      refine hK _ _ ⟨f',qB mem (R j).upd,ι',h',?_,⟨hh.sub.trans n1,fun i hi=> ?_,fun b hb hM=> ?_⟩,e2,fun m=> ?_⟩
      · refine (n3.put n4 n5 e1).weak fun m hm => ?_
        rcases hm with (hm | ⟨i,hi,hm⟩) | hm
        · exact .inl hm
        · exact .inr ⟨i,by rw [hL2 i (by rintro rfl;rw [hj] at hi;cases hi)];exact hi,hm⟩
        · exact .inr ⟨j,hL1,hm⟩
      · have := ht.nxs (Nat.zero_le j) (by omega)
        rw [n2 i (by omega),hh.same i hi]
      · rw [n7 b hb hM,hh.view b hb hM]
      · rw [qoL,p2,hm]
  · rw [qiA hs (hw.trans hwt), if_neg (by simp)]
    obtain⟨f',e1,e2⟩:=hput' .u (by rw [hR])
    refine hK _ _ ⟨f',mem,ι,h,?_,hh,e2,fun m=> ?_⟩
    · refine (hs.put (qm3 ι h) (by simp [Sv.nms]) e1).weak fun m hm => ?_
      rcases hm with hm | ⟨i,hi,hm⟩
      · exact .inl hm
      · exact .inr ⟨i,by rw [hL2 i (by rintro rfl;rw [hj] at hi;cases hi)];exact hi,hm⟩
    · rw [p2, hR, hm]
      simp [lk]

theorem Mid.last (ht:Trace c callF n ops T R) (hp:p≤(T 0).nx) (hL:∀i,i<ops.size→L i=true) (hL':Down ops L) (hc:Mid n w0 M0 p ι0 h0 ops T R L a w):Cnf n w0 M0 p ι0 h0 (T ops.size) a w:=by
  obtain⟨fr,mem,ι,h,hs,hh,hf,hm⟩:=hc
  have hx:=ht.nxs (Nat.zero_le ops.size) (Nat.le_refl _)
  refine⟨ι,h,((hs.congr (fr':=(T ops.size).fr) (mem':=(T ops.size).mem) (fun t=> ?_) fun m=> ?_).weak fun m hm=> ?_),hh,by omega⟩
  · rw [hf, ht.frs t _ (Nat.le_refl _)]
    exact(qgS _ fun i hi _=>hL i hi).symm
  · rw [hm, ht.mems m _ (Nat.le_refl _)]
    exact(qgS _ fun i hi _=>hL i hi).symm
  · rcases hm with hm | ⟨i, hi, _, hm⟩
    · omega
    · have := ht.nxs (show i + 1 ≤ ops.size from hL'.lt i hi) (Nat.le_refl _)
      omega

def left (ops:Array Oper) (listed:Array Bool):Nat:=((List.range ops.size).filter fun i=> !listed.getD i false).length

theorem qsx {listed:Array Bool} {j:Nat} (hz:listed.size=ops.size) (hj:j<ops.size) (hf:listed.getD j false=false):left ops (listed.setIfInBounds j true)<left ops listed:=by
  unfold left
  have hsub:((List.range ops.size).filter fun i=> !(listed.setIfInBounds j true).getD i false)=(((List.range ops.size).filter fun i=> !listed.getD i false).filter fun i=>i != j):=by
    rw [List.filter_filter]
    apply List.filter_congr
    intro i _
    by_cases hij:i=j
    · subst hij
      simp [hz,hj]
    · rw [getD_set_ne false (Ne.symm hij)]
      simp [hij]
  rw [hsub]
  have hmem:j∈(List.range ops.size).filter fun i=> !listed.getD i false:=by simp [List.mem_filter,hj];simpa using hf
  have:=List.length_filter_lt_length_iff_exists (p:=fun i=>i != j) (l:=(List.range ops.size).filter fun i=> !listed.getD i false)
  exact this.2 ⟨j,hmem,by simp⟩

theorem Trace.any (hT:qbB P c.T) (hC:qg3 P callF) (ht:Trace c callF n ops T R) (hp:p≤(T 0).nx) {Q:Exit→Act→World→Prop}
    (hQ:∀a' w',Cnf n w0 M0 p ι0 h0 (T ops.size) a' w'→Q .normal a' w'):
    ∀ (fuel : Nat) (listed : Array Bool) (a : Act) (w : World), listed.size = ops.size → left ops listed ≤ fuel → Down ops (fun i => listed.getD i false) →
      Mid n w0 M0 p ι0 h0 ops T R (fun i=>listed.getD i false) a w→wpAny P .any ops Q fuel listed a w:=by
  have all:∀(listed:Array Bool),listed.size=ops.size→Region.ready .any ops listed= []→∀i,i<ops.size→listed.getD i false=true:=by
    intro listed hz hr i
    induction i using Nat.strongRecOn with
    | ind i ih =>
      intro hi
      cases hq:listed.getD i false with
      | true=>rfl
      | false =>
        have:i∈Region.ready .any ops listed:=mem_ready.2 ⟨by
          have:i<listed.size:=by omega
          simp [this] at hq ⊢
          exact hq,ops[i],by simp [hi],fun e he hb=>ih _ (ht.less i ops[i] e (by simp [hi]) he hb) (Nat.lt_trans (ht.less i ops[i] e (by simp [hi]) he hb) hi)⟩
        rw [hr] at this
        cases this
  intro fuel
  induction fuel with
  | zero =>
    intro listed a w hz hl hd hc
    have hall:∀i,i<ops.size→listed.getD i false=true:=by
      intro i hi
      have h0:left ops listed=0:=by omega
      unfold left at h0
      rw [List.length_eq_zero_iff,List.filter_eq_nil_iff] at h0
      have:=h0 i (by simp [hi])
      simpa using this
    refine⟨?_,hQ _ _ (hc.last ht hp hall hd)⟩
    rw [List.eq_nil_iff_forall_not_mem]
    intro i hi
    obtain⟨h1,o',ho',_⟩:=mem_ready.1 hi
    have hlt:i<ops.size:=(Array.getElem?_eq_some_iff.1 ho').1
    have:=hall i hlt
    have hlt':i<listed.size:=by omega
    simp [hlt'] at this h1
    rw [this] at h1
    cases h1
  | succ fuel ih =>
    intro listed a w hz hl hd hc
    refine⟨fun hr=>hQ _ _ (hc.last ht hp (all listed hz hr) hd),fun j hj=> ?_⟩
    obtain⟨h1,oj,ho,he⟩:=mem_ready.1 hj
    have hlt:j<ops.size:=(Array.getElem?_eq_some_iff.1 ho).1
    have hjf:listed.getD j false=false:=by
      have hlt':j<listed.size:=by omega
      simp [hlt'] at h1 ⊢
      exact h1
    have hL1:(listed.setIfInBounds j true).getD j false=true:=by
      have hlt':j<listed.size:=by omega
      simp [hlt']
    have hL2:∀i,i≠j→(listed.setIfInBounds j true).getD i false=listed.getD i false:=fun i hi=>getD_set_ne false (Ne.symm hi)
    refine ht.next hT hC hd hp ho hjf he (L':=fun i=>(listed.setIfInBounds j true).getD i false) hL1 hL2 (fun a' w' hm=>ih _ a' w' (by simp [hz]) ?_ ?_ hm) hc
    · have := qsx hz hlt hjf
      omega
    · refine ⟨fun i hi => ?_, fun i hi o' ho' e hee hb => ?_⟩
      · by_cases hij : i = j
        · subst hij;exact hlt
        · rw [hL2 i hij] at hi;exact hd.lt i hi
      · by_cases hij : i = j
        · subst hij
          rw [ho] at ho'
          cases ho'
          exact getD_set_true (he e hee hb)
        · rw [hL2 i hij] at hi
          exact getD_set_true (hd.down i hi o' ho' e hee hb)

theorem qpC (hT:qbB P c.T) (hC:qg3 P callF) (hm:P.follows .mixedOrders=true) {σ σ':St} {is:List Info} {id:Nat} {Q:Exit→Act→World→Prop}
    (he:qcv c callF n ops.toList ops.toList σ []=some (σ',is)) (hd:qkP ops.toList is.reverse=true) (hc:Cnf n w0 M0 p ι0 h0 σ a w)
    (hQ:∀a' w',Cnf n w0 M0 p ι0 h0 σ' a' w'→Q .normal a' w'):(Code.region id ops true).wp P Q a w:=by
  obtain⟨T,R,t1,t2,t3,t4⟩:=qm7 _ _ _ _ _ he
  subst t1
  simp only [List.reverse_nil,List.nil_append] at t4
  rw [t4] at hd
  simp only [qkP,Bool.and_eq_true,qoJ,List.all_eq_true,List.mem_range] at hd
  obtain⟨⟨_,hpairs⟩,hless⟩:=hd
  have ht:Trace c callF n ops T R:=by
    refine⟨fun i o ho=>t3 i o (by simpa using ho),?_,?_⟩
    · intro i j o p ho hp hij hcl
      have hj:j<ops.size:=(Array.getElem?_eq_some_iff.1 hp).1
      have:=hpairs j (by simpa using hj) i hij
      have e1:ops.toList[i]? =some o:=by simpa using ho
      have e2:ops.toList[j]? =some p:=by simpa using hp
      rw [e1,e2] at this
      simp only [List.getElem?_map,List.getElem?_range (show i<ops.toList.length by simp;omega),List.getElem?_range (show j<ops.toList.length by simpa using hj),Option.map_some] at this
      rw [hcl] at this
      simp only [Bool.not_true,Bool.false_or] at this
      exact qpB _ _ _ this
    · intro j o e ho hee hb
      have hj:j<ops.size:=(Array.getElem?_eq_some_iff.1 ho).1
      have h1:=hless (o,j) (by rw [List.mem_zipIdx_iff_getElem?];simpa using ho)
      simp only [Array.all_eq_true_iff_forall_mem,Bool.or_eq_true,Bool.not_eq_true',decide_eq_true_eq] at h1
      rcases h1 e hee with h2 | h2
      · rw [hb] at h2;cases h2
      · exact h2
  obtain⟨ι,h,hs,hh,hp⟩:=hc
  refine wp_region_any hm (ht.any hT hC hp (fun a' w' hc'=>hQ a' w' (by rw [←t2];simpa using hc')) _ _ _ _ (by simp) ?_ ?_ ?_)
  · unfold left
    exact Nat.le_trans (List.length_filter_le _ _) (by simp)
  · refine ⟨fun i hi => ?_, fun i hi => ?_⟩
    all_goals
      simp only [Array.getD_eq_getD_getElem?,Array.getElem?_replicate] at hi
      split at hi<;>simp at hi
  · refine ⟨(T 0).fr, (T 0).mem, ι, h, hs.drew.weak fun m hm => .inl hm, hh, fun t => ?_, fun m => ?_⟩
    all_goals
      have key:∀ {β:Type} (f:Nat→Option β) (init:Option β) (k:Nat),qbD (fun i=>(Array.replicate ops.size false).getD i false) f init k=init:=by
        intro β f init k
        induction k with
        | zero=>rfl
        | succ k ih =>
          have:(Array.replicate ops.size false).getD k false=false:=by
            simp only [Array.getD_eq_getD_getElem?,Array.getElem?_replicate]
            split<;>rfl
          simp only [qbD,this]
          exact ih
      rw [key]
end
end

section
variable {P : Program} {n : Nat} {w0 : World} {M0 : Bool → Nat → Prop} {U : Nat → Prop} {ι ι' ι0 : Io} {h h1 h2 h0 : Hp} {fr fr' : List (Nat × Sv)} {mem mem' : Mem} {a : Act} {w w' : World} {p : Nat}
 {c:Cfg} {callF:FuncId→List Vl→List Blk→Option (List Vl×List Blk)} {o:Oper} {nx:Nat} {e:Eff}

theorem Sim.reword (hs:Sim n w0 M0 U ι h fr mem a w) {m:Nat} {B B':Blk} (he:qk mem m=some B) (hes:B'.es=B.es) (hty:B'.ty=B.ty) (hfz:B'.fz=B.fz) (hmp:B'.mp=B.mp)
  (hnil:B.els= []→B'.els= []) (hr:∀C,RBs ι h C B.es B.els→RBs ι h C B'.es B'.els) (hn:∀m'∈B'.nms,U m') (hp:B'.pr=true→∀e∈B'.els,∀x∈e,x.pr=true):
  Sim n w0 M0 U ι h fr (qb6 mem (m,some B')) a w:=by
 have hh:∀x B1,qk (qb6 mem (m,some B')) x=some B1→(x=m∧B1=B')∨(x≠m∧qk mem x=some B1):=by
  intro x B1 e
  rw [qbk] at e
  by_cases hx:m=x
  ·rw [if_pos hx] at e;exact .inl ⟨hx.symm,by simpa using e.symm⟩
  ·rw [if_neg hx] at e;exact .inr ⟨Ne.symm hx,e⟩
 have hh2:∀x B1,qk (qb6 mem (m,some B')) x=some B1→∃B2,qk mem x=some B2∧B1.fz=B2.fz:=by
  intro x B1 e
  rcases hh x B1 e with ⟨rfl,rfl⟩ | ⟨hx,e'⟩
  ·exact⟨B,he,hfz⟩
  ·exact⟨B1,e',rfl⟩
 refine { hs with hmem:= ?_,hinj:= ?_,hmut:= ?_,hfrz:= ?_,hown:= ?_,hown2:= ?_,hnb:= ?_,hpr:= ?_ }
 ·intro x B1 e
  rcases hh x B1 e with ⟨rfl,rfl⟩ | ⟨hx,e'⟩
  ·exact(hs.hmem x B he).re rfl (fun _ _=>rfl) (Sub.refl h) hes hty hmp hnil fun C q4=>by rw [←hes];exact hr C q4
  ·exact hs.hmem x B1 e'
 ·intro x y B1 B2 L1 L2 e1 e2
  obtain⟨B3,f1,_⟩:=hh2 x B1 e1
  obtain⟨B4,f2,_⟩:=hh2 y B2 e2
  exact hs.hinj x y B3 B4 L1 L2 f1 f2
 ·intro x B1 L e hz
  obtain⟨B2,f1,f2⟩:=hh2 x B1 e
  exact hs.hmut x B2 L f1 (by rw [←f2];exact hz)
 ·intro x B1 L e hz
  obtain⟨B2,f1,f2⟩:=hh2 x B1 e
  exact hs.hfrz x B2 L f1 (by rw [←f2];exact hz)
 ·intro x B1 L e hz
  obtain⟨B2,f1,f2⟩:=hh2 x B1 e
  exact hs.hown x B2 L f1 (by rw [←f2];exact hz)
 ·intro x B1 L e
  obtain⟨B2,f1,f2⟩:=hh2 x B1 e
  exact hs.hown2 x B2 L f1
 ·intro x B1 e
  rcases hh x B1 e with ⟨rfl,rfl⟩ | ⟨hx,e'⟩
  ·exact⟨(hs.hnb x B he).1,hn⟩
  ·exact hs.hnb x B1 e'
 ·intro x B1 e hq
  rcases hh x B1 e with ⟨rfl,rfl⟩ | ⟨hx,e'⟩
  ·exact hp hq
  ·exact hs.hpr x B1 e' hq

theorem qiC (hs:Sim n w0 M0 (fun m=>m<nx) ι h fr mem a w) {x:At} {v:Value} (hr:RA ι h x v) (hn:∀m∈x.nm,m<nx):
  nx≤(qdl nx x).2.2∧Sim n w0 M0 (fun m=>m<(qdl nx x).2.2) ι h fr (qB mem (qdl nx x).2.1) a w∧RA ι h (qdl nx x).1 v∧∀m∈(qdl nx x).1.nm,m<(qdl nx x).2.2:=by
 have same:(qdl nx x)=(x,[],nx)→_:=fun(e:qdl nx x=(x,[],nx))=>(show nx≤(qdl nx x).2.2∧Sim n w0 M0 (fun m=>m<(qdl nx x).2.2) ι h fr (qB mem (qdl nx x).2.1) a w∧RA ι h (qdl nx x).1 v∧∀m∈(qdl nx x).1.nm,m<(qdl nx x).2.2 by
  rw [e];exact⟨Nat.le_refl _,hs,hr,hn⟩)
 cases x with
 | snil es ty=>
  simp only [qdl,qB]
  have h1:=hs.nameNil nx (by simp) { els:= [],es:=es,ty:=ty,pr:=true,fz:=false,ar:=true } rfl
  refine⟨by omega,h1.weak fun m hm=>by rcases hm with hm | hm<;>omega,?_,by simp [At.nm]⟩
  have hr:RP h _ _:=hr
  cases hr
  refine .inr ⟨?_,rfl,rfl,rfl⟩
  cases hL:ι nx with
  | none=>rfl
  | some L=>have:=(hs.hdom nx L hL).1;simp at this
 | _=>exact same rfl

theorem qhk:∀ {cs:List At} {nx:Nat} {mem:Mem} {us:List Value},Sim n w0 M0 (fun m=>m<nx) ι h fr mem a w→RL ι h cs us→(∀x∈cs,∀m∈x.nm,m<nx)→
  nx≤(qeG nx cs).2.2∧Sim n w0 M0 (fun m=>m<(qeG nx cs).2.2) ι h fr (qB mem (qeG nx cs).2.1) a w∧RL ι h (qeG nx cs).1 us∧∀x∈(qeG nx cs).1,∀m∈x.nm,m<(qeG nx cs).2.2:=by
 intro cs
 induction cs with
 | nil=>intro nx mem us hs hr hn;exact⟨Nat.le_refl _,hs,hr,hn⟩
 | cons x r ih=>
  intro nx mem us hs hr hn
  cases us with
  | nil=>exact absurd hr.1 (by simp)
  | cons u us=>
   have hx:RA ι h x u:=by obtain⟨u',e1,e2⟩:=hr.2 0 x rfl;simp at e1;subst e1;exact e2
   have hr':RL ι h r us:=⟨by simpa using hr.1,fun j y e=>by simpa using hr.2 (j+1) y (by simpa using e)⟩
   obtain⟨a1,a2,a3,a4⟩:=qiC hs hx (hn x (List.mem_cons_self ..))
   obtain⟨b1,b2,b3,b4⟩:=ih a2 hr' fun y hy m hm=>Nat.lt_of_lt_of_le (hn y (List.mem_cons_of_mem _ hy) m hm) a1
   simp only [qeG]
   refine⟨Nat.le_trans a1 b1,by rw [qcO];exact b2,RL.cons a3 b3,fun y hy m hm=> ?_⟩
   rcases List.mem_cons.1 hy with rfl | hy
   ·exact Nat.lt_of_lt_of_le (a4 m hm) b1
   ·exact b4 y hy m hm

def qjK (ι:Io) (h:Hp) (a:Act) (k:Nat) (frs:List (Nat×Sv)):Prop:=∀p∈frs,∃x u,p.2= .v x∧a.tmps[p.1]? =some u∧RV ι h x u∧∀m∈qd [x],m<k
theorem qjK.mono {k k':Nat} {frs:List (Nat×Sv)} (hs:qjK ι h a k frs) (hk:k≤k'):qjK ι h a k' frs:=fun q hq=>by
 obtain⟨x,u,q1,q2,q3,q4⟩:=hs q hq
 exact⟨x,u,q1,q2,q3,fun m hm=>Nat.lt_of_lt_of_le (q4 m hm) hk⟩

theorem qop {σ:St} (hs:Sim n w0 M0 (fun m=>m<σ.nx) ι h σ.fr σ.mem a w):∀ {ks:List Kp} {q:List (Nat×Sv)×Mem×Nat},qgl σ ks=some q→
  σ.nx≤q.2.2∧Sim n w0 M0 (fun m=>m<q.2.2) ι h σ.fr (qB σ.mem q.2.1) a w∧qjK ι h a q.2.2 q.1:=by
 intro ks
 induction ks with
 | nil=>intro q e;cases e;exact⟨Nat.le_refl _,hs,fun p hp=>by cases hp⟩
 | cons k r ih=>
  intro q e
  cases k with
  | s t=>
   simp only [qgl,Option.bind_eq_some_iff] at e
   obtain⟨q0,e0,e⟩:=e
   obtain⟨i1,i2,i3⟩:=ih e0
   split at e
   ·rename_i x hl
    cases e
    obtain⟨u,f1,f2⟩:=i2.hfr t _ hl
    obtain⟨a1,a2,a3,a4⟩:=qiC i2 (x:=x) (v:=u) f2 fun m hm=>i2.hnm t _ hl m (by simpa [Sv.nms,qd,Vl.cells] using hm)
    refine⟨Nat.le_trans i1 a1,by simp only;rw [qcO];exact a2,fun q hq=> ?_⟩
    rcases List.mem_cons.1 hq with rfl | hq
    ·exact⟨_,u,rfl,f1,a3,fun m hm=>a4 m (by simpa [qd,Vl.cells] using hm)⟩
    ·exact i3.mono a1 q hq
   ·rename_i cs hl
    cases e
    obtain⟨u,f1,f2⟩:=i2.hfr t _ hl
    obtain⟨A,rfl,f3⟩:RV ι h (.g cs) u:=f2
    obtain⟨a1,a2,a3,a4⟩:=qhk i2 f3 fun x hx m hm=>i2.hnm t _ hl m (by simp only [Sv.nms,qd,Vl.cells,List.flatMap_cons,List.flatMap_nil,List.append_nil,List.mem_flatMap];exact⟨x,hx,hm⟩)
    refine⟨Nat.le_trans i1 a1,by simp only;rw [qcO];exact a2,fun q hq=> ?_⟩
    rcases List.mem_cons.1 hq with rfl | hq
    ·refine⟨_,_,rfl,f1,⟨A,rfl,a3⟩,fun m hm=> ?_⟩
     simp only [qd,Vl.cells,List.flatMap_cons,List.flatMap_nil,List.append_nil,List.mem_flatMap] at hm
     obtain⟨x,hx,hm⟩:=hm
     exact a4 x hx m hm
    ·exact i3.mono a1 q hq
   ·cases e
  | b t=>
   simp only [qgl,Option.bind_eq_some_iff] at e
   obtain⟨q0,e0,e⟩:=e
   obtain⟨i1,i2,i3⟩:=ih e0
   split at e
   ·rename_i m o hl
    simp only [Option.bind_eq_some_iff] at e
    obtain⟨B,e1,e⟩:=e
    split at e
    ·rename_i el hel
     cases e
     obtain⟨u,f1,f2⟩:=i2.hfr t _ hl
     have hL0:∃L,ι m=some L:=by obtain⟨L,hL,_⟩:RA ι h (.ptr m 0 o) u:=f2;exact⟨L,hL⟩
     obtain⟨L,hL⟩:=hL0
     obtain⟨C,c1,c2,c3,c4⟩:=(i2.hmem m B e1).cells hL fun h0 _ _=>by rw [h0] at hel;cases hel
     -- the cells' values
     have hcells:∀C,RBs ι h C B.es B.els→∃us:List Value,RL ι h el us∧∀j u,us[j]? =some u→j<el.length→C[0*B.es+j]? =some u:=by
      intro C hC
      obtain⟨k1,k2⟩:=hC 0 el (by rw [hel];rfl)
      refine⟨(List.range el.length).map fun j=>(C[0*B.es+j]?).getD undef,⟨by simp,fun j x hx=> ?_⟩,fun j u hu hj=> ?_⟩
      ·obtain⟨u,g1,g2⟩:=k2 j x hx
       have hj:j<el.length:=by
        rcases Nat.lt_or_ge j el.length with h' | h'
        ·exact h'
        ·rw [List.getElem?_eq_none (by omega)] at hx;cases hx
       exact⟨u,by simp [hj];simpa using congrArg (·.getD undef) g1,g2⟩
      ·simp [hj] at hu
       obtain⟨u',g1,g2⟩:=k2 j el[j] (List.getElem?_eq_getElem hj)
       rw [g1]
       simp at g1
       rw [g1] at hu
       simpa using hu
     obtain⟨us,r1,r2⟩:=hcells C c4
     have hnm:∀x∈el,∀m'∈x.nm,m'<q0.2.2:=fun x hx m' hm'=>(i2.hnb m B e1).2 m' (by
      simp only [Blk.nms,List.mem_flatMap];exact⟨el,by rw [hel];simp,x,hx,hm'⟩)
     obtain⟨a1,a2,a3,a4⟩:=qhk i2 r1 hnm
     have hkeep:∀(cs:List At) (k:Nat) (mem:Mem),m<k→qk (qB mem (qeG k cs).2.1) m=qk mem m:=by
      intro cs
      induction cs with
      | nil=>intro k mem _;rfl
      | cons x r ih=>
       intro k mem hk
       simp only [qeG,qcO]
       have h1:k≤(qdl k x).2.2:=by cases x<;>simp [qdl]
       rw [ih _ _ (Nat.lt_of_lt_of_le hk h1)]
       cases x<;>simp only [qdl,qB]
       rw [qbk,if_neg (by omega)]
     have hmm:m<q0.2.2:=(i2.hnb m B e1).1
     have e1':=(hkeep el q0.2.2 (qB σ.mem q0.2.1) hmm).trans e1
     have a5:=a2.reword (B':={ B with els:= [(qeG q0.2.2 el).1],pr:=(qeG q0.2.2 el).1.all At.pr }) e1' rfl rfl rfl rfl (by rw [hel];simp)
      (fun C hC=>by
       obtain⟨us,r1,r2⟩:=hcells C hC
       obtain⟨_,_,b3,_⟩:=qhk i2 r1 hnm
       have hlen:=(hC 0 el (by rw [hel];rfl)).1
       intro i e' he'
       cases i with
       | succ i=>simp at he'
       | zero=>
        simp at he'
        subst he'
        refine⟨by rw [b3.1,←r1.1,hlen],fun j x hx=> ?_⟩
        obtain⟨u,g1,g2⟩:=b3.2 j x hx
        have hj:j<el.length:=by
         rw [r1.1]
         exact(List.getElem?_eq_some_iff.1 g1).1
        exact⟨u,r2 j u g1 hj,g2⟩)
      (fun m' hm'=>by
       simp only [Blk.nms,List.flatMap_cons,List.flatMap_nil,List.append_nil,List.mem_flatMap] at hm'
       obtain⟨x,hx,hm'⟩:=hm'
       exact a4 x hx m' hm')
      (fun hq e he x hx=>by
       simp only [List.mem_singleton] at he
       subst he
       exact List.all_eq_true.1 hq x hx)
     refine⟨Nat.le_trans i1 a1,?_,fun q hq=> ?_⟩
     ·simp only
      rw [qcO,qcO]
      exact a5
     ·rcases List.mem_cons.1 hq with rfl | hq
      ·exact⟨_,u,rfl,f1,f2,fun m' hm'=>by simp [qd,Vl.cells,At.nm] at hm';subst hm';exact Nat.lt_of_lt_of_le hmm a1⟩
      ·exact i3.mono a1 q hq
    ·cases e
   ·cases e

theorem qpD {ρ:Nat→Option Nat} {k k':Nat} {ι':Io}:∀ {frs fr':List (Nat×Sv)},qjK ι h a k frs→qkh ρ frs=some fr'→(∀m m',ρ m=some m'→ι' m'=ι m∧m'<k')→
  ∀t v,lk fr' t=some v→∃u,a.tmps[t]? =some u∧RS ι' h v u∧∀m∈v.nms,m<k':=by
 intro frs
 induction frs with
 | nil=>intro fr' _ e _ t v hl;cases e;cases hl
 | cons q r ih=>
  intro fr' hs e hρ t v hl
  obtain⟨t0,v0⟩:=q
  obtain⟨x,u,q1,q2,q3,q4⟩:=hs _ (List.mem_cons_self ..)
  simp only at q1 q2
  subst q1
  simp only [qkh,Option.bind_eq_some_iff] at e
  obtain⟨y,e1,s,e2,e⟩:=e
  cases e
  rw [qd5] at hl
  split at hl
  ·rename_i ht
   cases hl
   subst ht
   refine⟨u,q2,q3.ren e1 fun m m' hq=>(hρ m m' hq).1,fun m hm=> ?_⟩
   obtain⟨m0,_,hq⟩:=qoQ e1 m hm
   exact(hρ m0 m hq).2
  ·exact ih (fun q hq=>hs q (List.mem_cons_of_mem _ hq)) e2 hρ t v hl

theorem qpE (bs:List Blk) (m:Nat):qk (qdT (List.range bs.length) bs) m=bs[m]? :=by
 have key:∀(bs:List Blk) (k:Nat),qk (qdT (List.range' k bs.length) bs) m=if k≤m then bs[m-k]? else none:=by
  intro bs
  induction bs with
  | nil=>intro k;simp [qdT,qk,lk]
  | cons b bs ih=>
   intro k
   simp only [List.length_cons,List.range'_succ,qdT]
   unfold qk
   rw [qd5]
   by_cases hk:k=m
   ·subst hk;simp
   ·rw [if_neg hk]
    have:=ih (k+1)
    unfold qk at this
    rw [this]
    by_cases h2:k≤m
    ·rw [if_pos (by omega),if_pos h2]
     have:m-k=(m-(k+1))+1:=by omega
     rw [this]
     rfl
    ·rw [if_neg (by omega),if_neg h2]
 have:=key bs 0
 rw [List.range_eq_range']
 rw [this]
 simp

theorem Mm.sim {bs:List Blk} (hm:Mm ι h w bs) (hι:∀i L,ι i=some L→i<bs.length) (hsize:a.tmps.size=n) (hd:a.defers= [])
  (hf:∀t v,lk fr t=some v→∃u,a.tmps[t]? =some u∧RS ι h v u∧∀m∈v.nms,m<bs.length)
  (hown:∀(i:Nat) (B:Blk) (L:Loc),bs[i]? =some B→B.fz=false→ι i=some L→w0.heap.size≤L.b∨M0 false L.b)
  (hown2:∀(i:Nat) (B:Blk) (L:Loc),bs[i]? =some B→ι i=some L→w0.heap.size≤L.b∨M0 true L.b)
  (hframe:∀b,b<w0.heap.size→¬M0 false b→w.heap[b]? =w0.heap[b]?) (hgrow:w0.heap.size≤w.heap.size) (hos:w.os=w0.os) (htape:w.tape=w0.tape) (hout:w.output=w0.output)
  (hmem:∀m,qk mem m=bs[m]?):Sim n w0 M0 (fun m=>m<bs.length) ι h fr mem a w:=by
 have hlt:∀ {i:Nat} {B:Blk},bs[i]? =some B→i<bs.length:=fun {i B} e=>(List.getElem?_eq_some_iff.1 e).1
 refine { hsize:=hsize,hdefers:=hd,hfr:=fun t v e=>let ⟨u,q1,q2,_⟩:=hf t v e;⟨u,q1,q2⟩,hmem:= ?_,hinj:= ?_,hsub:=hm.sub,hmut:= ?_,hfrz:= ?_,hown:= ?_,hown2:= ?_,hframe:=hframe,hgrow:=hgrow,hos:=hos,htape:=htape,houtput:=hout,hnm:=fun t v e=>let ⟨_,_,_,q3⟩:=hf t v e;q3,hnb:= ?_,hdom:= ?_,hpr:= ?_ }
 ·intro m B e;rw [hmem] at e;exact hm.rb m B e
 ·intro m m' B B' L L' e e' l l' hq;rw [hmem] at e e';exact hm.inj m m' B B' L L' e e' l l' hq
 ·intro m B L e hz l;rw [hmem] at e;exact hm.mut' m B L e hz l
 ·intro m B L e hz l;rw [hmem] at e;exact hm.frz m B L e hz l
 ·intro m B L e hz l;rw [hmem] at e;exact hown m B L e hz l
 ·intro m B L e l;rw [hmem] at e;exact hown2 m B L e l
 ·intro m B e;rw [hmem] at e;exact⟨hlt e,hm.nm m B e⟩
 ·intro m L l
  have:=hι m L l
  exact⟨this,hm.dom m _ L (List.getElem?_eq_getElem this) l⟩
 ·intro m B e;rw [hmem] at e;exact hm.pr m B e

theorem qoq {ks:List Kp} {σ σ':St} (e:qgR p ks σ=some σ') (hc:Cnf n w0 M0 p ι0 h0 σ a w):Cnf n w0 M0 p ι0 h0 σ' a w:=by
 obtain⟨ι,h,hs,hh,hp⟩:=hc
 unfold qgR at e
 simp only [Option.bind_eq_some_iff] at e
 obtain⟨q,e1,fr',e2,bs,e3,e⟩:=e
 split at e
 ·rename_i hNp
  cases e
  obtain⟨i1,i2,i3⟩:=qop hs e1
  generalize hN:clo (qdK (qB σ.mem q.2.1)) 64 (List.range p++qd (q.1.filterMap fun s=>match s.2 with | .v x=>some x | _=>none)) []=N at*
  have hNd:N.Nodup:=by rw [←hN];exact qje _ _ _ _ List.nodup_nil
  have hpN:p≤N.length:=by
   have:=congrArg List.length hNp
   simp at this
   omega
  obtain⟨hmm,hbl,hbf⟩:=qiy i2 i2 (Fzn.refl _) (Sub.refl h) hNd (cv:=true) (fun hq=>by cases hq) (bs:=bs) (by simpa using e3)
  have hlt:∀ {i m:Nat},N[i]? =some m→i<N.length:=fun {i m} e=>(List.getElem?_eq_some_iff.1 e).1
  refine⟨fun j=>(N[j]?).bind ι,h,?_,⟨hh.sub,fun i hi=> ?_,hh.view⟩,hpN⟩
  ·simp only
   rw [←hbl]
   refine hmm.sim ?_ i2.hsize i2.hdefers ?_ ?_ ?_ i2.hframe i2.hgrow i2.hos i2.htape i2.houtput (qpE bs)
   ·intro i L hL
    rw [hbl]
    simp only [Option.bind_eq_some_iff] at hL
    obtain⟨m,h1,_⟩:=hL
    exact hlt h1
   ·refine qpD i3 e2 fun m m' hq=> ?_
    have:=qfW hq
    refine⟨by simp [this],by rw [hbl];exact hlt this⟩
   ·intro i B L hB hz hL
    obtain⟨m,B1,k1,k2,k3⟩:=hbf i B hB
    simp only [k1,Option.bind_some] at hL
    exact i2.hown m B1 L k2 (by rw [←k3];exact hz) hL
   ·intro i B L hB hL
    obtain⟨m,B1,k1,k2,k3⟩:=hbf i B hB
    simp only [k1,Option.bind_some] at hL
    exact i2.hown2 m B1 L k2 hL
  ·have:N[i]? =some i:=by
    have h1:(N.take p)[i]? =(List.range p)[i]? :=by rw [hNp]
    rw [List.getElem?_take,if_pos hi,List.getElem?_range hi] at h1
    exact h1
   simp only [this,Option.bind_some]
   exact hh.same i hi
 ·cases e

def qm8:Out→Exit
 | .norm _=> .normal
 | .exit i _=> .exit i
 | .ret _=> .ret
def qBc:Out→St
 | .norm σ=>σ
 | .exit _ σ=>σ
 | .ret σ=>σ

theorem qoR {F:St→Option Out} {r:Option Out} {out:Out} (e:qhx F r=some out):(∃ σ,r=some (.norm σ)∧F σ=some out)∨(r=some out∧qm8 out≠ .normal):=by
 cases r with
 | none=>cases e
 | some o=>
  cases o with
  | norm σ=>exact .inl ⟨σ,rfl,e⟩
  | exit i σ=>cases e;exact .inr ⟨rfl,by simp [qm8]⟩
  | ret σ=>cases e;exact .inr ⟨rfl,by simp [qm8]⟩

theorem qkW {K:Act→World→Prop} {Q:Exit→Act→World→Prop} {e:Exit} (he:e≠ .normal) (hq:Q e a w):Exit.then K Q e a w:=by
 cases e<;>first | exact hq | exact absurd rfl he

theorem qpF (hT:qbB P c.T) (hC:qg3 P callF) (hmo:P.follows .mixedOrders=true) {kp:Nat→List Kp} {k:Nat}:
  ∀(code:Code) (b:Nat) (σ:St) (out:Out) (Q:Exit→Act→World→Prop) (a:Act) (w:World),qba c callF kp n k p b code σ=some out→Cnf n w0 M0 p ι0 h0 σ a w→
   (∀a' w',Cnf n w0 M0 p ι0 h0 (qBc out) a' w'→Q (qm8 out) a' w')→code.wp P Q a w:=by
 intro code
 induction code with
 | skip=>intro b σ out Q a w e hc hQ;simp only [qba] at e;cases e;exact wp_skip (hQ _ _ hc)
 | region id ops draw=>
  intro b σ out Q a w e hc hQ
  simp only [qba] at e
  cases hr:qcv c callF n ops.toList ops.toList σ [] with
  | none=>rw [hr] at e;cases e
  | some r=>
   obtain⟨σ',is⟩:=r
   rw [hr] at e
   simp only [qsi] at e
   cases draw with
   | false=>
    simp only [Bool.false_and] at e
    cases e
    refine wp_region ?_
    have:=qm4 hT hC (ops:=ops) (Q:=Q) ops.toList 0 σ σ' [] is a w rfl hc hr hQ
    rw [List.range_eq_range']
    simpa using this
   | true=>
    simp only [Bool.true_and] at e
    split at e
    ·cases e
    ·rename_i hd
     cases e
     exact qpC hT hC hmo hr (by simpa using hd) hc hQ
 | seq x y ihx ihy=>
  intro b σ out Q a w e hc hQ
  simp only [qba] at e
  refine wp_seq ?_
  rcases qoR e with ⟨σ1,h1,h2⟩ | ⟨h1,h2⟩
  ·exact ihx b σ _ _ a w h1 hc fun a' w' hc'=>ihy b σ1 out Q a' w' h2 hc' hQ
  ·exact ihx b σ _ _ a w h1 hc fun a' w' hc'=>qkW h2 (hQ a' w' hc')
 | cond o x y ihx ihy=>
  intro b σ out Q a w e hc hQ
  simp only [qba] at e
  cases ht:evB σ.fr o with
  | none=>rw [ht] at e;cases e
  | some t=>
   rw [ht] at e
   obtain⟨ι,h,hs,hh,hp⟩:=hc
   refine wp_cond (hs.evB ht) ?_
   cases t with
   | true=>exact ihx b σ out Q a w e ⟨ι,h,hs,hh,hp⟩ hQ
   | false=>exact ihy b σ out Q a w e ⟨ι,h,hs,hh,hp⟩ hQ
 | block id x ih=>
  intro b σ out Q a w e hc hQ
  simp only [qba] at e
  refine wp_block ?_
  cases hr:qba c callF kp n k p id x σ with
  | none=>rw [hr] at e;cases e
  | some o=>
   rw [hr] at e
   refine ih id σ o _ a w hr hc fun a' w' hc'=> ?_
   cases o with
   | norm σ'=>cases e;exact hQ a' w' hc'
   | ret σ'=>cases e;exact hQ a' w' hc'
   | exit i σ'=>
    simp only [qlu] at e
    simp only [qm8,Exit.inBlock]
    split at e
    ·cases e;rw [if_pos ‹_›];exact hQ a' w' hc'
    ·cases e;rw [if_neg ‹_›];exact hQ a' w' hc'
 | loop x ih=>
  intro b σ out Q a w e hc hQ
  simp only [qba] at e
  refine wp_loop_rounds k ?_
  suffices h:∀(k':Nat) (σ:St) (a:Act) (w:World),qhR (qgR p (kp b)) (qba c callF kp n k p b x) k' σ=some out→Cnf n w0 M0 p ι0 h0 σ a w→Code.rounds P x Q k' a w from h k σ a w e hc
  intro k'
  induction k' with
  | zero=>intro σ a w e;cases e
  | succ k' ih2=>
   intro σ a w e hc
   simp only [qhR] at e
   rw [rounds_succ]
   cases hh:qgR p (kp b) σ with
   | none=>rw [hh] at e;cases e
   | some σ1=>
    rw [hh] at e
    simp only [hdK] at e
    have hc1:=qoq hh hc
    rcases qoR e with ⟨σ2,h1,h2⟩ | ⟨h1,h2⟩
    ·exact ih b σ1 _ _ a w h1 hc1 fun a' w' hc'=>ih2 σ2 a' w' h2 hc'
    ·exact ih b σ1 _ _ a w h1 hc1 fun a' w' hc'=>qkW h2 (hQ a' w' hc')
 | exit id=>intro b σ out Q a w e hc hQ;simp only [qba] at e;cases e;exact wp_exit (hQ _ _ hc)
 | ret=>intro b σ out Q a w e hc hQ;simp only [qba] at e;cases e;exact wp_ret (hQ _ _ hc)
 | _=>intro b σ out Q a w e hc hQ;simp only [qba] at e;cases e

end

section
variable {P : Program} {n : Nat} {w0 : World} {M0 : Bool → Nat → Prop} {U : Nat → Prop} {ι ι' ι0 : Io} {h h1 h2 h0 : Hp} {fr fr' : List (Nat × Sv)} {mem mem' : Mem} {a : Act} {w w' : World} {p : Nat}
 {c:Cfg} {callF:FuncId→List Vl→List Blk→Option (List Vl×List Blk)} {o:Oper} {nx:Nat} {e:Eff}

def qm9 (tmps:Array Value):ResultVar→Sem Value
 | .tmp t=>pure (tmps.getD t undef)
 | .cell a t=>do loadVar t (←asAddr (tmps.getD a undef))

theorem qor (hT:qbB P c.T) {σ:St} (hs:Sim n w0 M0 U ι h σ.fr σ.mem a w) {r:ResultVar} {v:Vl} (e:qhS c σ r=some v):
  ∃u,(qm9 a.tmps r).run P w= .ok u w∧RV ι h v u∧∀m∈qd [v],U m:=by
 cases r with
 | tmp t=>
  obtain⟨q1,q2⟩:=hs.evV e
  exact⟨_,rfl,q1,q2⟩
 | cell x t=>
  simp only [qhS,Option.bind_eq_some_iff] at e
  obtain⟨ti,e1,y,e2,e⟩:=e
  obtain⟨hr,hn⟩:=hs.evA e2
  split at e
  ·rename_i m i o'
   simp only [Option.bind_eq_some_iff] at e
   obtain⟨B,e3,el,e4,e5⟩:=e
   obtain⟨L,hL,hx⟩:=hr
   obtain⟨C,h1,h2,h3,h4⟩:=(hs.hmem m B e3).cells hL fun h0 _ _=>by rw [h0] at e4;simp at e4
   obtain⟨u,r1,r2,r3⟩:=qiu (hT t ti e1) e5 (off:=i*B.es) h1 (h4 i el e4).2
   refine⟨u,?_,r2,?_⟩
   ·have hx':a.tmps.getD x undef= .pointer (some ⟨L.b,i*L.es+o',none⟩):=hx
    simp [qm9,hx',asAddr,h3,r1]
   ·intro m' hm'
    obtain⟨z,hz,hm'⟩:=r3 m' hm'
    refine(hs.hnb m B e3).2 m' ?_
    simp only [Blk.nms,List.mem_flatMap]
    exact⟨el,List.mem_of_getElem? e4,z,hz,hm'⟩
  ·cases e

theorem qmk (hT:qbB P c.T) {fn:Func} {σ:St} (hs:Sim n w0 M0 U ι h σ.fr σ.mem a w) {rs:List Vl} (e:qo (qhS c σ) fn.results.toList=some rs):
  ∃us:Array Value,(results fn a.tmps).run P w= .ok (qfQ us) w∧RVs ι h rs us.toList∧∀m∈qd rs,U m:=by
 have key:∀(l:List ResultVar) (rs:List Vl),qo (qhS c σ) l=some rs→∃us:List Value,(l.mapM (qm9 a.tmps)).run P w= .ok us w∧RVs ι h rs us∧∀m∈qd rs,U m:=by
  intro l
  induction l with
  | nil=>intro rs e;cases e;exact⟨[],by simp,⟨rfl,by simp⟩,by simp [qd]⟩
  | cons r l ih=>
   intro rs e
   simp only [qo,Option.bind_eq_some_iff] at e
   obtain⟨v,e1,vs,e2,e⟩:=e
   cases e
   obtain⟨u,q1,q2,q3⟩:=qor hT hs e1
   obtain⟨us,r1,r2,r3⟩:=ih vs e2
   refine⟨u::us,by simp [List.mapM_cons,q1,r1],⟨by simp [r2.1],fun j x hj=> ?_⟩,fun m hm=> ?_⟩
   ·cases j with
    | zero=>simp at hj;subst hj;exact⟨u,rfl,q2⟩
    | succ j=>simp at hj;simpa using r2.2 j x hj
   ·obtain⟨x,hx,hm2⟩:=qaW.1 hm
    rcases List.mem_cons.1 hx with rfl | hx
    ·exact q3 m hm2
    ·exact r3 m (qaW.2 ⟨x,hx,hm2⟩)
 obtain⟨us,k1,k2,k3⟩:=key _ _ e
 refine⟨us.toArray,?_,by simpa using k2,k3⟩
 have:results fn a.tmps=(do let vs ←fn.results.mapM (qm9 a.tmps);pure (qfQ vs)):=by
  unfold results qm9 qfQ
  congr 1
 rw [this,Array.mapM_eq_mapM_toList]
 simp [k1]

theorem qos:∀ {rs:List Vl} {nx:Nat} {mem:Mem} {us:List Value},Sim n w0 M0 (fun m=>m<nx) ι h fr mem a w→RVs ι h rs us→(∀m∈qd rs,m<nx)→
  nx≤(qbY nx rs).2.2∧Sim n w0 M0 (fun m=>m<(qbY nx rs).2.2) ι h fr (qB mem (qbY nx rs).2.1) a w∧RVs ι h (qbY nx rs).1 us∧∀m∈qd (qbY nx rs).1,m<(qbY nx rs).2.2:=by
 intro rs
 induction rs with
 | nil=>intro nx mem us hs hr hn;exact⟨Nat.le_refl _,hs,hr,hn⟩
 | cons x r ih=>
  intro nx mem us hs hr hn
  cases us with
  | nil=>exact absurd hr.1 (by simp)
  | cons u us=>
   have hx:RV ι h x u:=by obtain⟨u',e1,e2⟩:=hr.2 0 x rfl;simp at e1;subst e1;exact e2
   have hr':RVs ι h r us:=⟨by simpa using hr.1,fun j y e=>by simpa using hr.2 (j+1) y (by simpa using e)⟩
   have hn1:∀m∈qd [x],m<nx:=fun m hm=>hn m (qaW.2 ⟨x,List.mem_cons_self ..,hm⟩)
   have hn2:∀m∈qd r,m<nx:=fun m hm=>by
    obtain⟨y,hy,hm⟩:=qaW.1 hm
    exact hn m (qaW.2 ⟨y,List.mem_cons_of_mem _ hy,hm⟩)
   have fin:∀(y:Vl) (k:Nat) (u1:Mem),nx≤k→Sim n w0 M0 (fun m=>m<k) ι h fr (qB mem u1) a w→RV ι h y u→(∀m∈qd [y],m<k)→qbY nx (x::r)=(y::(qbY k r).1,u1++(qbY k r).2.1,(qbY k r).2.2)→
     nx≤(qbY nx (x::r)).2.2∧Sim n w0 M0 (fun m=>m<(qbY nx (x::r)).2.2) ι h fr (qB mem (qbY nx (x::r)).2.1) a w∧RVs ι h (qbY nx (x::r)).1 (u::us)∧∀m∈qd (qbY nx (x::r)).1,m<(qbY nx (x::r)).2.2:=by
    intro y k u1 hk hs1 hy hny eq
    obtain⟨b1,b2,b3,b4⟩:=ih hs1 hr' fun m hm=>Nat.lt_of_lt_of_le (hn2 m hm) hk
    rw [eq]
    refine⟨Nat.le_trans hk b1,by simp only;rw [qcO];exact b2,⟨by simp [b3.1],fun j z e=> ?_⟩,fun m hm=> ?_⟩
    ·cases j with
     | zero=>simp at e;subst e;exact⟨u,rfl,hy⟩
     | succ j=>simp at e;simpa using b3.2 j z e
    ·obtain⟨z,hz,hm2⟩:=qaW.1 hm
     rcases List.mem_cons.1 hz with rfl | hz
     ·exact Nat.lt_of_lt_of_le (hny m hm2) b1
     ·exact b4 m (qaW.2 ⟨z,hz,hm2⟩)
   cases x with
   | a x=>
    obtain⟨a1,a2,a3,a4⟩:=qiC hs (x:=x) hx fun m hm=>hn1 m (by simpa [qd,Vl.cells] using hm)
    exact fin (.a (qdl nx x).1) _ _ a1 a2 a3 (fun m hm=>a4 m (by simpa [qd,Vl.cells] using hm)) rfl
   | g cs=>
    obtain⟨A,rfl,f3⟩:=hx
    obtain⟨a1,a2,a3,a4⟩:=qhk hs f3 fun x hx m hm=>hn1 m (by simp only [qd,Vl.cells,List.flatMap_cons,List.flatMap_nil,List.append_nil,List.mem_flatMap];exact⟨x,hx,hm⟩)
    refine fin (.g (qeG nx cs).1) _ _ a1 a2 ⟨A,rfl,a3⟩ (fun m hm=> ?_) rfl
    simp only [qd,Vl.cells,List.flatMap_cons,List.flatMap_nil,List.append_nil,List.mem_flatMap] at hm
    obtain⟨x,hx,hm⟩:=hm
    exact a4 x hx m hm

def Handed (ι:Io) (blks:List Blk):Bool→Nat→Prop
 | false=>qh5 ι blks
 | true=>fun b=>∃(j:Nat) (B0:Blk) (L0:Loc),blks[j]? =some B0∧ι j=some L0∧L0.b=b

theorem qjk (hT:qbB P c.T) {f:FuncId} {fn:Func} {blks:List Blk} {σ:St} {rs:List Vl} {bs:List Blk} (e:qik c f fn blks.length σ=some (rs,bs))
  (hι:∀i,i<blks.length→ι0 i=ι i) (hc:Cnf n w0 (Handed ι blks) blks.length ι0 h0 σ a w):
  a.defers= []∧∃us:Array Value,(results fn a.tmps).run P w= .ok (qfQ us) w∧∃ ι' h',Post ι h0 w0 blks rs bs us.toList w ι' h':=by
 obtain⟨ι1,h,hs,hh,hp⟩:=hc
 unfold qik at e
 simp only [Option.bind_eq_some_iff] at e
 obtain⟨rs0,e1,rs1,e2,rs2,e3,bs2,e4,e⟩:=e
 obtain⟨us,hres,hrv,hrn⟩:=qmk hT hs e1
 refine⟨hs.hdefers,us,hres,?_⟩
 generalize hN:clo (fun m=>if c.mutA f=true then qdK (qB σ.mem (if c.ownR f=true then qbY σ.nx rs0 else(rs0,[],σ.nx)).2.1) m else qgj (qB σ.mem (if c.ownR f=true then qbY σ.nx rs0 else(rs0,[],σ.nx)).2.1) m) 64 (List.range blks.length++qd rs1) []=N at*
 have hNd:N.Nodup:=by rw [←hN];exact qje _ _ _ _ List.nodup_nil
 clear hN
 split at e
 ·rename_i hNp
  cases e
  generalize hq:(if c.ownR f=true then qbY σ.nx rs0 else(rs0,[],σ.nx))=q at*
  -- the results' qbz
  have hown:Sim n w0 (Handed ι blks) (fun m=>m<q.2.2) ι1 h σ.fr (qB σ.mem q.2.1) a w∧RVs ι1 h q.1 us.toList:=by
   rw [←hq]
   split
   ·obtain⟨_,a2,a3,_⟩:=qos hs hrv hrn
    exact⟨a2,a3⟩
   ·exact⟨hs,hrv⟩
  obtain⟨hs1,hrv1⟩:=hown
  generalize hF:((if c.ownR f=true then [] else qfo rs0)++if c.mutA f=true then [] else N.flatMap (qd3 (qB σ.mem q.2.1)))=F at*
  obtain⟨h1,s1,s2,s3,s4,s5⟩:=Sim.freezeL F hs1 (Fzn.refl _)
  have hpN:blks.length≤N.length:=by
   have:=congrArg List.length hNp
   simp at this
   omega
  have hvF:c.mutA f=false→Vw ι1 (qB σ.mem q.2.1) w h1 (N.flatMap (qd3 (qB σ.mem q.2.1))):=by
   intro hm
   rw [←hF] at s2
   simp only [hm] at s2
   exact fun m hm=>s2 m (List.mem_append_right _ hm)
  have hvals:RVs ι1 h1 rs1 us.toList:=by
   split at e2
   ·cases e2;exact hrv1.mono s1 fun _ _=>rfl
   ·rename_i hm
    have hq':q=(rs0,[],σ.nx):=by rw [←hq,if_neg hm]
    subst hq'
    rw [←hF] at s2
    simp only [if_neg hm] at s2
    exact(qj6 hs1 s1 (fun m hm'=>s2 m (List.mem_append_left _ hm')) hrv1 e2).1
  obtain⟨hmm,hbl,hbf⟩:=qiy hs1 s4 s5 s1 hNd (cv:=c.mutA f) hvF e4
  have hlt:∀ {i m:Nat},N[i]? =some m→i<N.length:=fun {i m} e=>(List.getElem?_eq_some_iff.1 e).1
  refine⟨fun j=>(N[j]?).bind ι1,h1,hvals.ren e3 (fun m m' hq=>by simp [qfW hq]),?_,hh.sub.trans s1,by rw [hbl];exact hpN,?_,hmm,?_,?_,?_,?_,?_,?_,?_,?_⟩
  ·intro m hm
   obtain⟨m',_,hq⟩:=qeW e3 m hm
   rw [hbl]
   exact hlt (qfW hq)
  ·intro i hi
   have:N[i]? =some i:=by
    have h1:(N.take blks.length)[i]? =(List.range blks.length)[i]? :=by rw [hNp]
    rw [List.getElem?_take,if_pos hi,List.getElem?_range hi] at h1
    exact h1
   simp only [this,Option.bind_some]
   rw [hh.same i hi,hι i hi]
  ·intro i B L hB hz hL
   obtain⟨m,B1,k1,k2,k3⟩:=hbf i B hB
   simp only [k1,Option.bind_some] at hL
   exact s4.hown m B1 L k2 (by rw [←k3];exact hz) hL
  ·intro i B L hB hL
   obtain⟨m,B1,k1,k2,k3⟩:=hbf i B hB
   simp only [k1,Option.bind_some] at hL
   exact s4.hown2 m B1 L k2 hL
  ·exact s4.hframe
  ·intro b hb hnl
   have hnl':¬Handed ι blks false b:=hnl
   rw [←hh.view b hb hnl']
   by_cases hx:∃m∈F,∃B L,qk (qB σ.mem q.2.1) m=some B∧ι1 m=some L∧L.b=b
   ·obtain⟨m,hm,B,L,k1,k2,rfl⟩:=hx
    rw [s2 m hm B L k1 k2]
    cases hz:B.fz with
    | false=>
     rcases hs1.hown m B L k1 hz k2 with h' | h'
     ·omega
     ·exact absurd h' hnl'
    | true=>exact(hs1.hfrz m B L k1 hz k2).symm
   ·exact s3 b fun m hm B L k1 k2 hq=>hx ⟨m,hm,B,L,k1,k2,hq⟩
  ·exact s4.hgrow
  ·exact s4.hos
  ·exact s4.htape
  ·exact s4.houtput
 ·cases e

theorem qoS {β:Type}:∀(l:List β) (k t:Nat),lk (qd4 k l) t=if k≤t then l[t-k]? else none:=by
 intro l
 induction l with
 | nil=>intro k t;simp [qd4,lk]
 | cons x l ih=>
  intro k t
  simp only [qd4,qd5,ih]
  by_cases hk:k=t
  ·subst hk;simp
  ·rw [if_neg hk]
   by_cases h2:k≤t
   ·rw [if_pos (by omega),if_pos h2]
    have:t-k=(t-(k+1))+1:=by omega
    rw [this]
    rfl
   ·rw [if_neg (by omega),if_neg h2]

theorem Mm.cut {bs:List Blk} (hm:Mm ι h w bs) (hι:∀i,i<bs.length→ι' i=ι i):Mm ι' h w bs:=by
 have hlt:∀ {i:Nat} {B:Blk},bs[i]? =some B→i<bs.length:=fun {i B} e=>(List.getElem?_eq_some_iff.1 e).1
 refine⟨fun i B e=> ?_,hm.nm,?_,hm.sub,?_,?_,?_,hm.pr⟩
 ·exact(hm.rb i B e).to (hι i (hlt e)) (fun _ _=>rfl) (Sub.refl h) fun m hm'=>hι m (hm.nm i B e m hm')
 ·intro i j B B' L L' e e' l l'
  rw [hι i (hlt e)] at l
  rw [hι j (hlt e')] at l'
  exact hm.inj i j B B' L L' e e' l l'
 ·intro i B L e hz l;rw [hι i (hlt e)] at l;exact hm.mut' i B L e hz l
 ·intro i B L e hz l;rw [hι i (hlt e)] at l;exact hm.frz i B L e hz l
 ·intro i B L e l;rw [hι i (hlt e)] at l;exact hm.dom i B L e l

structure CfgOk (P:Program) (c:Cfg):Prop where
 ty:qbB P c.T
 fn:∀f fn,c.F f=some fn→P.funcs[f]? =some fn∧(fn.name == "runtime.NumGoroutine")=false
 ext:∀f g args blks rs bs,c.X f=some g→g args blks=some (rs,bs)→qg2 P f∧∀(w:World) (ι:Io) (h:Hp) (vals:Array Value),RVs ι h args vals.toList→(∀m∈qd args,m<blks.length)→Mm ι h w blks→
  Calls P f vals w fun e w'=>∃(us:Array Value) (ι':Io) (h':Hp),e= .returned (qfQ us)∧Post ι h w blks rs bs us.toList w' ι' h'
 mo:P.follows .mixedOrders=true

theorem qpG (hk:CfgOk P c):∀k,qg3 P (call c k):=by
 intro k
 induction k with
 | zero=>intro f args blks rs bs e;cases e
 | succ k ih=>
  intro f args blks rs bs e
  simp only [call] at e
  cases hX:c.X f with
  | some g=>
   rw [hX] at e
   simp only at e
   exact hk.ext f g args blks rs bs hX e
  | none=>
   rw [hX] at e
   simp only [Option.bind_eq_some_iff] at e
   obtain⟨fn,e1,e⟩:=e
   obtain⟨hf,hname⟩:=hk.fn f fn e1
   cases hbody:fn.body with
   | none=>rw [hbody] at e;cases e
   | some body=>
    rw [hbody] at e
    simp only [qpp] at e
    split at e
    ·rename_i hlen
     refine⟨⟨fn,hf,hname,by rw [hbody];rfl⟩,fun w ι h vals hv hn hm=> ?_⟩
     refine calls_of_wp hf hbody ?_
     have hvs:vals.size=args.length:=by have:=hv.1;simpa using this.symm
     let ι0:Io:=fun m=>if m<blks.length then ι m else none
     have hι0:∀i,i<blks.length→ι0 i=ι i:=fun i hi=>if_pos hi
     have hsim:Cnf fn.ntmps w (Handed ι blks) blks.length ι0 h { fr:=qd4 0 (args.map Sv.v),mem:=qd4 0 (blks.map some),nx:=blks.length } { tmps:=vals++Array.replicate (fn.ntmps-vals.size) undef,defers:= [] } w:=by
      refine⟨ι0,h,(hm.cut hι0).sim ?_ ?_ rfl ?_ ?_ ?_ (fun _ _ _=>rfl) (Nat.le_refl _) rfl rfl rfl ?_,⟨Sub.refl h,fun _ _=>rfl,fun _ _ _=>rfl⟩,Nat.le_refl _⟩
      ·intro i L hL
       by_cases hi:i<blks.length
       ·exact hi
       ·have:ι0 i=none:=if_neg hi
        rw [this] at hL;cases hL
      ·simp [hvs];omega
      ·intro t v hl
       simp only at hl
       rw [qoS] at hl
       simp only [Nat.zero_le,if_true,Nat.sub_zero,List.getElem?_map,Option.map_eq_some_iff] at hl
       obtain⟨x,hx,rfl⟩:=hl
       obtain⟨u,g1,g2⟩:=hv.2 t x hx
       have hnx:∀m∈qd [x],m<blks.length:=fun m hm'=>hn m (qaW.2 ⟨x,List.mem_of_getElem? hx,hm'⟩)
       refine⟨u,?_,g2.mono (Sub.refl h) (fun y hy m hm'=>hι0 m (hnx m (by simp only [qd,List.flatMap_cons,List.flatMap_nil,List.append_nil,List.mem_flatMap];exact⟨y,hy,hm'⟩))),hnx⟩
       have g1':vals[t]? =some u:=by simpa using g1
       simp only
       rw [Array.getElem?_append_left (Array.getElem?_eq_some_iff.1 g1').1]
       exact g1'
      ·intro i B L e1 hz hL
       exact .inr ⟨i,B,L,e1,hz,by rw [←hι0 i (List.getElem?_eq_some_iff.1 e1).1];exact hL,rfl⟩
      ·intro i B L e1 hL
       exact .inr ⟨i,B,L,e1,by rw [←hι0 i (List.getElem?_eq_some_iff.1 e1).1];exact hL,rfl⟩
      ·intro m
       unfold qk
       simp only
       rw [qoS]
       simp only [Nat.zero_le,if_true,Nat.sub_zero,List.getElem?_map]
       cases blks[m]? <;>rfl
     cases hr:qba c (call c k) (c.keep f) fn.ntmps k blks.length 0 body { fr:=qd4 0 (args.map Sv.v),mem:=qd4 0 (blks.map some),nx:=blks.length } with
     | none=>rw [hr] at e;cases e
     | some out=>
      rw [hr] at e
      refine qpF hk.ty ih hk.mo body 0 _ out _ _ _ hr hsim fun a' w' hc'=> ?_
      cases out with
      | norm σ=>
       obtain⟨d1,us,d2,ι',h',d3⟩:=qjk hk.ty e hι0 hc'
       exact⟨d1,_,d2,us,ι',h',rfl,d3⟩
      | ret σ=>
       obtain⟨d1,us,d2,ι',h',d3⟩:=qjk hk.ty e hι0 hc'
       exact⟨d1,_,d2,us,ι',h',rfl,d3⟩
      | exit i σ=>cases e
    ·cases e

end
end Go.Proofs.YtlnailgfialgnaaGreatDoor.Am
namespace Go.Proofs.YtlnailgfialgnaaGreatDoor.Am
open Go Go.RowKit Go.WideShapes

def qhl (P:Program):List Field→Nat→Nat→Bool
 | [],o,n=>o == n
 | f::r,o,n=>f.offset == o && qhl P r (o+P.cellsOf f.type) n

def qg4 (P:Program):Nat→TypeId→Bool
 | 0,_=>false
 | d+1,t=>
  match P.underlying t with
  | some .bool=>true
  | some (.int _)=>true
  | some .string=>true
  | some (.slice e)=>decide (0<P.cellsOf e) && qg4 P d e
  | some (.struct fs)=>qhl P fs.toList 0 (P.cellsOf t) && fs.toList.all fun f=>qg4 P d f.type
  | _=>false

section
variable {P : Program} {H : Type} {enc : TypeId × Value → H} {w : World} {base : Nat} {sp : Nat → Bool} {held : Bool}

def view (w:World):Hp:=fun b=>w.heap[b]?

theorem qpH {a:Addr} {n:Nat} {cs:List Value} (h:w.cells? base (a.add 0) n=some cs) (hn:0<n):a.spot=none:=by
 obtain⟨_,hl,hc⟩:=World.cells?_some h
 have h0:=hc 0 hn
 rw [List.getElem?_eq_getElem (show 0<cs.length by omega)] at h0
 simpa [Addr.add] using World.cell?_spot h0

theorem qlW {b off k n:Nat} {cs:List Value} (h:w.cells? base ((⟨b,off,none⟩:Addr).add k) n=some cs) (hn:0<n):
  ∃C t z,w.heap[b]? =some (.cells C t z)∧cs.length=n∧∀j,j<n→C[off+(k+j)]? =cs[j]? :=by
 rw [Go.WideShapes.add_plain] at h
 obtain⟨_,hl,hc⟩:=World.cells?_some h
 have hobj:∃C t z,w.heap[b]? =some (.cells C t z):=by
  have h0:=hc 0 hn
  rw [List.getElem?_eq_getElem (show 0<cs.length by omega),Go.WideShapes.add_plain] at h0
  simp only [World.cell?] at h0
  split at h0
  ·rename_i C t z hC;exact⟨C,t,z,hC⟩
  ·cases h0
 obtain⟨C,t,z,hC⟩:=hobj
 refine⟨C,t,z,hC,hl,fun j hj=> ?_⟩
 have:=hc j hj
 rw [Go.WideShapes.add_plain] at this
 simp only [World.cell?,hC] at this
 rw [←this]
 simp [Nat.add_assoc]

theorem qq1 {c:Cfg} (hk:CfgOk P c) {k:Nat} {f:FuncId} {xs:List Vl} {vals:Array Value} (hr:RVs (fun _=>none) (view w) xs vals.toList) (hn:qd xs= [])
  (e:call c k f xs []=some ([.a (.bool true)],[])):Calls P f vals w fun e w'=>e= .returned (.bool true)∧Below w.heap.size w w':=by
 obtain⟨_,h⟩:=qpG hk k f xs [] _ _ e
 have hmm:Mm (fun _=>none) (view w) w []:=by
  refine⟨?_,?_,?_,fun b o e=>e,?_,?_,?_,?_⟩<;>intro i<;>simp
 refine(h w (fun _=>none) (view w) vals hr (by rw [hn];simp) hmm).mono ?_
 rintro en w' ⟨us,ι',h',rfl,hp⟩
 have hlen:=hp.rv.1
 obtain⟨u,g1,g2⟩:=hp.rv.2 0 _ rfl
 have hu:u= .bool true:=RP.bool_inv (show RP h' (.bool true) u from g2)
 subst hu
 have hus:us= #[.bool true]:=by
  apply Array.toList_inj.1
  match hq:us.toList,hlen,g1 with
  | [x],_,g1=>simp at g1;subst g1;rfl
 refine⟨by rw [hus];rfl,hp.os,hp.tape,hp.output,hp.grow,fun b hb=>hp.frame b hb ?_⟩
 rintro⟨i,B,L,g,_⟩
 simp at g

end
end Go.Proofs.YtlnailgfialgnaaGreatDoor.Am
namespace Go.Proofs.YtlnailgfialgnaaGreatDoor.Am
open Go

theorem qzA {a b:Int} (h:a≤b):(a≤b)=True:=eq_true h
theorem qzB {a b:Int} (h:¬a≤b):(a≤b)=False:=eq_false h
theorem qzC {a b:Int} (h:a<b):(a<b)=True:=eq_true h
theorem qzD {a b:Int} (h:¬a<b):(a<b)=False:=eq_false h
theorem qzE {a b:Int} (h:a=b):(a=b)=True:=eq_true h
theorem qzF {a b:Int} (h:¬a=b):(a=b)=False:=eq_false h
theorem qzG {a b:Nat} (h:a≤b):(a≤b)=True:=eq_true h
theorem qzH {a b:Nat} (h:¬a≤b):(a≤b)=False:=eq_false h
theorem qzI {a b:Nat} (h:a<b):(a<b)=True:=eq_true h
theorem qzJ {a b:Nat} (h:¬a<b):(a<b)=False:=eq_false h
section
variable {c : Cfg} {callF : FuncId → List Vl → List Blk → Option (List Vl × List Blk)}
section
variable {kp : Nat → List Kp} {nt k p : Nat}
end
section
variable {d : Option Tmp} {t0 : TypeId} {pos : String} {af : Array Edge} {g : Option (Nat × Bool)} {fr : List (Nat × Sv)} {mem : Mem} {nx : Nat} {ops : List Oper}
end
end

theorem qf {x:Int} (h: -9223372036854775808≤x∧x≤9223372036854775807):IntKind.i64.wrap x=x:=by
 simp only [IntKind.wrap,IntKind.bits,IntKind.signed]
 simp
 omega
theorem qeX (x:Int):IntKind.u32.wrap x=x % 4294967296:=by simp [IntKind.wrap,IntKind.bits,IntKind.signed]
theorem qgE (x:Int):IntKind.u64.wrap x=x % 18446744073709551616:=by simp [IntKind.wrap,IntKind.bits,IntKind.signed]
theorem quQ (x:Int):IntKind.u8.wrap x=x % 256:=by simp [IntKind.wrap,IntKind.bits,IntKind.signed]

def qmu (hd:St→Option St) (body:St→Option Out):Nat→Option St→Option Out
 | 0,_=>none
 | k+1,s=>qhx (qhR hd body k) (hdK body s)
theorem qoT (hd:St→Option St) (body:St→Option Out) (k:Nat) (σ:St):qhR hd body k σ=qmu hd body k (hd σ):=by cases k<;>rfl
theorem qiD (hd:St→Option St) (body:St→Option Out) (k:Nat) (σ:St):qmu hd body (k+1) (some σ)=qhx (qhR hd body k) (body σ):=rfl
def qeQ:Code→List Code
 | .seq x y=>qeQ x++qeQ y
 | .cond _ x y=>qeQ x++qeQ y
 | .block _ x=>qeQ x
 | .loop x=>x::qeQ x
 | _=> []
def lb (f:Func) (n:Nat):Code:=match f.body with
 | some b=>(qeQ b).getD n .skip
 | none=> .skip


inductive Cd
 | int (k:IntKind) | bool | str | sl (c:Cd) | pr (a b:Cd) | ref (c:Cd)
 deriving DecidableEq
@[reducible] def Cd.D : Cd → Type
 | .int _=>Int
 | .bool=>Bool
 | .str=>ByteArray
 | .sl c=>List c.D
 | .pr a b=>a.D×b.D
 | .ref c=>c.D
def Cd.sz:Cd→Nat
 | .pr a b=>a.sz+b.sz
 | _=>1
def Cd.at:(c:Cd)→c.D→List At
 | .int k,x=> [.int k x]
 | .bool,b=> [.bool b]
 | .str,s=> [.str s]
 | .sl c,l=> [.sl c.sz l.length (l.map c.at)]
 | .pr a b,x=>a.at x.1++b.at x.2
 | .ref c,x=> [.pp (c.at x) 0]

inductive A2
 | int (k:IntKind) (n:Int)
 | bool (b:Bool)
 | str (s:ByteArray)
 | snil (es ty:Nat)
 | sl (c:Cd) (l:List c.D)
 | nilp
 | pe (c:Cd) (x:c.D) (o:Nat)
 | ptr (m i o:Nat)
 | sm (m lo n:Nat)
 | fn (f:FuncId) (cs:List (Sigma Cd.D))
 | mp (m:Nat)
def A2.at:A2→At
 | .int k n=> .int k n
 | .bool b=> .bool b
 | .str s=> .str s
 | .snil es ty=> .snil es ty
 | .sl c l=> .sl c.sz l.length (l.map c.at)
 | .nilp=> .nilp
 | .pe c x o=> .pp (c.at x) o
 | .ptr m i o=> .ptr m i o
 | .sm m lo n=> .sm m lo n
 | .fn f cs=> .fn f (cs.flatMap fun p=>p.1.at p.2)
 | .mp m=> .mp m
def Cd.cl:(c:Cd)→c.D→List A2
 | .int k,x=> [.int k x]
 | .bool,b=> [.bool b]
 | .str,s=> [.str s]
 | .sl c,l=> [.sl c l]
 | .pr a b,x=>a.cl x.1++b.cl x.2
 | .ref c,x=> [.pe c x 0]
def qpJ (a b:Cd) (x:a.D):Option b.D:=if h:a=b then some (h▸x)else none
def qjL (a b:Cd) (l:List a.D):Option (List b.D):=if h:a=b then some (h▸l)else none
def Cd.de:(c:Cd)→List A2→Option (c.D×List A2)
 | .int k,.int k' n::r=>if k'=k then some (n,r)else none
 | .bool,.bool b::r=>some (b,r)
 | .str,.str s::r=>some (s,r)
 | .sl c,.sl c' l::r=>(qjL c' c l).bind fun l=>some (l,r)
 | .ref c,.pe c' x 0::r=>(qpJ c' c x).bind fun x=>some (x,r)
 | .pr a b,cs=>(a.de cs).bind fun p=>(b.de p.2).bind fun q=>some ((p.1,q.1),q.2)
 | _,_=>none
def Cd.dec (c:Cd) (cs:List A2):Option c.D:=(c.de cs).bind fun p=>match p.2 with
 | []=>some p.1
 | _=>none
def A2.cd:A2→Option Cd
 | .int k _=>some (.int k)
 | .bool _=>some .bool
 | .str _=>some .str
 | .sl c _=>some (.sl c)
 | _=>none

inductive V2
 | a (x:A2)
 | g (cs:List A2)
def V2.at:V2→Vl
 | .a x=> .a x.at
 | .g cs=> .g (cs.map A2.at)
def V2.cells:V2→List A2
 | .a x=> [x]
 | .g cs=>cs
inductive Sv2
 | v (x:V2)
 | t (vs:List V2)
 | u
def Sv2.at:Sv2→Sv
 | .v x=> .v x.at
 | .t vs=> .t (vs.map V2.at)
 | .u=> .u
inductive Bd
 | arr (c:Cd) (l:List c.D)
 | raw (els:List (List A2))
 | map (kc vc:Cd) (l:List (kc.D×vc.D))
def Bd.rows:Bd→List (List At)
 | .arr c l=>l.map c.at
 | .raw els=>els.map fun e=>e.map A2.at
 | .map .. => []
def Bd.ents:Bd→List (At×At)
 | .map kc vc l=>l.map fun p=>((kc.at p.1).headD .nilp,(vc.at p.2).headD .nilp)
 | _=> []
def kEq:(c:Cd)→c.D→c.D→Bool
 | .int _,a,b=>a == b
 | .str,a,b=>a.data.toList == b.data.toList
 | .bool,a,b=>a == b
 | _,_,_=>false
def qef (kc vc:Cd):List (kc.D×vc.D)→kc.D→Option (Nat×vc.D)
 | [],_=>none
 | p::r,x=>if kEq kc x p.1 then some (0,p.2)else(qef kc vc r x).bind fun q=>some (q.1+1,q.2)
def qhd (kc vc:Cd) (l:List (kc.D×vc.D)) (x:kc.D) (z:vc.D):vc.D:=match qef kc vc l x with | some q=>q.2 | none=>z
def qao (kc vc:Cd) (l:List (kc.D×vc.D)) (x:kc.D) (v:vc.D):List (kc.D×vc.D):=match qef kc vc l x with | some q=>l.set q.1 (x,v) | none=>l++ [(x,v)]
def qh6:TD→Cd→Bool
 | .int k,.int k'=>decide (k'=k)
 | .str,.str=>true
 | .bool,.bool=>true
 | _,_=>false
structure Blk2 where
 bd:Bd
 es:Nat
 ty:TypeId
 pr:Bool
 fz:Bool
 ar:Bool
def Blk2.at (b:Blk2):Blk:={ els:=b.bd.rows,es:=b.es,ty:=b.ty,pr:=b.pr,fz:=b.fz,ar:=b.ar,mp:=b.bd.ents }
abbrev qu:=List (Nat×Option Blk2)
def oAt (p:Nat×Option Blk2):Nat×Option Blk:=(p.1,p.2.map Blk2.at)
def qu.at (m:qu):Mem:=m.map oAt
structure St2 where
 fr:List (Nat×Sv2)
 mem:qu
 nx:Nat

def qbZ (m:qu) (n:Nat):Option Blk2:=
 match lk m n with
 | some (some b)=>some b
 | _=>none
def qpK:qu→Nat×Option Blk2→qu
 | [],p=> [p]
 | q::r,p=>if q.1=p.1 then p::r else q::qpK r p
def qfq (m:qu):qu→qu
 | []=>m
 | p::r=>qfq (qpK m p) r

def A2.pr:A2→Bool
 | .ptr .. =>false
 | .sm .. =>false
 | .mp .. =>false
 | _=>true
def A2.nm:A2→List Nat
 | .ptr m _ _=> [m]
 | .sm m _ _=> [m]
 | .mp m=> [m]
 | _=> []
def A2.noSl:A2→Bool
 | .sl .. =>false
 | .pe .. =>false
 | .fn .. =>false
 | _=>true
def A2.smn:A2→List Nat
 | .sm m _ _=> [m]
 | _=> []
def A2.ptrs:A2→List Nat
 | .ptr m _ _=> [m]
 | .mp m=> [m]
 | _=> []
def Bd.els2:Bd→List (List A2)
 | .arr _ _=> []
 | .raw els=>els
 | .map .. => []
def qcc (f:A2→List Nat) (mem:qu) (m:Nat):List Nat:=
 match qbZ mem m with
 | some b=>if b.pr then [] else b.bd.els2.flatMap fun e=>e.flatMap f
 | none=> []
def qdq (f:A2→List Nat) (vs:List V2):List Nat:=vs.flatMap fun v=>v.cells.flatMap f

def qkX (ρ:Nat→Option Nat):A2→Option A2
 | .ptr m i o=>(ρ m).bind fun m'=>some (.ptr m' i o)
 | .sm m lo n=>(ρ m).bind fun m'=>some (.sm m' lo n)
 | .mp m=>(ρ m).bind fun m'=>some (.mp m')
 | x=>some x
def qiE (ρ:Nat→Option Nat):V2→Option V2
 | .a x=>(qkX ρ x).bind fun y=>some (.a y)
 | .g cs=>(qo (qkX ρ) cs).bind fun ys=>some (.g ys)
def qkY (ρ:Nat→Option Nat) (b:Blk2):Option Blk2:=
 if b.pr then some b else match b.bd with
 | .raw els=>(qo (qo (qkX ρ)) els).bind fun els=>some { b with bd:= .raw els }
 | _=>none

def at2:At→Option A2
 | .int k n=>some (.int k n)
 | .bool b=>some (.bool b)
 | .str s=>some (.str s)
 | .snil es ty=>some (.snil es ty)
 | .nilp=>some .nilp
 | _=>none
def qgn (ti:TI):Option (List A2):=qo at2 ti.zero
def qvS (f:TypeId→Option Cd):List TypeId→Option Cd
 | []=>none
 | [t]=>f t
 | t::r=>(f t).bind fun a=>(qvS f r).bind fun b=>some (.pr a b)
def cod (T:TypeId→Option TI):Nat→TypeId→Option Cd
 | 0,_=>none
 | k+1,t=>(T t).bind fun ti=>match ti.d with
  | .int k=>some (.int k)
  | .bool=>some .bool
  | .str=>some .str
  | .sl e=>(cod T k e).bind fun c=>some (.sl c)
  | .st _ ts=>qvS (cod T k) ts
  | _=>none

structure Eff2 where
 v:Sv2
 upd:qu
 nn:Nat
 rd:List Nat
def Eff2.at (e:Eff2):Eff:={ v:=e.v.at,upd:=e.upd.at,nn:=e.nn,rd:=e.rd }

def qnc:Value→Option A2
 | .int k n=>some (.int k n)
 | .bool b=>some (.bool b)
 | .string s=>some (.str s)
 | .slice none 0 0=>some (.snil 0 0)
 | .pointer none=>some .nilp
 | _=>none
def ev2 (fr:List (Nat×Sv2)):Operand→Option Sv2
 | .tmp t=>lk fr t
 | .const v=>(qnc v).bind fun x=>some (.v (.a x))
 | .func f=>some (.v (.a (.fn f [])))
 | .global _=>none
def qsy:Sv2→Option A2
 | .v (.a x)=>some x
 | _=>none
def qsz:Sv2→Option V2
 | .v x=>some x
 | _=>none
def qvT:A2→Option Bool
 | .bool b=>some b
 | _=>none
def qvU:A2→Option Int
 | .int _ i=>some i
 | _=>none
def qbb (fr:List (Nat×Sv2)) (o:Operand):Option A2:=(ev2 fr o).bind qsy
def qnd (fr:List (Nat×Sv2)) (o:Operand):Option Bool:=(qbb fr o).bind qvT
def qjl (fr:List (Nat×Sv2)) (o:Operand):Option Int:=(qbb fr o).bind qvU
def qh7 (fr:List (Nat×Sv2)) (o:Operand):Option V2:=(ev2 fr o).bind qsz
def qgo (fr:List (Nat×Sv2)) (d:Nat):Option Operand→Option Int
 | none=>some d
 | some o=>qjl fr o

def qiF (ti:TI) (e:List A2) (o:Nat):Option V2:=
 if ti.agg then(if o+ti.size≤e.length then some (.g ((e.drop o).take ti.size))else none)
 else(e[o]?).bind fun x=>some (.a x)
def qne (cs:List A2) (o:Nat) (xs:List A2):List A2:=cs.take o++xs++cs.drop (o+xs.length)
def qjm (ds:List (Nat×Nat)):List A2→List (Nat×V2)→Option (List A2)
 | cs,[]=>some cs
 | cs,(i,v)::r=>
  (ds[i]?).bind fun p=>if v.cells.length=p.2∧p.1+p.2≤cs.length then qjm ds (qne cs p.1 v.cells) r else none
def qkZ (es:Nat):List (List A2)→List (Nat×V2)→Option (List (List A2))
 | cs,[]=>some cs
 | cs,(i,v)::r=>if v.cells.length=es∧i<cs.length then qkZ es (cs.set i v.cells) r else none
def qk0 (c:Option Cd) (els:List (List A2)):Bd:=
 match c with
 | some c=>match qo c.dec els with
  | some l=> .arr c l
  | none=> .raw els
 | none=> .raw els

@[reducible] def frc {α β : Type} (x : α) (K : α → β) : β := K x
section
variable {R : Type}
def qgp {α β:Type} (f:α→(β→Option R)→Option R):List α→(List β→Option R)→Option R
 | [],K=>K []
 | x::r,K=>f x fun y=>qgp f r fun ys=>K (y::ys)

def qtJ (op:BinOp) (k:IntKind) (x y:Int) (K:A2→Option R):Option R:=
 match op with
 | .add=>K (.int k (k.wrap (x+y)))
 | .sub=>K (.int k (k.wrap (x-y)))
 | .mul=>K (.int k (k.wrap (x*y)))
 | .quo=>if y=0 then none else K (.int k (k.wrap (x.tdiv y)))
 | .rem=>if y=0 then none else K (.int k (x.tmod y))
 | .eql=>K (.bool (x == y))
 | .neq=>K (.bool (x != y))
 | .lss=>K (.bool (decide (x<y)))
 | .leq=>K (.bool (decide (x≤y)))
 | .gtr=>K (.bool (decide (x>y)))
 | .geq=>K (.bool (decide (x≥y)))
 | .and=>K (.int k (k.wrap ((BitVec.ofInt k.bits x &&& BitVec.ofInt k.bits y).toNat:Int)))
 | .or=>K (.int k (k.wrap ((BitVec.ofInt k.bits x ||| BitVec.ofInt k.bits y).toNat:Int)))
 | .xor=>K (.int k (k.wrap ((BitVec.ofInt k.bits x ^^^ BitVec.ofInt k.bits y).toNat:Int)))
 | _=>none
def qk1:A2→A2→Option Bool
 | .nilp,.nilp=>some true
 | .nilp,.ptr .. =>some false
 | .nilp,.pe .. =>some false
 | .ptr ..,.nilp=>some false
 | .pe ..,.nilp=>some false
 | _,_=>none
def qpL:A2→Bool
 | .nilp=>true
 | .ptr .. =>true
 | .pe .. =>true
 | _=>false
def qnf (T:TypeId→Option TI) (op:BinOp) (ty:TypeId) (a b:A2) (K:A2→Option R):Option R:=
 match a,b with
 | .int k x,.int k' y=>
  match op with
  | .shl=>if y<0 then none else K (.int k (k.wrap (x*2^(min y.toNat k.bits))))
  | .shr=>if y<0 then none else K (.int k (x.fdiv (2^(min y.toNat k.bits))))
  | _=>if k=k' then qtJ op k x y K else none
 | .str x,.str y=>
  match op with
  | .add=>if((x.size+y.size:Nat):Int)>IntKind.i64.max then none else K (.str (x++y))
  | .eql=>K (.bool (x.data.toList == y.data.toList))
  | .neq=>K (.bool (!(x.data.toList == y.data.toList)))
  | _=>none
 | .bool x,.bool y=>
  match qJ T ty,op with
  | some .bool,.eql=>K (.bool (x == y))
  | some .bool,.neq=>K (.bool (!(x == y)))
  | _,_=>none
 | x,y=>
  if qpL x then
  match qJ T ty with
  | some .ptr=>
   match op with
   | .eql=>(qk1 x y).bind fun b=>K (.bool b)
   | .neq=>(qk1 x y).bind fun b=>K (.bool (!b))
   | _=>none
  | _=>none
  else none
def un2 (op:UnOp) (a:A2) (K:A2→Option R):Option R:=
 match a with
 | .int k n=>match op with
  | .neg=>K (.int k (k.wrap (0-n)))
  | _=>none
 | .bool b=>match op with
  | .not=>K (.bool (!b))
  | _=>none
 | _=>none
def qpM (T:TypeId→Option TI) (src dst:TypeId) (a:A2) (K:A2→Option R):Option R:=
 match a with
 | .int _ n=>match qJ T src,qJ T dst with
  | some (.int _),some (.int k)=>K (.int k (k.wrap n))
  | _,_=>none
 | .str s=>match qJ T src,qJ T dst with
  | some .str,some .str=>K (.str s)
  | some .str,some (.sl e)=>match qJ T e with
   | some (.int .u8)=>K (.sl (.int .u8) (s.data.toList.map fun b=>(b.toNat:Int)))
   | _=>none
  | _,_=>none
 | _=>none

inductive Src
 | nil
 | of (c:Cd) (l:List c.D)
def Src.len:Src→Nat
 | .nil=>0
 | .of _ l=>l.length
def Src.rows:Src→List (List At)
 | .nil=> []
 | .of c l=>l.map c.at
def qpN (mem:qu) (es:Nat) (a:A2) (K:Src→List Nat→Option R):Option R:=
 match a with
 | .sl c l=>if c.sz=es then K (.of c l) [] else none
 | .snil .. =>K .nil []
 | .sm m lo n=>(qbZ mem m).bind fun b=>match b.bd with
  | .arr c l=>if b.es=es then if b.pr then if lo+n≤l.length then K (.of c ((l.drop lo).take n)) [m] else none else none else none
  | _=>none
 | _=>none

variable (c : Cfg) (CO : FuncId → List V2 → List Blk2 → (List V2 × List Blk2 → Option R) → Option R)

def qjM (mem:qu) (a:A2) (K:A2→Option R):Option R:=
 match a with
 | .sm m lo n=>(qbZ mem m).bind fun b=>if b.pr then match b.bd with
  | .arr c l=>if c.sz=b.es then if lo+n≤l.length then K (.sl c ((l.drop lo).take n))else none else none
  | _=>none
  else none
 | .snil es ty=>(cod c.T 9 ty).bind fun d=>if d.sz=es then K (.sl d [])else none
 | x=>K x
def qjN (mem:qu) (v:V2) (K:V2→Option R):Option R:=
 match v with
 | .a x=>qjM c mem x fun y=>K (.a y)
 | .g cs=>qgp (qjM c mem) cs fun ys=>K (.g ys)
def qpO (mem:qu) (b:Blk2) (K:Blk2→Option R):Option R:=
 if b.pr then K b else match b.bd with
 | .raw els=>qgp (qgp (qjM c mem)) els fun els=>K { b with bd:= .raw els }
 | _=>none

def qmw:A2→Option (Sigma Cd.D)
 | .int k n=>some ⟨.int k,n⟩
 | .bool b=>some ⟨.bool,b⟩
 | .str s=>some ⟨.str,s⟩
 | .sl d l=>some ⟨.sl d,l⟩
 | _=>none
def qng (mem:qu):A2→Option (Sigma Cd.D×List Nat)
 | .ptr m i o=>(qbZ mem m).bind fun b=>if b.pr=true then if o=0 then match b.bd with
  | .raw els=>(els[i]?).bind fun e=>match e with
   | [x]=>(qmw x).bind fun p=>some (⟨.ref p.1,p.2⟩,[m])
   | _=>none
  | _=>none
  else none else none
 | x=>(qmw x).bind fun p=>some (p,[])
def qnh (T:TypeId→Option TI):A2→Option A2
 | .snil es ty=>(cod T 9 ty).bind fun d=>if d.sz=es then some (.sl d [])else none
 | x=>some x
def qk2 (z:List A2):V2→V2
 | .a (.snil a b)=>match z with
  | [.snil es ty]=> .a (.snil es ty)
  | _=> .a (.snil a b)
 | v=>v
def qmx (els:List (List A2)):List Nat:=els.flatMap fun e=>e.flatMap A2.smn
def qsA (mem:qu) (m:Nat) (v:V2) (K:V2×List Nat→Option R):Option R:=(qbZ mem m).bind fun b=>
 if b.ar=true then qjN c mem v fun v'=>K (v',qdq A2.smn [v])else K (v,[])
def fz2 (mem:qu):List Nat→qu
 | []=> []
 | m::r=>(match qbZ mem m with | some b=>(m,some { bd:=b.bd,es:=b.es,ty:=b.ty,pr:=b.pr,fz:=true,ar:=b.ar })::fz2 mem r | none=>fz2 mem r)
def qni:List Nat→List Blk2→qu
 | n::r,b::s=>(n,some b)::qni r s
 | _,_=> []
def qvV:List V2→Sv2
 | [x]=> .v x
 | xs=> .t xs
def qmy (mu:Bool) (mem mem1:qu) (ρ:Nat→Option Nat) (m:Nat) (K:Blk2→Option R):Option R:=
 (qbZ mem1 m).bind fun b=>(fun K=>if mu then K b else qpO c mem b K) fun b=>(qkY ρ b).bind K

def qiG:Cd→Bool
 | .sl _=>false
 | .ref _=>false
 | .pr a b=>qiG a && qiG b
 | _=>true
def qnj (b:Blk2):Bool:= !b.fz && match b.bd with
 | .arr c _=>qiG c
 | .raw els=>els.all fun e=>e.all A2.noSl
 | .map .. =>false
def qpP (l:Bool) (N:List Nat) (rs:List V2) (bs:List Blk2) (u:qu):Option qu:=
 if l then(if N.isEmpty && (rs.all (fun v=>v.cells.all A2.noSl) && bs.all qnj)then some [] else none)
 else some (if bs.isEmpty && rs.all (fun v=>v.cells.all A2.noSl)then [] else u)
def qpQ (f:FuncId) (args:List V2) (mem:qu) (nx:Nat) (K:Eff2→Option R):Option R:=
 (fun K=>if c.mutA f then K args else qgp (qjN c mem) args K) fun vals=>
 frc (clo (if c.mutA f then qcc A2.nm mem else qcc A2.ptrs mem) 64 (qdq A2.nm vals) []) fun N=>
 frc (if c.mutA f then [] else qdq A2.smn args++N.flatMap (qcc A2.smn mem)) fun F=>
 frc (qfq mem (fz2 mem F)) fun mem1=>
 qgp (qmy c (c.mutA f) mem mem1 (idx N)) N fun blks=>
  (qo (qiE (idx N)) vals).bind fun vals'=>
  CO f vals' blks fun r=>
  frc (N++cnt nx (r.2.drop N.length)) fun NL=>
  (qo (qiE (fun i=>NL[i]?)) r.1).bind fun rs=>
   (qo (qkY (fun i=>NL[i]?)) r.2).bind fun bs=>
   (qpP (c.lend f) N r.1 r.2 (fz2 mem F)).bind fun lu=>
   K { v:=qvV rs,upd:=lu++qni NL bs,nn:=nx+(r.2.length-N.length),rd:=N++F }

def qsB (t:TypeId) (s x:A2) (mem:qu) (nx:Nat) (K:Eff2→Option R):Option R:=
 match qJ c.T t with
 | some (.sl e)=>(c.T e).bind fun te=>
  if 0<te.size∧0<te.bytes∧te.zero.length=te.size then
  qpN mem te.size x fun src srd=>
  match s with
  | .snil .. =>match src with
   | .nil=>(cod c.T 9 e).bind fun d=>K { v:= .v (.a (.sm nx 0 0)),upd:= [(nx,some ⟨.arr d [],te.size,e,true,false,true⟩)],nn:=nx+1,rd:=srd }
   | .of d l=>if l.length*te.bytes≤140737488355328 then K { v:= .v (.a (.sm nx 0 l.length)),upd:= [(nx,some ⟨.arr d l,te.size,e,true,false,true⟩)],nn:=nx+1,rd:=srd } else none
  | .sm m lo n=>(qbZ mem m).bind fun b=>match b.bd with
   | .arr d l=>if b.es=te.size∧b.ty=e∧b.fz=false∧b.pr=true then if lo=0 then if n≤l.length then
    match src with
    | .nil=>if n*te.bytes≤140737488355328 then K { v:= .v (.a (.sm nx 0 n)),upd:= [(m,none),(nx,some ⟨.arr d (l.take n),te.size,e,true,false,true⟩)],nn:=nx+1,rd:=m::srd } else none
    | .of d' l'=>(qjL d' d l').bind fun l'=>if(n+l'.length)*te.bytes≤140737488355328 then
     K { v:= .v (.a (.sm nx 0 (n+l'.length))),upd:= [(m,none),(nx,some ⟨.arr d (l.take n++l'),te.size,e,true,false,true⟩)],nn:=nx+1,rd:=m::srd } else none
    else none else none else none
   | _=>none
  | _=>none
  else none
 | _=>none

def qnk (t:TypeId) (a:A2) (mem:qu) (nx:Nat) (K:Eff2→Option R):Option R:=
 match qJ c.T t with
 | some (.sl e)=>(c.T e).bind fun te=>(qgn te).bind fun z1=>(qo (qnh c.T) z1).bind fun z=>
  match a with
  | .snil .. =>K { v:= .t [],upd:= [],nn:=nx,rd:= [] }
  | .sm m lo n=>(qbZ mem m).bind fun b=>match b.bd with
   | .arr d l=>if b.es=te.size∧b.fz=false∧z.length=te.size∧0<te.size then(d.dec z).bind fun z0=>
    if lo+n≤l.length then
    K { v:= .t [],upd:= [(m,some ⟨.arr d (l.take lo++List.replicate n z0++l.drop (lo+n)),b.es,b.ty,b.pr,b.fz,b.ar⟩)],nn:=nx,rd:= [m] } else none else none
   | _=>none
  | _=>none
 | _=>none
def qdm (v:V2) (nx:Nat) (K:Eff2→Option R):Option R:=K { v:= .v v,upd:= [],nn:=nx,rd:= [] }
def qk3 (nx:Nat) (K:Eff2→Option R) (x:A2):Option R:=K { v:= .v (.a x),upd:= [],nn:=nx,rd:= [] }
def qiH (fr:List (Nat×Sv2)) (p:Nat×Operand):Option (Nat×V2):=(qh7 fr p.2).bind fun v=>some (p.1,v)

def qzL (a b:A2) (nx:Nat) (K:Eff2→Option R):Option R:=
 match a,b with
 | .int k x,.int _ y=>qdm (.a (.int k (max x y))) nx K
 | _,_=>none
def qzM (a b:A2) (nx:Nat) (K:Eff2→Option R):Option R:=
 match a,b with
 | .int k x,.int _ y=>qdm (.a (.int k (min x y))) nx K
 | _,_=>none

def qpR (fr:List (Nat×Sv2)) (o:Operand):Option (List A2):=
 match ev2 fr o with
 | some (.v (.g cs))=>some cs
 | _=>none
def qiI:List A2→List A2→Bool
 | [],[]=>true
 | .int k _::r,.int k2 _::s=>match decide (k=k2)with
  | true=>qiI r s
  | false=>false
 | _,_=>false
def eqK:List A2→List A2→(Bool→Option R)→Option R
 | .int _ x::r,.int _ y::s,K=>if(x == y)=true then eqK r s K else K false
 | _,_,K=>K true
def qsC (op:BinOp) (ti:TI) (cs:List A2) (v:V2) (nx:Nat) (K:Eff2→Option R):Option R:=
 match ti.d,v with
 | .st fs _,.g ds=>if ti.eqs=true∧fs.length=cs.length then match qiI cs ds with
  | true=>eqK cs ds fun b=>match op with
   | .eql=>qdm (.a (.bool b)) nx K
   | .neq=>qdm (.a (.bool (!b))) nx K
   | _=>none
  | false=>none
  else none
 | _,_=>none
def qpS (i:Int):List A2→(A2→Option R)→Option R
 | [],_=>none
 | x::r,K=>if i=0 then K x else qpS (i-1) r K
def qmz (t:TypeId) (a key v:A2) (mem:qu) (nx:Nat) (K:Eff2→Option R):Option R:=
 match a with
 | .mp m=>(qbZ mem m).bind fun b=>match b.bd with
  | .map kc vc l=>match qJ c.T t with
   | some (.mp kt _)=>(qJ c.T kt).bind fun d=>if qh6 d kc=true∧b.fz=false then(kc.dec [key]).bind fun kx=>(vc.dec [v]).bind fun vx=>
    K { v:= .u,upd:= [(m,some ⟨.map kc vc (qao kc vc l kx vx),b.es,b.ty,b.pr,b.fz,b.ar⟩)],nn:=nx,rd:= [m] } else none
   | _=>none
  | _=>none
 | _=>none
def qnl (t:TypeId) (a key:A2) (ok:Bool) (mem:qu) (nx:Nat) (K:Eff2→Option R):Option R:=
 match a with
 | .mp m=>(qbZ mem m).bind fun b=>match b.bd with
  | .map kc vc l=>match qJ c.T t with
   | some (.mp kt et)=>(qJ c.T kt).bind fun d=>if qh6 d kc=true then(kc.dec [key]).bind fun kx=>(c.T et).bind fun te=>
    if ok=false∧te.agg=false∧te.size=1∧te.zero.length=te.size then(qgn te).bind fun z=>(vc.dec z).bind fun z0=>
     K { v:= .v (.a ((vc.cl (qhd kc vc l kx z0)).headD .nilp)),upd:= [],nn:=nx,rd:= [m] } else none else none
   | _=>none
  | _=>none
 | _=>none
def qsD (o:Oper) (fr:List (Nat×Sv2)) (mem:qu) (nx:Nat) (K:Eff2→Option R):Option R:=
 match o.op with
 | .move x | .assign x=>
  (ev2 fr x).bind fun v=>
  match v with
  | .v (.a (.snil ..))=>match qJ c.T o.type with
   | some (.sl e)=>(c.T e).bind fun te=>qdm (.a (.snil te.size e)) nx K
   | _=>none
  | .u=>none
  | v=>K { v:=v,upd:= [],nn:=nx,rd:= [] }
 | .pick k a b=>
  (qnd fr k).bind fun t=>if t=true then(qbb fr a).bind (qk3 nx K)else(qbb fr b).bind (qk3 nx K)
 | .alloc t=>(c.T t).bind fun ti=>(qgn ti).bind fun z=>
  if z.length=ti.size∧ti.size≠0 then K { v:= .v (.a (.ptr nx 0 0)),upd:= [(nx,some ⟨.raw [z],ti.size,t,true,false,false⟩)],nn:=nx+1,rd:= [] } else none
 | .box t x=>(c.T t).bind fun ti=>(qh7 fr x).bind fun v=>
  if v.cells.length=ti.size∧ti.size≠0 then
  K { v:= .v (.a (.ptr nx 0 0)),upd:= [(nx,some ⟨.raw [v.cells],ti.size,t,v.cells.all A2.pr,false,false⟩)],nn:=nx+1,rd:= [] } else none
 | .makeMap t r=>if r.isNone=true then match qJ c.T t with
  | some (.mp kt et)=>(cod c.T 9 kt).bind fun kc=>(cod c.T 9 et).bind fun vc=>
   K { v:= .v (.a (.mp nx)),upd:= [(nx,some ⟨.map kc vc [],0,t,true,false,true⟩)],nn:=nx+1,rd:= [] }
  | _=>none
  else none
 | .lookup t x k ok=>(qbb fr x).bind fun a=>(qbb fr k).bind fun key=>qnl c t a key ok mem nx K
 | .mapUpdate t x k y=>(qbb fr x).bind fun a=>(qbb fr k).bind fun key=>(qbb fr y).bind fun v=>qmz c t a key v mem nx K
 | .insert t x k y=>(qbb fr x).bind fun a=>(qbb fr k).bind fun key=>(qbb fr y).bind fun v=>qmz c t a key v mem nx K
 | .build t parts=>(c.T t).bind fun ti=>
  match ti.d with
  | .st fs _=>(qgn ti).bind fun z=>if z.length=ti.size then(qo (qiH fr) parts.toList).bind fun ps=>
   (qjm fs z ps).bind fun cs=>qdm (.g cs) nx K else none
  | .arr n e=>(c.T e).bind fun te=>(qgn ti).bind fun z=>if z.length=ti.size then(qo (qiH fr) parts.toList).bind fun ps=>
   (qjm ((List.range n).map fun j=>(j*te.size,te.size)) z ps).bind fun cs=>qdm (.g cs) nx K else none
  | _=>none
 | .buildSlice t len parts=>
  match qJ c.T t with
  | some (.sl e)=>(c.T e).bind fun te=>(qgn te).bind fun z=>
   (qo (qiH fr) parts.toList).bind fun ps=>
   (qkZ te.size (List.replicate len z) (ps.map fun p=>(p.1,qk2 z p.2))).bind fun els0=>
   qgp (qgp (qjM c mem)) els0 fun els=>
   if len*te.size≤16777216∧0<te.size∧len<9223372036854775807∧z.length=te.size then
   K { v:= .v (.a (.sm nx 0 len)),upd:=fz2 mem (qmx els0)++ [(nx,some ⟨qk0 (cod c.T 9 e) els,te.size,e,els.all fun e=>e.all A2.pr,false,true⟩)],nn:=nx+1,rd:=qmx els0 }
   else none
  | _=>none
 | .load t x=>(c.T t).bind fun ti=>(qbb fr x).bind fun a=>
  match a with
  | .ptr m i o=>(qbZ mem m).bind fun b=>match b.bd with
   | .raw els=>(els[i]?).bind fun e=>(qiF ti e o).bind fun v=>K { v:= .v v,upd:= [],nn:=nx,rd:= [m] }
   | .arr d l=>(l[i]?).bind fun e=>(qiF ti (d.cl e) o).bind fun v=>K { v:= .v v,upd:= [],nn:=nx,rd:= [m] }
   | .map .. =>none
  | .pe d e o=>(qiF ti (d.cl e) o).bind fun v=>qdm v nx K
  | _=>none
 | .store t x y=>(c.T t).bind fun ti=>(qh7 fr y).bind fun v=>(qbb fr x).bind fun a=>
  match a with
  | .ptr m i o=>qsA c mem m v fun q=>frc (qfq mem (fz2 mem q.2)) fun mem1=>(qbZ mem1 m).bind fun b=>match b.bd with
   | .raw els=>(els[i]?).bind fun e=>if q.1.cells.length=ti.size∧o+ti.size≤e.length∧b.fz=false then
    K { v:= .u,upd:=fz2 mem q.2++ [(m,some ⟨.raw (els.set i (qne e o q.1.cells)),b.es,b.ty,b.pr && q.1.cells.all A2.pr,b.fz,b.ar⟩)],nn:=nx,rd:=m::q.2 } else none
   | .arr d l=>(l[i]?).bind fun e=>if q.1.cells.length=ti.size∧o+ti.size≤(d.cl e).length∧b.fz=false∧b.pr=true then
    (d.dec (qne (d.cl e) o q.1.cells)).bind fun e'=>K { v:= .u,upd:=fz2 mem q.2++ [(m,some ⟨.arr d (l.set i e'),b.es,b.ty,b.pr && q.1.cells.all A2.pr,b.fz,b.ar⟩)],nn:=nx,rd:=m::q.2 } else none
   | .map .. =>none
  | _=>none
 | .nilCheck x=>(qbb fr x).bind fun a=>
  match a with
  | .ptr m i o=>qdm (.a (.ptr m i o)) nx K
  | .pe d e o=>qdm (.a (.pe d e o)) nx K
  | _=>none
 | .binOp op ty x y _=>match qpR fr x with
  | some cs=>(c.T ty).bind fun ti=>(qh7 fr y).bind fun v=>qsC op ti cs v nx K
  | none=>(qbb fr x).bind fun a=>(qbb fr y).bind fun b=>qnf c.T op ty a b (qk3 nx K)
 | .unOp op _ x=>(qbb fr x).bind fun a=>un2 op a (qk3 nx K)
 | .convert src dst x=>(qbb fr x).bind fun a=>
  match qJ c.T src,qJ c.T dst with
  | some (.sl e),some .str=>match qJ c.T e with
   | some (.int .u8)=>qpN mem 1 a fun q rd=>match q with
    | .nil=>K { v:= .v (.a (.str ⟨#[]⟩)),upd:= [],nn:=nx,rd:=rd }
    | .of (.int .u8) l=>K { v:= .v (.a (.str ⟨(l.map fun n:Int=>n.toNat.toUInt8).toArray⟩)),upd:= [],nn:=nx,rd:=rd }
    | _=>none
   | _=>none
  | _,_=>qpM c.T src dst a (qk3 nx K)
 | .makeSlice t l k=>
  match qJ c.T t with
  | some (.sl e)=>(c.T e).bind fun te=>(qgn te).bind fun z1=>(qo (qnh c.T) z1).bind fun z=>(cod c.T 9 e).bind fun d=>(d.dec z).bind fun z0=>
   (qjl fr l).bind fun l=>(qjl fr k).bind fun k=>
    if 0<te.size∧0<te.bytes∧z.length=te.size then
    if 0≤l∧l≤k∧k*te.bytes≤140737488355328 then
     K { v:= .v (.a (.sm nx 0 l.toNat)),upd:= [(nx,some ⟨.arr d (List.replicate k.toNat z0),te.size,e,true,false,true⟩)],nn:=nx+1,rd:= [] }
    else none else none
  | _=>none
 | .slice t x lo hi mx=>
  if mx.isSome then none else
  (qJ c.T t).bind fun td=>(qbb fr x).bind fun a=>
  match td,a with
  | .str,.str s=>
   (qgo fr 0 lo).bind fun l=>(qgo fr s.size hi).bind fun h=>
   if 0≤l∧l≤h∧h≤s.size then qdm (.a (.str (s.extract l.toNat h.toNat))) nx K else none
  | .sl e,.sl d els=>(c.T e).bind fun te=>
   (qgo fr 0 lo).bind fun l=>(qgo fr els.length hi).bind fun h=>
   if d.sz=te.size then if 0≤l∧l≤h∧h≤els.length then qdm (.a (.sl d ((els.drop l.toNat).take (h.toNat-l.toNat)))) nx K else none else none
  | .sl e,.sm m b n=>(c.T e).bind fun te=>
   (qbZ mem m).bind fun B=>match B.bd with
   | .arr _ els=>
    (qgo fr 0 lo).bind fun l=>(qgo fr n hi).bind fun h=>
    if B.es=te.size∧0<te.size then if 0≤l∧l≤h∧b+h.toNat≤els.length∧(l<h∨lo.isNone=true)then K { v:= .v (.a (.sm m (b+l.toNat) (h.toNat-l.toNat))),upd:= [],nn:=nx,rd:= [m] } else none else none
   | .raw els=>
    (qgo fr 0 lo).bind fun l=>(qgo fr n hi).bind fun h=>
    if B.es=te.size∧0<te.size then if 0≤l∧l≤h∧b+h.toNat≤els.length∧(l<h∨lo.isNone=true)then K { v:= .v (.a (.sm m (b+l.toNat) (h.toNat-l.toNat))),upd:= [],nn:=nx,rd:= [m] } else none else none
   | .map .. =>none
  | _,_=>none
 | .fieldAddr s x f=>
  match qJ c.T s with
  | some (.st fs _)=>(fs[f]?).bind fun p=>
   if p.2=0 then none else(qbb fr x).bind fun a=>
   match a with
   | .ptr m i o=>qdm (.a (.ptr m i (o+p.1))) nx K
   | .pe d e o=>qdm (.a (.pe d e (o+p.1))) nx K
   | _=>none
  | _=>none
 | .field s x f=>
  match qJ c.T s with
  | some (.st fs ts)=>(fs[f]?).bind fun p=>(ts[f]?).bind fun ft=>(qh7 fr x).bind fun v=>
   match v with
   | .g cs=>(c.T ft).bind fun ti=>(qiF ti cs p.1).bind fun v=>qdm v nx K
   | _=>none
  | _=>none
 | .indexAddr t x i=>
  match qJ c.T t with
  | some (.sl e)=>(c.T e).bind fun te=>(qjl fr i).bind fun i=>(qbb fr x).bind fun a=>
   match a with
   | .sl d els=>if d.sz=te.size then if 0≤i then(els[i.toNat]?).bind fun el=>qdm (.a (.pe d el 0)) nx K else none else none
   | .sm m b n=>(qbZ mem m).bind fun B=>if B.es=te.size then if 0≤i∧i<n then K { v:= .v (.a (.ptr m (b+i.toNat) 0)),upd:= [],nn:=nx,rd:= [m] } else none else none
   | _=>none
  | _=>none
 | .index t x i=>match qpR fr x with
  | some cs=>(c.T t).bind fun ti=>(qjl fr i).bind fun i=>match ti.d with
   | .arr n e=>(c.T e).bind fun te=>if te.size=1∧te.agg=false∧cs.length=n then qpS i cs (fun x=>qdm (.a x) nx K)else none
   | _=>none
  | none=>(qJ c.T t).bind fun td=>(qbb fr x).bind fun a=>(qjl fr i).bind fun i=>
  match td,a with
  | .str,.str s=>
   if 0≤i then(s.data[i.toNat]?).bind fun b=>qdm (.a (.int .u8 b.toNat)) nx K else none
  | _,_=>none
 | .extract x i=>(ev2 fr x).bind fun v=>
  match v with
  | .t vs=>(vs[i]?).bind fun v=>qdm v nx K
  | _=>none
 | .call k=>
  match k.callee with
  | .builtin .len=>
   ((k.argTypes[0]?).bind fun t=>qJ c.T t).bind fun td=>((k.args[0]?).bind fun o=>qbb fr o).bind fun a=>
   match td,a with
   | .str,.str s=>qdm (.a (.int .i64 s.size)) nx K
   | .sl _,.sl _ l=>qdm (.a (.int .i64 l.length)) nx K
   | .sl _,.sm _ _ n=>qdm (.a (.int .i64 n)) nx K
   | .sl _,.snil .. =>qdm (.a (.int .i64 0)) nx K
   | .mp ..,.mp m=>(qbZ mem m).bind fun b=>match b.bd with
    | .map _ _ l=>K { v:= .v (.a (.int .i64 l.length)),upd:= [],nn:=nx,rd:= [m] }
    | _=>none
   | _,_=>none
  | .builtin .min=>
   ((k.args[0]?).bind fun o=>qbb fr o).bind fun a=>((k.args[1]?).bind fun o=>qbb fr o).bind fun b=>
   if k.args.size=2 then qzM a b nx K else none
  | .builtin .max=>
   ((k.args[0]?).bind fun o=>qbb fr o).bind fun a=>((k.args[1]?).bind fun o=>qbb fr o).bind fun b=>
   if k.args.size=2 then qzL a b nx K else none
  | .builtin .append=>
   (k.argTypes[0]?).bind fun t=>(k.argTypes[1]?).bind fun t'=>((k.args[0]?).bind fun o=>qbb fr o).bind fun s=>((k.args[1]?).bind fun o=>qbb fr o).bind fun x=>
   if t'=t then qsB c t s x mem nx K else none
  | .builtin .clear=>
   (k.argTypes[0]?).bind fun t=>((k.args[0]?).bind fun o=>qbb fr o).bind fun a=>qnk c t a mem nx K
  | .builtin _=>none
  | .value f=>
   (qbb fr f).bind fun a=>match a with
   | .fn g cs=>(qo (qh7 fr) k.args.toList).bind fun args=>qpQ c CO g (args++cs.flatMap fun p=>(p.1.cl p.2).map V2.a) mem nx K
   | _=>none
  | .invoke .. =>none
 | .makeFunc fn first cs=>if first.isEmpty=true then match fn with
  | .func f=>(qo (qbb fr) cs.toList).bind fun xs=>(qo (qng mem) xs).bind fun ps=>
   K { v:= .v (.a (.fn f (ps.map (·.1)))),upd:=fz2 mem (ps.flatMap (·.2)),nn:=nx,rd:=ps.flatMap (·.2) }
  | _=>none
  else none
 | _=>none

inductive Out2 where
 | norm (σ:St2)
 | exit (id:Nat) (σ:St2)
 | ret (σ:St2)

def qmA (nt:Nat) (d:Option Nat) (v:Sv2) (fr:List (Nat×Sv2)) (K:List (Nat×Sv2)→Option R):Option R:=
 match d with
 | some d=>if d<nt then K ((d,v)::fr)else none
 | none=>K fr
def qmB (nt:Nat) (o:Oper) (σ:St2) (is:List Info) (K:St2→List Info→Option R):Option R:=
 qsD c CO o σ.fr σ.mem σ.nx fun e=>
 qmA nt o.dst e.v σ.fr fun fr=>K { fr:=fr,mem:=qfq σ.mem e.upd,nx:=e.nn } ({ rd:=e.rd,wr:=e.upd.map (·.1) }::is)
def qk4 (nt:Nat) (o:Oper) (σ:St2) (is:List Info) (K:St2→List Info→Option R):Option R:=
 qmA nt o.dst .u σ.fr fun fr=>K { fr:=fr,mem:=σ.mem,nx:=σ.nx } ({ rd:= [],wr:= [] }::is)
def know (d:Nat) (b:Bool) (σ:St2):St2:={ σ with fr:=(d,.v (.a (.bool b)))::σ.fr }
def qq2 (nt:Nat) (ops:List Oper) (o:Oper) (σ:St2) (is:List Info) (K:St2→List Info→Option R):Option R:=
 match o.guard with
 | none=>qmB c CO nt o σ is K
 | some (j,want)=>
  ((ops[j]?).bind (·.dst)).bind fun d=>
  (lk σ.fr d).bind fun v=>
  match v with
  | .v (.a (.bool b))=>if b=want then qmB c CO nt o (know d want σ) is K else qk4 nt o (know d (!want) σ) is K
  | _=>qk4 nt o σ is K
def qjO (nt:Nat) (ops:List Oper):List Oper→St2→List Info→(St2→List Info→Option R)→Option R
 | [],σ,is,K=>K σ is
 | o::r,σ,is,K=>qq2 c CO nt ops o σ is fun σ is=>qjO nt ops r σ is K

variable (LO : Nat → Code → St2 → (Out2 → Option R) → Option R)
def qd6 (nt:Nat):Nat→Code→St2→(Out2→Option R)→Option R
 | _,.skip,σ,K=>K (.norm σ)
 | _,.region _ ops draw,σ,K=>qjO c CO nt ops.toList ops.toList σ [] fun σ' is=>if(draw && !(qkP ops.toList is.reverse))=true then none else K (.norm σ')
 | b,.seq x y,σ,K=>qd6 nt b x σ fun
  | .norm σ'=>qd6 nt b y σ' K
  | o=>K o
 | b,.cond (.tmp t) x y,σ,K=>(lk σ.fr t).bind fun v=>
  match v with
  | .v (.a (.bool q))=>if q=true then qd6 nt b x (know t true σ) K else qd6 nt b y (know t false σ) K
  | _=>none
 | b,.cond o x y,σ,K=>(qnd σ.fr o).bind fun q=>if q=true then qd6 nt b x σ K else qd6 nt b y σ K
 | _,.block id x,σ,K=>qd6 nt id x σ fun
  | .exit i σ'=>if i=id then K (.norm σ')else K (.exit i σ')
  | o=>K o
 | b,.loop x,σ,K=>LO b x σ K
 | _,.exit id,σ,K=>K (.exit id σ)
 | _,.ret,σ,K=>K (.ret σ)
 | _,.rangeFunc ..,_,_=>none
 | _,.scope _,_,_=>none
 | _,.label _,_,_=>none
 | _,.goto _,_,_=>none
 | _,.refuse _,_,_=>none
end

def qiJ (T:TypeId→Option TI) (nx:Nat):A2→A2×qu×Nat
 | .snil es ty=>(.sm nx 0 0,[(nx,some ⟨match cod T 9 ty with | some d=> .arr d [] | none=> .raw [],es,ty,true,false,true⟩)],nx+1)
 | x=>(x,[],nx)
def qhU (T:TypeId→Option TI):Nat→List A2→List A2×qu×Nat
 | nx,[]=>([],[],nx)
 | nx,x::r=>(fun p=>(fun q=>(p.1::q.1,p.2.1++q.2.1,q.2.2)) (qhU T p.2.2 r)) (qiJ T nx x)
def qin (T:TypeId→Option TI) (σ:St2):List Kp→Option (List (Nat×V2)×qu×Nat)
 | []=>some ([],[],σ.nx)
 | .s t::r=>(qin T σ r).bind fun q=>
  match lk σ.fr t with
  | some (.v (.a x))=>(fun p=>some ((t,.a p.1)::q.1,q.2.1++p.2.1,p.2.2)) (qiJ T q.2.2 x)
  | some (.v (.g cs))=>(fun p=>some ((t,.g p.1)::q.1,q.2.1++p.2.1,p.2.2)) (qhU T q.2.2 cs)
  | _=>none
 | .b t::r=>(qin T σ r).bind fun q=>
  match lk σ.fr t with
  | some (.v (.a (.ptr m 0 o)))=>(qbZ (qfq σ.mem q.2.1) m).bind fun b=>
   match b.bd with
   | .raw [e]=>(fun p=>some ((t,.a (.ptr m 0 o))::q.1,q.2.1++(p.2.1++ [(m,some ⟨.raw [p.1],b.es,b.ty,p.1.all A2.pr,b.fz,b.ar⟩)]),p.2.2)) (qhU T q.2.2 e)
   | _=>none
  | _=>none
def qmC (ρ:Nat→Option Nat):List (Nat×V2)→Option (List (Nat×Sv2))
 | []=>some []
 | (t,x)::r=>(qiE ρ x).bind fun y=>(qmC ρ r).bind fun s=>some ((t,.v y)::s)
def qmD (T:TypeId→Option TI) (p:Nat) (ks:List Kp) (σ:St2):Option St2:=
 (qin T σ ks).bind fun q=>
 frc (qfq σ.mem q.2.1) fun mem=>
 frc (clo (qcc A2.nm mem) 64 (List.range p++qdq A2.nm (q.1.map (·.2))) []) fun N=>
 (qmC (idx N) q.1).bind fun fr=>
  (qo (fun m=>(qbZ mem m).bind (qkY (idx N))) N).bind fun bs=>
  if N.take p=List.range p then some { fr:=fr,mem:=qni (List.range N.length) bs,nx:=N.length } else none

section
variable {R : Type} (c : Cfg)
def qk5 (σ:St2):ResultVar→Option V2
 | .tmp t=>qh7 σ.fr (.tmp t)
 | .cell a t=>(c.T t).bind fun ti=>
  (qbb σ.fr (.tmp a)).bind fun x=>match x with
  | .ptr m i o=>(qbZ σ.mem m).bind fun b=>match b.bd with
   | .raw els=>(els[i]?).bind fun e=>qiF ti e o
   | _=>none
  | _=>none
def qgq (T:TypeId→Option TI):Nat→List V2→List V2×qu×Nat
 | nx,[]=>([],[],nx)
 | nx,.a x::r=>(fun p=>(fun q=>(.a p.1::q.1,p.2.1++q.2.1,q.2.2)) (qgq T p.2.2 r)) (qiJ T nx x)
 | nx,.g cs::r=>(fun p=>(fun q=>(.g p.1::q.1,p.2.1++q.2.1,q.2.2)) (qgq T p.2.2 r)) (qhU T nx cs)
def qjP (f:FuncId) (rvs:List ResultVar) (p:Nat) (σ:St2) (K:List V2×List Blk2→Option R):Option R:=
 (qo (qk5 c σ) rvs).bind fun rs0=>
 frc (if c.ownR f then qgq c.T σ.nx rs0 else(rs0,[],σ.nx)) fun q=>
 frc (qfq σ.mem q.2.1) fun mem=>
 (fun K=>if c.ownR f then K q.1 else qgp (qjN c mem) rs0 K) fun rs=>
 frc (clo (if c.mutA f then qcc A2.nm mem else qcc A2.ptrs mem) 64 (List.range p++qdq A2.nm rs) []) fun N=>
 frc ((if c.ownR f then [] else qdq A2.smn rs0)++(if c.mutA f then [] else N.flatMap (qcc A2.smn mem))) fun F=>
 frc (qfq mem (fz2 mem F)) fun mem1=>
 (qo (qiE (idx N)) rs).bind fun rs'=>
  qgp (qmy c (c.mutA f) mem mem1 (idx N)) N fun bs=>
  if N.take p=List.range p then K (rs',bs)else none
def qtK (f:FuncId) (rvs:List ResultVar) (p:Nat) (K:List V2×List Blk2→Option R):Out2→Option R
 | .norm σ=>qjP c f rvs p σ K
 | .ret σ=>qjP c f rvs p σ K
 | .exit .. =>none
def qpT (args:List V2):List (Nat×Sv2):=qd4 0 (args.map Sv2.v)
def qmE (CO:FuncId→List V2→List Blk2→(List V2×List Blk2→Option R)→Option R) (LO:Nat→Code→St2→(Out2→Option R)→Option R)
  (f:FuncId) (nt:Nat) (rvs:List ResultVar) (body:Code) (args:List V2) (blks:List Blk2) (K:List V2×List Blk2→Option R):Option R:=
 qd6 c CO LO nt 0 body { fr:=qpT args,mem:=qd4 0 (blks.map some),nx:=blks.length } (qtK c f rvs blks.length K)
end


theorem qfg:∀(c:Cd) (x:c.D),(c.cl x).map A2.at=c.at x
 | .int k,x=>rfl
 | .bool,b=>rfl
 | .str,s=>rfl
 | .sl c,l=>rfl
 | .pr a b,x=>by simp only [Cd.cl,Cd.at,List.map_append,qfg a,qfg b]
 | .ref c,x=>rfl
theorem qiK {a b:Cd} {l:List a.D} {m:List b.D} (h:qjL a b l=some m):∃e:a=b,m=e▸l:=by
 unfold qjL at h
 split at h
 ·rename_i e;exact⟨e,by cases h;rfl⟩
 ·cases h
theorem qsE {a b:Cd} {l:a.D} {m:b.D} (h:qpJ a b l=some m):∃e:a=b,m=e▸l:=by
 unfold qpJ at h
 split at h
 ·rename_i e;exact⟨e,by cases h;rfl⟩
 ·cases h
theorem qzN:∀ {c:Cd} {cs:List A2} {x:c.D} {r:List A2},c.de cs=some (x,r)→cs=c.cl x++r:=by
 intro c
 induction c with
 | int k=>
  intro cs x r h
  match cs,h with
  | .int k' n::r',h=>
   simp only [Cd.de] at h
   split at h
   ·rename_i h';subst h';cases h;rfl
   ·cases h
 | bool=>
  intro cs x r h
  match cs,h with
  | .bool b::r',h=>cases h;rfl
 | str=>
  intro cs x r h
  match cs,h with
  | .str b::r',h=>cases h;rfl
 | sl c ih=>
  intro cs x r h
  match cs,h with
  | .sl c' l::r',h=>
   simp only [Cd.de,Option.bind_eq_some_iff] at h
   obtain⟨m,h1,h⟩:=h
   cases h
   obtain⟨e,rfl⟩:=qiK h1
   cases e
   rfl
 | ref c ih=>
  intro cs x r h
  match cs,h with
  | .pe c' l 0::r',h=>
   simp only [Cd.de,Option.bind_eq_some_iff] at h
   obtain⟨m,h1,h⟩:=h
   cases h
   obtain⟨e,rfl⟩:=qsE h1
   cases e
   rfl
 | pr a b iha ihb=>
  intro cs x r h
  simp only [Cd.de,Option.bind_eq_some_iff] at h
  obtain⟨p,h1,q,h2,h⟩:=h
  cases h
  rw [iha (x:=p.1) (r:=p.2) h1,ihb (x:=q.1) (r:=q.2) h2]
  simp [Cd.cl]
theorem dec_eq {c:Cd} {cs:List A2} {x:c.D} (h:c.dec cs=some x):cs=c.cl x:=by
 simp only [Cd.dec,Option.bind_eq_some_iff] at h
 obtain⟨p,h1,h⟩:=h
 split at h
 ·rename_i e
  cases h
  have:=qzN (x:=p.1) (r:=p.2) h1
  rw [e,List.append_nil] at this
  exact this
 ·cases h
theorem qhz {c:Cd} {cs:List A2} {x:c.D} (h:c.dec cs=some x):cs.map A2.at=c.at x:=by rw [dec_eq h,qfg]
theorem quR {c:Cd}:∀ {els:List (List A2)} {l:List c.D},qo c.dec els=some l→els.map (fun e=>e.map A2.at)=l.map c.at:=by
 intro els
 induction els with
 | nil=>intro l h;cases h;rfl
 | cons e els ih=>
  intro l h
  simp only [qo,Option.bind_eq_some_iff] at h
  obtain⟨y,h1,ys,h2,h⟩:=h
  cases h
  rw [List.map_cons,List.map_cons,qhz h1,ih h2]
theorem qpU (c:Option Cd) (els:List (List A2)):(qk0 c els).rows=els.map fun e=>e.map A2.at:=by
 unfold qk0
 split
 ·split
  ·rename_i h;exact(quR h).symm
  ·rfl
 ·rfl

theorem qpV (c:Option Cd) (els:List (List A2)):(qk0 c els).ents= []:=by
 unfold qk0
 split
 ·split<;>rfl
 ·rfl
theorem qtL (a:A2):a.at.nm=a.nm:=by cases a<;>rfl
theorem qnm (a:A2):a.at.smn=a.smn:=by cases a<;>rfl
theorem quS (a:A2):a.at.ptrs=a.ptrs:=by cases a<;>rfl
theorem qpW (a:A2):a.at.pr=a.pr:=by cases a<;>rfl
theorem qoV (a:A2):a.at.noSl=a.noSl:=by cases a<;>rfl
theorem qgG:∀(c:Cd) (x:c.D),∀y∈c.at x,y.nm= []∧y.smn= []∧y.ptrs= []∧y.pr=true
 | .int k,x=>by simp [Cd.at,At.nm,At.smn,At.ptrs,At.pr]
 | .bool,b=>by simp [Cd.at,At.nm,At.smn,At.ptrs,At.pr]
 | .str,s=>by simp [Cd.at,At.nm,At.smn,At.ptrs,At.pr]
 | .sl c,l=>by simp [Cd.at,At.nm,At.smn,At.ptrs,At.pr]
 | .ref c,l=>by simp [Cd.at,At.nm,At.smn,At.ptrs,At.pr]
 | .pr a b,x=>by
  intro y hy
  rcases List.mem_append.1 hy with hy | hy
  ·exact qgG a _ y hy
  ·exact qgG b _ y hy

theorem qeY (v:V2):v.at.cells=v.cells.map A2.at:=by cases v<;>rfl
theorem qzO (m:qu) (n:Nat):lk m.at n=(lk m n).map fun o=>o.map Blk2.at:=by
 induction m with
 | nil=>rfl
 | cons p m ih=>
  simp only [qu.at,List.map_cons,lk,oAt] at ih ⊢
  split
  ·rfl
  ·exact ih
theorem qaJ (m:qu) (n:Nat):qk m.at n=(qbZ m n).map Blk2.at:=by
 unfold qk qbZ
 rw [qzO]
 cases lk m n with
 | none=>rfl
 | some o=>cases o<;>rfl
theorem qvW (m:qu) (p:Nat×Option Blk2):(qpK m p).at=qb6 m.at (oAt p):=by
 induction m with
 | nil=>rfl
 | cons q m ih=>
  simp only [qpK,qu.at,List.map_cons,qb6,oAt] at ih ⊢
  split
  ·rfl
  ·simp only [List.map_cons,oAt,ih]
theorem qg6 (m u:qu):(qfq m u).at=qB m.at u.at:=by
 induction u generalizing m with
 | nil=>rfl
 | cons p u ih=>
  simp only [qfq,ih,qvW]
  rfl
theorem qfI (a b:qu):qu.at (a++b)=a.at++b.at:=by simp [qu.at]
theorem qfh (p:Nat×Option Blk2) (b:qu):qu.at (p::b)=oAt p::b.at:=rfl
theorem quT (u:qu):u.at.map (·.1)=u.map (·.1):=by simp [qu.at,oAt,Function.comp_def]

theorem qjn (vs:List V2):qd (vs.map V2.at)=qdq A2.nm vs:=by
 simp only [qd,qdq,List.flatMap_map]
 congr 1;funext v
 rw [qeY,List.flatMap_map]
 congr 1;funext a;exact qtL a
theorem qlB (vs:List V2):qfo (vs.map V2.at)=qdq A2.smn vs:=by
 simp only [qfo,qdq,List.flatMap_map]
 congr 1;funext v
 rw [qeY,List.flatMap_map]
 congr 1;funext a;exact qnm a
theorem qiL {f:At→List Nat} {g:A2→List Nat} (h1:∀a:A2,f a.at=g a) (h2:∀(c:Cd) (x:c.D),∀y∈c.at x,f y= []) (b:Bd):
  (b.rows.flatMap fun e=>e.flatMap f)=b.els2.flatMap fun e=>e.flatMap g:=by
 cases b with
 | arr c l=>
  simp only [Bd.rows,Bd.ents,Bd.els2,List.flatMap_nil,List.flatMap_eq_nil_iff,List.mem_map]
  rintro e ⟨x,_,rfl⟩ y hy
  exact h2 c x y hy
 | raw els=>
  simp only [Bd.rows,Bd.ents,Bd.els2,List.flatMap_map]
  congr 1;funext e;congr 1;funext a;exact h1 a
 | map kc vc l=>rfl
theorem qlX (m:qu):qdK m.at=qcc A2.nm m:=by
 funext n
 unfold qdK qcc
 rw [qaJ]
 cases qbZ m n with
 | none=>rfl
 | some b=>
  simp only [Option.map_some,qqK,Blk2.at]
  split
  ·rfl
  ·exact qiL qtL (fun c x y hy=>(qgG c x y hy).1) b.bd
theorem qsF (m:qu):qgj m.at=qcc A2.ptrs m:=by
 funext n
 unfold qgj qcc
 rw [qaJ]
 cases qbZ m n with
 | none=>rfl
 | some b=>
  simp only [Option.map_some,Blk2.at]
  split
  ·rfl
  ·exact qiL quS (fun c x y hy=>(qgG c x y hy).2.2.1) b.bd
theorem qoW (m:qu):qd3 m.at=qcc A2.smn m:=by
 funext n
 unfold qd3 qcc
 rw [qaJ]
 cases qbZ m n with
 | none=>rfl
 | some b=>
  simp only [Option.map_some,Blk2.at]
  split
  ·rfl
  ·exact qiL qnm (fun c x y hy=>(qgG c x y hy).2.1) b.bd

theorem qc4 {α β α' β':Type} {f:α→Option β} {g:α'→Option β'} {p:α→α'} {q:β→β'} (h:∀x y,f x=some y→g (p x)=some (q y)):
  ∀ {l:List α} {ys:List β},qo f l=some ys→qo g (l.map p)=some (ys.map q):=by
 intro l
 induction l with
 | nil=>intro ys e;cases e;rfl
 | cons x l ih=>
  intro ys e
  simp only [qo,Option.bind_eq_some_iff] at e
  obtain⟨y,e1,zs,e2,e⟩:=e
  cases e
  simp only [List.map_cons,qo,h _ _ e1,ih e2,Option.bind_some]
theorem qlC {ρ:Nat→Option Nat} {a b:A2} (h:qkX ρ a=some b):qdS ρ a.at=some b.at:=by
 cases a<;>simp only [qkX,Option.bind_eq_some_iff] at h
 case ptr m i o=>obtain⟨m',h1,h⟩:=h;cases h;simp [A2.at,qdS,h1]
 case sm m i o=>obtain⟨m',h1,h⟩:=h;cases h;simp [A2.at,qdS,h1]
 case mp m=>obtain⟨m',h1,h⟩:=h;cases h;simp [A2.at,qdS,h1]
 all_goals (cases h;rfl)
theorem qjQ {ρ:Nat→Option Nat} {a b:V2} (h:qiE ρ a=some b):qeF ρ a.at=some b.at:=by
 cases a with
 | a x=>
  simp only [qiE,Option.bind_eq_some_iff] at h
  obtain⟨y,h1,h⟩:=h
  cases h
  simp [V2.at,qeF,qlC h1]
 | g cs=>
  simp only [qiE,Option.bind_eq_some_iff] at h
  obtain⟨y,h1,h⟩:=h
  cases h
  simp [V2.at,qeF,qc4 (fun _ _=>qlC) h1]
theorem qjR {ρ:Nat→Option Nat} {a b:Blk2} (h:qkY ρ a=some b):qdJ ρ a.at=some b.at:=by
 unfold qkY at h
 unfold qdJ
 split at h
 ·rename_i hp
  cases h
  rw [if_pos (by exact hp)]
 ·rename_i hp
  rw [if_neg (by exact hp)]
  split at h
  ·rename_i els hb
   simp only [Option.bind_eq_some_iff] at h
   obtain⟨els',h1,h⟩:=h
   cases h
   have:=qc4 (p:=List.map A2.at) (q:=List.map A2.at) (fun _ _ h=>qc4 (fun _ _=>qlC) h) h1
   simp only [Blk2.at,hb,Bd.rows,Bd.ents,this,Option.bind_some]
  ·cases h

def Snd {R α:Type} (m:(α→Option R)→Option R) (Q:α→Prop):Prop:=∀K r,m K=some r→∃x,K x=some r∧Q x
theorem qfi {R α β α' β':Type} {f:α→(β→Option R)→Option R} {g:α'→Option β'} {p:α→α'} {q:β→β'} (h:∀x,Snd (f x) fun y=>g (p x)=some (q y)):
  ∀l:List α,Snd (qgp f l) fun ys=>qo g (l.map p)=some (ys.map q):=by
 intro l
 induction l with
 | nil=>intro K r e;exact⟨[],e,rfl⟩
 | cons x l ih=>
  intro K r e
  simp only [qgp] at e
  obtain⟨y,e1,h1⟩:=h x _ _ e
  obtain⟨ys,e2,h2⟩:=ih _ _ e1
  exact⟨y::ys,e2,by simp only [List.map_cons,qo,h1,h2,Option.bind_some]⟩

section
variable {R : Type} {c : Cfg}
theorem qjS (mem:qu) (a:A2):Snd (qjM (R:=R) c mem a) fun y=>qeU mem.at a.at=some y.at:=by
 intro K r e
 cases a<;>simp only [qjM] at e
 case sm m lo n=>
  simp only [Option.bind_eq_some_iff] at e
  obtain⟨b,e1,e⟩:=e
  split at e
  ·rename_i hp
   split at e
   ·rename_i d l hb
    split at e
    ·rename_i hz
     split at e
     ·rename_i hl
      refine⟨_,e,?_⟩
      have hrows:b.at.els=l.map d.at:=by simp [Blk2.at,hb,Bd.rows,Bd.ents]
      simp only [A2.at,qeU,qaJ,e1,Option.map_some,Option.bind_some,hrows]
      rw [if_pos ⟨hp,by simpa using hl⟩]
      simp only [Blk2.at,hz,List.map_take,List.map_drop,List.length_take,List.length_drop]
      rw [show min n (l.length-lo)=n by omega]
     ·cases e
    ·cases e
   ·cases e
  ·cases e
 case snil es ty=>
  simp only [Option.bind_eq_some_iff] at e
  obtain⟨d,e1,e⟩:=e
  split at e
  ·rename_i hz
   exact⟨_,e,by simp [A2.at,qeU,hz]⟩
  ·cases e
 all_goals exact⟨_,e,rfl⟩
theorem qlD (mem:qu) (v:V2):Snd (qjN (R:=R) c mem v) fun y=>qeE mem.at v.at=some y.at:=by
 intro K r e
 cases v with
 | a x=>
  obtain⟨y,e1,h1⟩:=qjS mem x (fun y=>K (.a y)) r e
  exact⟨_,e1,by simp [V2.at,qeE,h1]⟩
 | g cs=>
  obtain⟨y,e1,h1⟩:=qfi (fun a=>qjS mem a) cs (fun ys=>K (.g ys)) r e
  exact⟨_,e1,by simp [V2.at,qeE,h1]⟩
theorem quU (mem:qu) (b:Blk2):Snd (qpO (R:=R) c mem b) fun y=>qgi mem.at b.at=some y.at:=by
 intro K r e
 unfold qpO at e
 unfold qgi
 split at e
 ·rename_i hp
  exact⟨_,e,by rw [if_pos (by exact hp)]⟩
 ·rename_i hp
  split at e
  ·rename_i els hb
   obtain⟨y,e1,h1⟩:=qfi (p:=List.map A2.at) (q:=List.map A2.at) (fun l=>qfi (fun a=>qjS mem a) l) els _ _ e
   refine⟨_,e1,?_⟩
   rw [if_neg (by exact hp)]
   simp only [Blk2.at,hb,Bd.rows,Bd.ents,h1,Option.bind_some]
  ·cases e
theorem qq3 (mu:Bool) (mem mem1:qu) (ρ:Nat→Option Nat) (m:Nat):
  Snd (qmy (R:=R) c mu mem mem1 ρ m) fun y=>((qk mem1.at m).bind fun b=>(if mu then some b else qgi mem.at b).bind (qdJ ρ))=some y.at:=by
 intro K r e
 simp only [qmy,Option.bind_eq_some_iff] at e
 obtain⟨b,e1,e⟩:=e
 split at e
 ·rename_i hm
  simp only [Option.bind_eq_some_iff] at e
  obtain⟨b',e2,e⟩:=e
  exact⟨b',e,by simp [qaJ,e1,hm,qjR e2]⟩
 ·rename_i hm
  obtain⟨b1,e2,h1⟩:=quU mem b _ _ e
  simp only [Option.bind_eq_some_iff] at e2
  obtain⟨b',e3,e2⟩:=e2
  exact⟨b',e2,by simp [qaJ,e1,hm,h1,qjR e3]⟩
theorem qhV (mem:qu) (F:List Nat):(fz2 mem F).at=qaO mem.at F:=by
 induction F with
 | nil=>rfl
 | cons m F ih=>
  simp only [fz2,qaO,qaJ]
  cases qbZ mem m with
  | none=>exact ih
  | some b=>rw [Option.map_some,←ih];rfl
theorem qq4 (N:List Nat) (bs:List Blk2):(qni N bs).at=qdT N (bs.map Blk2.at):=by
 induction N generalizing bs with
 | nil=>rfl
 | cons n N ih=>
  cases bs with
  | nil=>rfl
  | cons b bs=>simp only [qni,List.map_cons,qdT,←ih];rfl
theorem qoX {α β:Type}:∀(n:Nat) (a:List α) (b:List β),a.length=b.length→cnt n a=cnt n b
 | _,[],[],_=>rfl
 | n,_::a,_::b,h=>by rw [cnt,cnt,qoX (n+1) a b (by simpa using h)]
 | _,[],_::_,h=>by simp at h
 | _,_::_,[],h=>by simp at h
theorem qvX (rs:List V2):(qvV rs).at=qlt (rs.map V2.at):=by
 match rs with
 | []=>rfl
 | [x]=>rfl
 | x::y::r=>rfl
end

def FrR (fr2:List (Nat×Sv2)) (fr:List (Nat×Sv)):Prop:=∀t v,lk fr2 t=some v→lk fr t=some v.at

section
variable {fr2 : List (Nat × Sv2)} {fr : List (Nat × Sv)}
theorem qsG {v:Value} {x:A2} (h:qnc v=some x):qkN v=some x.at:=by
  unfold qnc at h
  split at h<;>first | (cases h;rfl) | cases h
theorem FrR.ev (hF:FrR fr2 fr) {o:Operand} {v:Sv2} (h:ev2 fr2 o=some v):Go.Proofs.YtlnailgfialgnaaGreatDoor.Am.ev fr o=some v.at:=by
  cases o with
  | tmp t=>exact hF t v h
  | const v =>
    simp only [ev2,Option.bind_eq_some_iff] at h
    obtain⟨x,h1,h⟩:=h
    cases h
    simp [Am.ev,qsG h1,Sv2.at,V2.at]
  | func f=>cases h;rfl
  | global g=>cases h
theorem qvY {v:Sv2} {x:A2} (h:qsy v=some x):svA v.at=some x.at:=by
  unfold qsy at h
  split at h
  · cases h;rfl
  · cases h
theorem qvZ {v:Sv2} {x:V2} (h:qsz v=some x):svV v.at=some x.at:=by
  unfold qsz at h
  split at h
  · cases h;rfl
  · cases h
theorem FrR.evA (hF:FrR fr2 fr) {o:Operand} {x:A2} (h:qbb fr2 o=some x):Am.evA fr o=some x.at:=by
  simp only [qbb,Option.bind_eq_some_iff] at h
  obtain⟨v,h1,h⟩:=h
  simp [Am.evA,hF.ev h1,qvY h]
theorem FrR.evV (hF:FrR fr2 fr) {o:Operand} {x:V2} (h:qh7 fr2 o=some x):Am.evV fr o=some x.at:=by
  simp only [qh7,Option.bind_eq_some_iff] at h
  obtain⟨v,h1,h⟩:=h
  simp [Am.evV,hF.ev h1,qvZ h]
theorem FrR.evB (hF:FrR fr2 fr) {o:Operand} {b:Bool} (h:qnd fr2 o=some b):Am.evB fr o=some b:=by
  simp only [qnd,Option.bind_eq_some_iff] at h
  obtain⟨x,h1,h⟩:=h
  cases x<;>simp only [qvT] at h
  all_goals first | (cases h;simp [Am.evB,hF.evA h1,A2.at,asB]) | cases h
theorem FrR.evI (hF:FrR fr2 fr) {o:Operand} {i:Int} (h:qjl fr2 o=some i):Am.evI fr o=some i:=by
  simp only [qjl,Option.bind_eq_some_iff] at h
  obtain⟨x,h1,h⟩:=h
  cases x<;>simp only [qvU] at h
  all_goals first | (cases h;simp [Am.evI,hF.evA h1,A2.at,asI]) | cases h
theorem FrR.bound (hF:FrR fr2 fr) {d:Nat} {o:Option Operand} {i:Int} (h:qgo fr2 d o=some i):qcu fr d o=some i:=by
  cases o with
  | none=>exact h
  | some o=>exact hF.evI h
theorem FrR.cons (hF:FrR fr2 fr) (d:Nat) (v:Sv2):FrR ((d,v)::fr2) ((d,v.at)::fr):=by
  intro t x h
  simp only [lk] at h ⊢
  split at h
  · rename_i e;rw [if_pos e];cases h;rfl
  · rename_i e;rw [if_neg e];exact hF t x h
theorem FrR.know (hF:FrR fr2 fr) {d:Nat} {b b':Bool} (hl:lk fr2 d=some (.v (.a (.bool b)))) (hb:b=b'):FrR ((d,.v (.a (.bool b')))::fr2) fr:=by
  subst hb
  intro t x h
  simp only [lk] at h
  split at h
  · rename_i e;subst e;cases h;exact hF _ _ hl
  · exact hF t x h

theorem qv0 {x:At} {y:A2} (h:at2 x=some y):y.at=x:=by
  unfold at2 at h
  split at h<;>first | (cases h;rfl) | cases h
theorem qgH {ti:TI} {z:List A2} (h:qgn ti=some z):z.map A2.at=ti.zero∧z.length=ti.zero.length:=by
  have key:∀(l:List At) (z:List A2),qo at2 l=some z→z.map A2.at=l:=by
    intro l
    induction l with
    | nil=>intro z h;cases h;rfl
    | cons x l ih =>
      intro z h
      simp only [qo,Option.bind_eq_some_iff] at h
      obtain⟨y,h1,ys,h2,h⟩:=h
      cases h
      rw [List.map_cons,qv0 h1,ih _ h2]
  have:=key _ _ h
  exact⟨this,by rw [←this,List.length_map]⟩
theorem qq5 {T:TypeId→Option TI} {ti:TI} {z1 z:List A2} (h:qgn ti=some z1) (h2:qo (qnh T) z1=some z):z.map A2.at=zf ti∧z.length=ti.zero.length:=by
  obtain⟨q1,q2⟩:=qgH h
  have:=qc4 (f:=qnh T) (g:=fun x=>some (qls x)) (p:=A2.at) (q:=A2.at) (fun x y e=>by
    cases x<;>simp only [qnh,Option.bind_eq_some_iff] at e
    case snil es ty=>
      obtain⟨d,_,e⟩:=e
      split at e
      · rename_i hd;cases e;simp [A2.at,qls,hd]
      · cases e
    all_goals (cases e;rfl)) h2
  have key:∀l:List At,qo (fun x=>some (qls x)) l=some (l.map qls):=by
    intro l
    induction l with
    | nil=>rfl
    | cons x l ih=>simp [qo,ih]
  rw [key,q1] at this
  have hz:z.map A2.at=zf ti:=by simpa [zf] using this.symm
  exact⟨hz,by simpa [zf] using congrArg List.length hz⟩
theorem qio {ti:TI} {e:List A2} {o:Nat} {v:V2} (h:qiF ti e o=some v):qhi ti (e.map A2.at) o=some v.at:=by
  unfold qiF at h
  unfold qhi
  split at h
  · rename_i ha
    split at h
    · rename_i hl
      cases h
      rw [if_pos ha,if_pos (by simpa using hl)]
      simp [V2.at,List.map_take,List.map_drop]
    · cases h
  · rename_i ha
    simp only [Option.bind_eq_some_iff] at h
    obtain⟨x,h1,h⟩:=h
    cases h
    rw [if_neg ha]
    simp [h1,V2.at]
theorem qnn (cs:List A2) (o:Nat) (xs:List A2):(qne cs o xs).map A2.at=qeP (cs.map A2.at) o (xs.map A2.at):=by
  simp [qne,qeP,List.map_take,List.map_drop]
theorem qno {ds:List (Nat×Nat)}:∀ {ps:List (Nat×V2)} {cs r:List A2},qjm ds cs ps=some r→qhQ ds (cs.map A2.at) (ps.map fun p=>(p.1,p.2.at))=some (r.map A2.at):=by
  intro ps
  induction ps with
  | nil=>intro cs r h;cases h;rfl
  | cons p ps ih =>
    intro cs r h
    simp only [qjm,Option.bind_eq_some_iff] at h
    obtain⟨q,h1,h⟩:=h
    split at h
    · rename_i hl
      simp only [List.map_cons,qhQ,h1,Option.bind_some,qeY,List.length_map]
      rw [if_pos hl,←qnn]
      exact ih h
    · cases h
theorem qsH {es:Nat}:∀ {ps:List (Nat×V2)} {cs r:List (List A2)},qkZ es cs ps=some r→qit es (cs.map fun e=>e.map A2.at) (ps.map fun p=>(p.1,p.2.at))=some (r.map fun e=>e.map A2.at):=by
  intro ps
  induction ps with
  | nil=>intro cs r h;cases h;rfl
  | cons p ps ih =>
    intro cs r h
    simp only [qkZ] at h
    split at h
    · rename_i hl
      simp only [List.map_cons,qit,qeY,List.length_map]
      rw [if_pos hl,←List.map_set]
      exact ih h
    · cases h
theorem qnp (hF:FrR fr2 fr) {l:List (Nat×Operand)} {ps:List (Nat×V2)} (h:qo (qiH fr2) l=some ps):
    qo (fun p:Nat×Operand=>(Am.evV fr p.2).bind fun v=>some (p.1,v)) l=some (ps.map fun p=>(p.1,p.2.at)):=by
  have:=qc4 (p:=id) (q:=fun p:Nat×V2=>(p.1,p.2.at)) (f:=qiH fr2) (g:=fun p:Nat×Operand=>(Am.evV fr p.2).bind fun v=>some (p.1,v)) (fun x y h=>by
    simp only [qiH,Option.bind_eq_some_iff] at h
    obtain⟨v,h1,h⟩:=h
    cases h
    simp [hF.evV h1]) h
  simpa using this
theorem quV {ti:TI} {z:List A2} (hz:qgn ti=some z) (v:V2):qgD ti.zero v.at=(qk2 z v).at:=by
  obtain⟨q1,_⟩:=qgH hz
  rw [←q1]
  cases v with
  | g cs=>rfl
  | a x =>
    cases x with
    | snil es ty =>
      simp only [V2.at,A2.at,qgD,qk2]
      match z with
      | []=>rfl
      | [y]=>cases y<;>rfl
      | y::y2::r=>cases y<;>rfl
    | _=>rfl
theorem qq6 (hF:FrR fr2 fr) {ti:TI} {z:List A2} (hz:qgn ti=some z) {l:List (Nat×Operand)} {ps:List (Nat×V2)} (h:qo (qiH fr2) l=some ps):
    qo (fun p:Nat×Operand=>(Am.evV fr p.2).bind fun v=>some (p.1,qgD ti.zero v)) l=some ((ps.map fun p=>(p.1,qk2 z p.2)).map fun p=>(p.1,p.2.at)):=by
  have:=qc4 (p:=id) (q:=fun p:Nat×V2=>(p.1,(qk2 z p.2).at)) (f:=qiH fr2) (g:=fun p:Nat×Operand=>(Am.evV fr p.2).bind fun v=>some (p.1,qgD ti.zero v)) (fun x y h=>by
    simp only [qiH,Option.bind_eq_some_iff] at h
    obtain⟨v,h1,h⟩:=h
    cases h
    simp [hF.evV h1,quV hz]) h
  rw [List.map_map]
  simpa [Function.comp_def] using this
theorem qnq (xs:List A2):(xs.map A2.at).all At.pr=xs.all A2.pr:=by
  rw [List.all_map];congr 1;funext a;exact qpW a
theorem qq7 (els:List (List A2)):(els.map fun e=>e.map A2.at).all (fun e=>e.all At.pr)=els.all fun e=>e.all A2.pr:=by
  rw [List.all_map];congr 1;funext a;exact qnq a
end

section
variable {R : Type} {c : Cfg} {callF : FuncId → List Vl → List Blk → Option (List Vl × List Blk)} {CO : FuncId → List V2 → List Blk2 → (List V2 × List Blk2 → Option R) → Option R}
  {fr2:List (Nat×Sv2)} {fr:List (Nat×Sv)} {mem:qu} {nx:Nat}

theorem qv1 (T:TypeId→Option TI) (op:BinOp) (ty:TypeId) (a b:A2):Snd (R:=R) (qnf T op ty a b) fun y=>qhb T op ty a.at b.at=some y.at:=by
  intro K r e
  have ptr:∀(x y:A2),(if qpL x then
      match qJ T ty with
      | some .ptr =>
        match op with
        | .eql=>(qk1 x y).bind fun b=>K (.bool b)
        | .neq=>(qk1 x y).bind fun b=>K (.bool (!b))
        | _=>none
      | _=>none
      else none)=some r→∃z,K z=some r∧qhb T op ty x.at y.at=some z.at:=by
    intro x y e
    split at e
    · rename_i hp
      cases x<;>simp only [qpL] at hp<;>first | cases hp | skip
      all_goals
        cases htd:qJ T ty with
        | none=>simp only [htd] at e;cases e
        | some td =>
          cases td<;>simp only [htd] at e<;>first | cases e | skip
          cases op<;>simp only [] at e<;>first | cases e | skip
          all_goals
            cases y<;>simp only [qk1,Option.bind_none,Option.bind_some] at e<;>first | cases e | skip
            all_goals exact⟨_,e,by simp [A2.at,qhb,htd]⟩
    · cases e
  cases a with
  | int k x =>
    cases b with
    | int k' y =>
      cases op<;>simp only [qnf] at e
      case shl=>
        split at e
        · cases e
        · rename_i h;exact⟨_,e,by simp [A2.at,qhb,h]⟩
      case shr=>
        split at e
        · cases e
        · rename_i h;exact⟨_,e,by simp [A2.at,qhb,h]⟩
      all_goals
        split at e
        · rename_i hk
          subst hk
          simp only [qtJ] at e
          first
            | exact⟨_,e,by simp [A2.at,qhb,qmP]⟩
            | (split at e
               · cases e
               · rename_i h;exact⟨_,e,by simp [A2.at,qhb,qmP,h]⟩)
            | cases e
        · cases e
    | _=>exact ptr _ _ e
  | str x =>
    cases b with
    | str y =>
      cases op<;>simp only [qnf] at e
      case add=>
        split at e
        · cases e
        · rename_i h;exact⟨_,e,by simp only [A2.at,qhb];rw [if_neg h]⟩
      case eql=>exact⟨_,e,rfl⟩
      case neq=>exact⟨_,e,rfl⟩
      all_goals cases e
    | _=>exact ptr _ _ e
  | bool x =>
    cases b with
    | bool y =>
      simp only [qnf] at e
      split at e
      · rename_i h1;exact⟨_,e,by simp [A2.at,qhb,h1]⟩
      · rename_i h1;exact⟨_,e,by simp [A2.at,qhb,h1]⟩
      · cases e
    | _=>exact ptr _ _ e
  | _=>exact ptr _ _ e

theorem qzP (op:UnOp) (a:A2):Snd (R:=R) (un2 op a) fun y=>unA op a.at=some y.at:=by
  intro K r e
  cases a<;>cases op<;>simp only [un2] at e<;>first | exact⟨_,e,rfl⟩ | cases e
theorem quW (T:TypeId→Option TI) (src dst:TypeId) (a:A2):Snd (R:=R) (qpM T src dst a) fun y=>qjE T src dst a.at=some y.at:=by
  intro K r e
  unfold qpM at e
  split at e
  · split at e
    · rename_i h1 h2;exact⟨_,e,by simp [A2.at,qjE,h1,h2]⟩
    · cases e
  · rename_i s
    split at e
    · rename_i h1 h2;exact⟨_,e,by simp [A2.at,qjE,h1,h2]⟩
    · rename_i h1 h2
      split at e
      · rename_i h3
        refine⟨_,e,?_⟩
        simp only [A2.at,qjE,h1,h2,h3]
        have e1:(s.data.toList.map fun b=>(b.toNat:Int)).length=s.size:=by rw [List.length_map,Array.length_toList];rfl
        have e2:(s.data.toList.map fun b=>(b.toNat:Int)).map (Cd.at (.int .u8))=s.data.toList.map fun b=> [At.int .u8 b.toNat]:=by rw [List.map_map];rfl
        rw [e1,e2]
        rfl
      · cases e
    · cases e
  · cases e

theorem qq8 (mem:qu) (es:Nat) (a:A2) (K:Src→List Nat→Option R) (r:R) (e:qpN mem es a K=some r):
    ∃s rd,K s rd=some r∧elsOf mem.at es a.at=some (s.len,s.rows,true,rd):=by
  cases a<;>simp only [qpN] at e
  case sl c l=>
    split at e
    · rename_i h;exact⟨_,_,e,by simp [A2.at,elsOf,h,Src.len,Src.rows]⟩
    · cases e
  case snil es' ty=>exact⟨_,_,e,rfl⟩
  case sm m lo n=>
    simp only [Option.bind_eq_some_iff] at e
    obtain⟨b,e1,e⟩:=e
    split at e
    · rename_i c l hb
      split at e
      · rename_i h1
        split at e
        · rename_i h2
          split at e
          · rename_i h3
            refine⟨_,_,e,?_⟩
            have hrows:b.at.els=l.map c.at:=by simp [Blk2.at,hb,Bd.rows,Bd.ents]
            simp only [A2.at,elsOf,qaJ,e1,Option.map_some,Option.bind_some,hrows,Src.len,Src.rows,List.length_map]
            rw [if_pos ⟨h1,h3⟩]
            simp only [List.length_take,List.length_drop,List.map_take,List.map_drop,Option.some.injEq,Prod.mk.injEq,and_true,true_and]
            refine⟨by omega,?_⟩
            exact h2
          · cases e
        · cases e
      · cases e
    · cases e
  all_goals cases e
end

def COk {R:Type} (CO:FuncId→List V2→List Blk2→(List V2×List Blk2→Option R)→Option R) (callF:FuncId→List Vl→List Blk→Option (List Vl×List Blk)):Prop:=
 ∀f a b,Snd (CO f a b) fun r=>callF f (a.map V2.at) (b.map Blk2.at)=some (r.1.map V2.at,r.2.map Blk2.at)

section
variable {R : Type} {c : Cfg} {callF : FuncId → List Vl → List Blk → Option (List Vl × List Blk)} {CO : FuncId → List V2 → List Blk2 → (List V2 × List Blk2 → Option R) → Option R}
 {fr2:List (Nat×Sv2)} {fr:List (Nat×Sv)} {mem:qu} {nx:Nat}

theorem quX (t:TypeId) (s x:A2) (mem:qu) (nx:Nat):Snd (R:=R) (qsB c t s x mem nx) fun e=>qdL c t s.at x.at mem.at nx=some e.at:=by
 intro K r e
 unfold qsB at e
 unfold qdL
 split at e
 ·rename_i el htd
  simp only [Option.bind_eq_some_iff] at e
  obtain⟨te,hte,e⟩:=e
  split at e
  ·rename_i hst
   obtain⟨src,rd,e',hsrc⟩:=qq8 _ _ _ _ _ e
   clear e
   have e:=e'
   clear e'
   have hlen:src.rows.length=src.len:=by cases src<;>simp [Src.rows,Src.len]
   simp only [htd,hte,Option.bind_some,hsrc]
   cases s<;>simp only [] at e
   case snil es' ty'=>
    split at e
    ·simp only [Option.bind_eq_some_iff] at e
     obtain⟨d,hd,e⟩:=e
     refine⟨_,e,?_⟩
     simp only [A2.at,Option.bind_some,Src.len,Src.rows]
     refine(if_pos ⟨by simp,hst⟩).trans ?_
     simp [Eff2.at,qu.at,oAt,Blk2.at,Bd.rows,Bd.ents,Sv2.at,V2.at,A2.at]
    ·rename_i d l
     split at e
     ·rename_i hb
      refine⟨_,e,?_⟩
      simp only [A2.at,Option.bind_some,Src.len,Src.rows]
      refine(if_pos ⟨by simpa using hb,hst⟩).trans ?_
      simp [Eff2.at,qu.at,oAt,Blk2.at,Bd.rows,Bd.ents,Sv2.at,V2.at,A2.at]
     ·cases e
   case sm m lo n=>
    simp only [Option.bind_eq_some_iff] at e
    obtain⟨b,hb,e⟩:=e
    split at e
    ·rename_i d l hbd
     split at e
     ·rename_i hc
      split at e
      ·rename_i hlo
       subst hlo
       split at e
       ·rename_i hn
        have hrows:b.at.els=l.map d.at:=by simp [Blk2.at,hbd,Bd.rows,Bd.ents]
        simp only [A2.at,qaJ,hb,Option.map_some,Option.bind_some,hrows,List.length_map]
        rw [if_pos (show(True∧b.at.es=te.size∧b.at.ty=el∧n≤l.length∧(!b.at.fz)=true)from⟨trivial,hc.1,hc.2.1,hn,by have:=hc.2.2.1;simp [Blk2.at,this]⟩) ]
        have hpr:b.at.pr=true:=hc.2.2.2
        simp only [Option.bind_some,hpr]
        split at e
        ·split at e
         ·rename_i hbd2
          refine⟨_,e,?_⟩
          simp only [Src.len,Src.rows]
          refine(if_pos ⟨by simpa using hbd2,hst⟩).trans ?_
          simp [Eff2.at,qu.at,oAt,Blk2.at,Bd.rows,Bd.ents,Sv2.at,V2.at,A2.at,List.map_take]
         ·cases e
        ·rename_i d' l'
         simp only [Option.bind_eq_some_iff] at e
         obtain⟨l2,hl2,e⟩:=e
         obtain⟨hdd,rfl⟩:=qiK hl2
         subst hdd
         split at e
         ·rename_i hbd2
          refine⟨_,e,?_⟩
          simp only [Src.len,Src.rows]
          refine(if_pos ⟨by simpa using hbd2,hst⟩).trans ?_
          simp [Eff2.at,qu.at,oAt,Blk2.at,Bd.rows,Bd.ents,Sv2.at,V2.at,A2.at,List.map_take]
         ·cases e
       ·cases e
      ·cases e
     ·cases e
    ·cases e
   all_goals cases e
  ·cases e
 ·cases e

theorem quY (f:FuncId) (mem:qu) (args:List V2):Snd (R:=R) (fun K=>if c.mutA f then K args else qgp (qjN c mem) args K) fun vals=>(if c.mutA f then some (args.map V2.at)else qo (qeE mem.at) (args.map V2.at))=some (vals.map V2.at):=by
 intro K r e
 simp only [] at e
 split at e
 ·rename_i h;exact⟨_,e,by rw [if_pos h]⟩
 ·rename_i h
  obtain⟨x,e1,h1⟩:=qfi (fun v=>qlD mem v) args _ _ e
  exact⟨x,e1,by rw [if_neg h];exact h1⟩
theorem qq9 (f:FuncId) (mem:qu) (l acc:List Nat):clo (fun m=>if c.mutA f then qdK mem.at m else qgj mem.at m) 64 l acc=clo (if c.mutA f then qcc A2.nm mem else qcc A2.ptrs mem) 64 l acc:=by
 congr 1
 funext m
 split
 ·rw [qlX]
 ·rw [qsF]
theorem qnr (rs:List V2):(rs.map V2.at).all (fun v=>v.cells.all At.noSl)=rs.all fun v=>v.cells.all A2.noSl:=by
 rw [List.all_map];congr 1;funext v
 simp only [Function.comp_def,qeY,List.all_map]
 congr 1;funext a;exact qoV a
theorem qns {α β:Type} (f:α→β) (l:List α):(l.map f).isEmpty=l.isEmpty:=by cases l<;>rfl

theorem qkm:∀(c:Cd),qiG c=true→∀x:c.D,(c.at x).all At.noSl=true
 | .int _,_,_=>rfl
 | .bool,_,_=>rfl
 | .str,_,_=>rfl
 | .pr a b,h,x=>by
  simp only [qiG,Bool.and_eq_true] at h
  simp only [Cd.at,List.all_append,qkm a h.1,qkm b h.2,Bool.and_self]
 | .sl _,h,_=>by simp [qiG] at h
 | .ref _,h,_=>by simp [qiG] at h
theorem qsI {b:Blk2} (h:qnj b=true):qjG b.at=true:=by
 obtain⟨bd,es,ty,pr,fz,ar⟩:=b
 simp only [qnj,Bool.and_eq_true] at h
 obtain⟨h1,h2⟩:=h
 cases bd with
 | arr c l=>
  simp only [qjG,Blk2.at,Bd.ents,Bd.rows,h1,List.isEmpty_nil,Bool.true_and,List.all_map,List.all_eq_true]
  intro x _
  exact qkm c h2 x
 | raw els=>
  simp only [qjG,Blk2.at,Bd.ents,Bd.rows,h1,List.isEmpty_nil,Bool.true_and,List.all_map,List.all_eq_true] at h2 ⊢
  intro e he
  simp only [Function.comp_def,List.all_map,List.all_eq_true]
  intro y hy
  rw [qoV]
  exact h2 e he y hy
 | map=>simp at h2
theorem quZ {l:Bool} {N:List Nat} {rs:List V2} {bs:List Blk2} {u:qu} {r:qu} (h:qpP l N rs bs u=some r):qms l N (rs.map V2.at) (bs.map Blk2.at) u.at=some r.at:=by
 unfold qpP at h
 unfold qms
 cases l with
 | true=>
  simp only [if_true] at h ⊢
  split at h
  ·rename_i hq
   cases h
   simp only [Bool.and_eq_true] at hq
   rw [if_pos]
   ·rfl
   ·simp only [Bool.and_eq_true,qnr]
    refine⟨hq.1,hq.2.1,?_⟩
    rw [List.all_map,List.all_eq_true]
    exact fun b hb=>qsI (List.all_eq_true.1 hq.2.2 b hb)
  ·cases h
 | false=>
  cases h
  simp only [Bool.false_eq_true,if_false,qns,qnr]
  split<;>rfl

theorem qu0 (hC:COk CO callF) (f:FuncId) (args:List V2) (mem:qu) (nx:Nat):Snd (qpQ c CO f args mem nx) fun e=>qgd c callF f (args.map V2.at) mem.at nx=some e.at:=by
 intro K r e
 unfold qpQ at e
 obtain⟨vals,e,h1⟩:=quY f mem args _ _ e
 obtain⟨blks,e,h2⟩:=qfi (q:=Blk2.at) (p:=id) (g:=fun m=>(qk (qu.at _) m).bind fun b=>(if c.mutA f then some b else qgi mem.at b).bind (qdJ (idx _))) (fun m=>qq3 _ _ _ _ m) _ _ _ e
 simp only [Option.bind_eq_some_iff] at e
 obtain⟨vals',h3,e⟩:=e
 obtain⟨r1,e,h4⟩:=hC _ _ _ _ _ e
 simp only [Option.bind_eq_some_iff] at e
 obtain⟨rs,h5,bs,h6,lu,h7,e⟩:=e
 refine⟨_,e,?_⟩
 unfold qgd
 rw [h1]
 simp only [Option.bind_some,qjn,qlB,qoW,qq9]
 rw [List.map_id,qg6,qhV] at h2
 rw [h2]
 simp only [Option.bind_some]
 have h3':=qc4 (fun _ _=>qjQ) h3
 rw [h3']
 simp only [Option.bind_some,h4]
 have hcn:∀N:List Nat,cnt nx ((r1.2.map Blk2.at).drop N.length)=cnt nx (r1.2.drop N.length):=fun N=>qoX _ _ _ (by simp)
 simp only [hcn]
 have h5':=qc4 (fun _ _=>qjQ) h5
 have h6':=qc4 (fun _ _=>qjR) h6
 rw [h5',Option.bind_some,h6',Option.bind_some]
 have h7':=quZ h7
 rw [qhV] at h7'
 rw [h7',Option.bind_some]
 simp only [Eff2.at,qvX,List.length_map,qfI,qq4]

theorem qD:qu.at []= []:=rfl
theorem qu1 (els:List (List A2)):qkf (els.map fun e=>e.map A2.at)=qmx els:=by
 simp only [qkf,qmx,List.flatMap_map]
 congr 1;funext e
 congr 1;funext a;exact qnm a
theorem qv2 {d:TD} {kc:Cd} (h:qh6 d kc=true) (x y:kc.D):qjF ((kc.at x).headD .nilp) ((kc.at y).headD .nilp)=kEq kc x y:=by
 cases d<;>cases kc<;>simp [qh6] at h<;>simp [Cd.at,qjF,kEq]
theorem qnt {d:TD} {kc:Cd} (h:qh6 d kc=true) (x:kc.D):qdY d ((kc.at x).headD .nilp)=true:=by
 cases d<;>cases kc<;>simp [qh6] at h<;>simp [Cd.at,qdY,h]
theorem qkn {d:TD} {kc vc:Cd} (h:qh6 d kc=true) (x:kc.D):∀l:List (kc.D×vc.D),qgk (Bd.map kc vc l).ents ((kc.at x).headD .nilp)=(qef kc vc l x).map fun q=>(q.1,(vc.at q.2).headD .nilp)
 | []=>rfl
 | p::l=>by
  have ih:=qkn h x l
  simp only [Bd.ents] at ih
  simp only [Bd.ents,List.map_cons,qgk,qef,qv2 h,ih]
  split
  ·rfl
  ·cases qef kc vc l x<;>rfl
theorem qu2 {d:TD} {kc vc:Cd} (h:qh6 d kc=true) (x:kc.D) (v:vc.D) (l:List (kc.D×vc.D)):(Bd.map kc vc (qao kc vc l x v)).ents=qhw (Bd.map kc vc l).ents ((kc.at x).headD .nilp) ((vc.at v).headD .nilp):=by
 unfold qhw qao
 rw [qkn h]
 cases qef kc vc l x with
 | none=>simp [Bd.ents]
 | some q=>simp [Bd.ents,List.map_set]
theorem qko {c:Cd} {a:A2} {x:c.D} (h:c.dec [a]=some x):(c.at x).headD .nilp=a.at:=by
 rw [←qhz h];rfl
theorem qu3 {d:TD} {kc vc:Cd} (h:qh6 d kc=true) (l:List (kc.D×vc.D)):(Bd.map kc vc l).ents.all (fun p=>qdY d p.1)=true:=by
 rw [List.all_eq_true]
 intro p hp
 simp only [Bd.ents,List.mem_map] at hp
 obtain⟨q,_,rfl⟩:=hp
 exact qnt h _
theorem qtM {T:TypeId→Option TI} {t:TypeId} {mem:qu} {m:Nat} {b:Blk2} {kc vc:Cd} {l:List (kc.D×vc.D)} {d:TD} {kt et:Nat} {ka:At} (htd:qJ T t=some (.mp kt et)) (h2:qJ T kt=some d) (h1:qbZ mem m=some b) (hbd:b.bd= .map kc vc l)
  (hc:qh6 d kc=true) (hk:qdY d ka=true):mapM T t mem.at (.mp m) ka=some (et,m,b.at):=by
 have hall:=qu3 (vc:=vc) hc l
 rw [←hbd] at hall
 unfold mapM
 simp only [htd,h2,Option.bind_some,qaJ,h1,Option.map_some]
 rw [if_pos ⟨hk,hall⟩]
theorem qoY (t:TypeId) (a key v:A2) (mem:qu) (nx:Nat):Snd (R:=R) (qmz c t a key v mem nx) fun e=>((mapM c.T t mem.at a.at key.at).bind fun q=>
  if v.at.pr=true∧(!q.2.2.fz)=true then some { v:= .u,upd:= [(q.2.1,some { q.2.2 with mp:=qhw q.2.2.mp key.at v.at })],nn:=nx,rd:= [q.2.1] } else none)=some e.at:=by
 intro K r e
 unfold qmz at e
 split at e
 ·rename_i m
  simp only [Option.bind_eq_some_iff] at e
  obtain⟨b,h1,e⟩:=e
  split at e
  ·rename_i kc vc l hbd
   split at e
   ·rename_i kt et htd
    simp only [Option.bind_eq_some_iff] at e
    obtain⟨d,h2,e⟩:=e
    split at e
    ·rename_i hc
     simp only [Option.bind_eq_some_iff] at e
     obtain⟨kx,h3,vx,h4,e⟩:=e
     refine⟨_,e,?_⟩
     have hk:=qko h3
     have hv:=qko h4
     have hpr:v.at.pr=true:=by
      have hd:=qhz h4
      exact(qgG vc vx v.at (by rw [←hd];simp)).2.2.2
     have hm:mapM c.T t mem.at (A2.mp m).at key.at=some (et,m,b.at):=qtM htd h2 h1 hbd hc.1 (by rw [←hk];exact qnt hc.1 _)
     rw [hm,Option.bind_some,if_pos ⟨hpr,by simp [Blk2.at,hc.2]⟩]
     have hs:=qu2 hc.1 kx vx l
     rw [hk,hv] at hs
     simp [Eff2.at,qD,qfh,oAt,Blk2.at,hbd,Bd.rows,Sv2.at,hs]
    ·cases e
   ·cases e
  ·cases e
 ·cases e
theorem qsJ (t:TypeId) (a key:A2) (ok:Bool) (mem:qu) (nx:Nat):Snd (R:=R) (qnl c t a key ok mem nx) fun e=>((mapM c.T t mem.at a.at key.at).bind fun q=>(c.T q.1).bind fun te=>
  if ok=false∧te.agg=false∧te.size=1∧te.zero.length=te.size then
   (match qgk q.2.2.mp key.at with | some r=>some r.2 | none=>te.zero[0]?).bind fun v=>some { v:= .v (.a v),upd:= [],nn:=nx,rd:= [q.2.1] }
  else none)=some e.at:=by
 intro K r e
 unfold qnl at e
 split at e
 ·rename_i m
  simp only [Option.bind_eq_some_iff] at e
  obtain⟨b,h1,e⟩:=e
  split at e
  ·rename_i kc vc l hbd
   split at e
   ·rename_i kt et htd
    simp only [Option.bind_eq_some_iff] at e
    obtain⟨d,h2,e⟩:=e
    split at e
    ·rename_i hc
     simp only [Option.bind_eq_some_iff] at e
     obtain⟨kx,h3,te,h4,e⟩:=e
     split at e
     ·rename_i hz
      simp only [Option.bind_eq_some_iff] at e
      obtain⟨z,h5,z0,h6,e⟩:=e
      refine⟨_,e,?_⟩
      have hk:=qko h3
      obtain⟨q1,q2⟩:=qgH h5
      have q3:=qhz h6
      rw [q1] at q3
      have hm:mapM c.T t mem.at (A2.mp m).at key.at=some (et,m,b.at):=qtM htd h2 h1 hbd hc (by rw [←hk];exact qnt hc _)
      have hcl:∀y:vc.D,((vc.cl y).headD .nilp).at=(vc.at y).headD .nilp:=by
       intro y
       rw [←qfg]
       cases vc.cl y<;>rfl
      have hcl2:∀y:vc.D,((vc.cl y).head?.getD .nilp).at=(vc.at y).head?.getD .nilp:=by
       intro y
       rw [←qfg]
       cases vc.cl y<;>rfl
      have hf:=qkn (vc:=vc) hc kx l
      rw [hk,←hbd] at hf
      simp only [hm,h4,Option.bind_some]
      rw [if_pos hz]
      have hmp:b.at.mp=b.bd.ents:=rfl
      simp only [hmp,hf]
      have hz0:te.zero[0]? =some ((vc.at z0).headD .nilp):=by
       rw [q3]
       have hl:(vc.at z0).length=1:=by rw [←q3,hz.2.2.2,hz.2.2.1]
       match vc.at z0,hl with
       | [y],_=>rfl
      unfold qhd
      cases qef kc vc l kx with
      | none=>simp [hz0,Eff2.at,qD,Sv2.at,V2.at,hcl2]
      | some q=>simp [Eff2.at,qD,Sv2.at,V2.at,hcl2]
     ·cases e
    ·cases e
   ·cases e
  ·cases e
 ·cases e
theorem qoZ {x:A2} {p:Sigma Cd.D} (h:qmw x=some p): [x.at]=p.1.at p.2∧x.at.pr=true∧∀mem,qhv mem x.at=some (x.at,[]):=by
 cases x<;>simp only [qmw] at h<;>first | (cases h;exact⟨rfl,rfl,fun _=>rfl⟩) | cases h
theorem qu4 {mem:qu} {x:A2} {p:Sigma Cd.D×List Nat} (h:qng mem x=some p):∃y,qhv mem.at x.at=some (y,p.2)∧ [y]=p.1.1.at p.1.2:=by
 cases x with
 | ptr m i o=>
  simp only [qng,Option.bind_eq_some_iff] at h
  obtain⟨b,h1,h⟩:=h
  split at h
  ·rename_i hp
   split at h
   ·rename_i ho
    split at h
    ·rename_i els hbd
     simp only [Option.bind_eq_some_iff] at h
     obtain⟨e,h2,h⟩:=h
     split at h
     ·rename_i x
      simp only [Option.bind_eq_some_iff] at h
      obtain⟨q,h3,h⟩:=h
      cases h
      obtain⟨k1,k2,k3⟩:=qoZ h3
      have h1':qk mem.at m=some b.at:=by rw [qaJ,h1];rfl
      have he:b.at.els[i]? =some [x.at]:=by
       simp [Blk2.at,hbd,Bd.rows,Bd.ents,h2]
      refine⟨.pp [x.at] o,?_,?_⟩
      ·simp only [A2.at,qhv,h1',Option.bind_some]
       rw [if_pos (show b.at.pr=true from hp),he]
       rfl
      ·simp only [Cd.at,ho,k1]
     ·cases h
    ·cases h
   ·cases h
  ·cases h
 | _=>
  simp only [qng,Option.bind_eq_some_iff] at h
  obtain⟨q,h1,h⟩:=h
  cases h
  obtain⟨k1,k2,k3⟩:=qoZ h1
  exact⟨_,k3 _,k1⟩
theorem qsK {mem:qu}:∀ {xs:List A2} {ps:List (Sigma Cd.D×List Nat)},qo (qng mem) xs=some ps→
  ∃ys,qo (qhv mem.at) (xs.map A2.at)=some ys∧ys.map (·.1)=(ps.map (·.1)).flatMap (fun p=>p.1.at p.2)∧ys.flatMap (·.2)=ps.flatMap (·.2):=by
 intro xs
 induction xs with
 | nil=>intro ps h;cases h;exact⟨[],rfl,rfl,rfl⟩
 | cons x xs ih=>
  intro ps h
  simp only [qo,Option.bind_eq_some_iff] at h
  obtain⟨p,h1,ps',h2,h⟩:=h
  cases h
  obtain⟨ys,i1,i2,i3⟩:=ih h2
  obtain⟨y,k1,k2⟩:=qu4 h1
  refine⟨(y,p.2)::ys,?_,?_,?_⟩
  ·simp only [List.map_cons,qo,k1,i1,Option.bind_some]
  ·simp only [List.map_cons,List.flatMap_cons,←k2,i2];rfl
  ·simp only [List.flatMap_cons,i3]
theorem qv3 (mem:qu) (m:Nat) (v:V2):Snd (R:=R) (qsA c mem m v) fun q=>arF mem.at m v.at=some (q.1.at,q.2):=by
 intro K r e
 simp only [qsA,Option.bind_eq_some_iff] at e
 obtain⟨b,h1,e⟩:=e
 have h1':qk mem.at m=some b.at:=by rw [qaJ,h1];rfl
 simp only [arF,h1',Option.bind_some]
 split at e
 ·rename_i hb
  obtain⟨v',e,h2⟩:=qlD mem v _ _ e
  refine⟨_,e,?_⟩
  rw [if_pos (by exact hb),h2,Option.bind_some]
  have:qfo [v.at]=qdq A2.smn [v]:=qlB [v]
  rw [this]
 ·rename_i hb
  exact⟨_,e,by rw [if_neg (by exact hb)]⟩
theorem qsL (t:TypeId) (a:A2) (mem:qu) (nx:Nat):Snd (R:=R) (qnk c t a mem nx) fun e=>qeV c t a.at mem.at nx=some e.at:=by
 intro K r e
 unfold qnk at e
 unfold qeV
 split at e
 ·rename_i el htd
  simp only [Option.bind_eq_some_iff] at e
  obtain⟨te,h1,z1,h2,z,h2',e⟩:=e
  obtain⟨q1,q2⟩:=qq5 h2 h2'
  simp only [htd,h1,Option.bind_some]
  split at e
  ·exact⟨_,e,by simp [A2.at,Eff2.at,qu.at,Sv2.at]⟩
  ·rename_i m lo n
   simp only [Option.bind_eq_some_iff] at e
   obtain⟨b,h3,e⟩:=e
   split at e
   ·rename_i d l hb
    split at e
    ·rename_i hc
     simp only [Option.bind_eq_some_iff] at e
     obtain⟨z0,h4,e⟩:=e
     split at e
     ·rename_i hl
      refine⟨_,e,?_⟩
      have h4':=qhz h4
      rw [q1] at h4'
      simp only [A2.at,qaJ,h3,Option.map_some,Option.bind_some,Blk2.at,hb,Bd.rows,Bd.ents,List.length_map]
      rw [if_pos ⟨hl,hc.1,by simp [hc.2.1],by omega,hc.2.2.2⟩]
      simp [Eff2.at,qu.at,oAt,Blk2.at,Bd.rows,Bd.ents,Sv2.at,h4',List.map_take,List.map_drop]
     ·cases e
    ·cases e
   ·cases e
  ·cases e
 ·cases e
theorem FrR.gSome {fr2:List (Nat×Sv2)} {fr:List (Nat×Sv)} (hF:FrR fr2 fr) {o:Operand} {cs:List A2} (h:qpR fr2 o=some cs):gOf fr o=some (cs.map A2.at):=by
 unfold qpR at h
 split at h
 ·rename_i hh;cases h;unfold gOf;rw [hF.ev hh];rfl
 ·cases h
theorem FrR.gNone {fr2:List (Nat×Sv2)} {fr:List (Nat×Sv)} (hF:FrR fr2 fr) {o:Operand} {x:A2} (h:qbb fr2 o=some x):gOf fr o=none:=by
 have:=hF.evA h
 simp only [Am.evA,Option.bind_eq_some_iff] at this
 obtain⟨v,h1,h2⟩:=this
 unfold gOf
 rw [h1]
 unfold Am.svA at h2
 split at h2
 ·rfl
 ·cases h2
theorem qra {R:Type}:∀(cs ds:List A2) (K:Bool→Option R) (r:R),qiI cs ds=true→eqK cs ds K=some r→∃b,eqA (cs.map A2.at) (ds.map A2.at)=some b∧K b=some r
 | [],ds,K,r,h,e=>by
  cases ds with
  | nil=>exact⟨true,rfl,e⟩
  | cons d ds=>simp [qiI] at h
 | c::cs,[],K,r,h,e=>by cases c<;>simp [qiI] at h
 | c::cs,d::ds,K,r,h,e=>by
  unfold qiI at h
  split at h
  ·rename_i h1 h2;cases h1
  ·rename_i k x r1 k2 y r2 h1 h2
   cases h1;cases h2
   split at h
   ·rename_i hk
    have hk:=of_decide_eq_true hk
    subst hk
    have tot:∃b,eqA (cs.map A2.at) (ds.map A2.at)=some b:=by
     clear e
     revert h
     generalize cs=l
     generalize ds=m
     intro h
     induction l generalizing m with
     | nil=>
      cases m with
      | nil=>exact⟨true,rfl⟩
      | cons b m=>simp [qiI] at h
     | cons a l ih=>
      cases m with
      | nil=>cases a<;>simp [qiI] at h
      | cons b m=>
       unfold qiI at h
       split at h
       ·rename_i h1 h2;cases h1
       ·rename_i k' x' r1 k2' y' r2 h1 h2
        cases h1;cases h2
        split at h
        ·rename_i hk'
         have hk':=of_decide_eq_true hk'
         subst hk'
         obtain⟨b,hb⟩:=ih _ h
         exact⟨(x' == y' && b),by simp [A2.at,eqA,hb]⟩
        ·cases h
       ·cases h
    unfold eqK at e
    by_cases hxy:x=y
    ·subst hxy
     rw [if_pos (by simp)] at e
     obtain⟨b,b1,b2⟩:=qra cs ds K r h e
     exact⟨b,by simp [A2.at,eqA,b1],b2⟩
    ·rw [if_neg (by simpa using hxy)] at e
     obtain⟨b,hb⟩:=tot
     refine⟨false,?_,e⟩
     have:(x == y)=false:=by simpa using hxy
     simp [A2.at,eqA,hb,this]
   ·cases h
  ·cases h
theorem qv4 {R:Type} (op:BinOp) (ti:TI) (cs:List A2) (v:V2) (nx:Nat) (K:Eff2→Option R) {r:R} (e:qsC op ti cs v nx K=some r):∃z:Eff2,K z=some r∧eqG op ti (cs.map A2.at) v.at nx=some z.at:=by
 unfold qsC at e
 split at e
 ·rename_i fs ts ds hd
  split at e
  ·rename_i hc
   split at e
   ·rename_i ho
    obtain⟨b,b1,b2⟩:=qra _ _ _ _ ho e
    unfold eqG
    simp only [hd,V2.at]
    rw [if_pos ⟨hc.1,by simpa using hc.2⟩,b1,Option.bind_some]
    split at b2
    ·exact⟨_,b2,by simp [val,Eff2.at,qD,Sv2.at,V2.at,A2.at]⟩
    ·exact⟨_,b2,by simp [val,Eff2.at,qD,Sv2.at,V2.at,A2.at]⟩
    ·cases b2
   ·cases e
  ·cases e
 ·cases e
theorem qrb {R:Type}:∀(i:Int) (cs:List A2) (K:A2→Option R) {r:R},qpS i cs K=some r→∃x,0≤i∧i<cs.length∧(cs.map A2.at)[i.toNat]? =some x.at∧K x=some r
 | i,[],K,r,e=>by cases e
 | i,c::cs,K,r,e=>by
  unfold qpS at e
  split at e
  ·rename_i h
   subst h
   exact⟨c,by omega,by simp only [List.length_cons];omega,by simp,e⟩
  ·rename_i h
   obtain⟨x,h1,h2,h3,h4⟩:=qrb (i-1) cs K e
   refine⟨x,by omega,by simp only [List.length_cons];omega,?_,h4⟩
   have:i.toNat=(i-1).toNat+1:=by omega
   rw [this]
   simpa using h3
theorem qv5 (hC:COk CO callF) (hF:FrR fr2 fr) (o:Oper):Snd (qsD c CO o fr2 mem nx) fun e=>stp c callF o fr mem.at nx=some e.at:=by
 intro K r e
 obtain⟨dst,op,type,pos,after,guard⟩:=o
 have mv:∀x:Operand,((ev2 fr2 x).bind fun v=>
   match v with
   | .v (.a (.snil ..))=>match qJ c.T type with
    | some (.sl e)=>(c.T e).bind fun te=>qdm (.a (.snil te.size e)) nx K
    | _=>none
   | .u=>none
   | v=>K { v:=v,upd:= [],nn:=nx,rd:= [] })=some r→∃z:Eff2,K z=some r∧((ev fr x).bind fun v=>
  match v with
  | .v (.a (.snil ..))=>match qJ c.T type with
   | some (.sl e)=>(c.T e).bind fun te=>val (.a (.snil te.size e)) nx
   | _=>none
  | .u=>none
  | v=>some { v:=v,upd:= [],nn:=nx,rd:= [] })=some z.at:=by
  intro x e
  simp only [Option.bind_eq_some_iff] at e
  obtain⟨v,h1,e⟩:=e
  rw [hF.ev h1,Option.bind_some]
  split at e
  ·split at e
   ·rename_i htd
    simp only [Option.bind_eq_some_iff] at e
    obtain⟨te,h2,e⟩:=e
    exact⟨_,e,by simp [Sv2.at,V2.at,A2.at,htd,h2,val,Eff2.at,qD]⟩
   ·cases e
  ·cases e
  ·rename_i h2 h3
   refine⟨_,e,?_⟩
   cases v with
   | u=>exact absurd rfl h3
   | t vs=>rfl
   | v y=>
    cases y with
    | g cs=>rfl
    | a z=>
     cases z with
     | snil es ty=>exact absurd rfl (h2 es ty)
     | _=>rfl
 cases op<;>simp only [qsD] at e<;>simp only [stp]
 case move x=>exact mv x e
 case assign x=>exact mv x e
 case pick k a b=>
  simp only [Option.bind_eq_some_iff] at e
  obtain⟨t,h1,e⟩:=e
  rw [hF.evB h1,Option.bind_some]
  split at e
  ·rename_i ht
   subst ht
   simp only [Option.bind_eq_some_iff] at e
   obtain⟨x,h2,e⟩:=e
   exact⟨_,e,by simp [hF.evA h2,val,Eff2.at,Sv2.at,V2.at,qD]⟩
  ·rename_i ht
   simp only [Option.bind_eq_some_iff] at e
   obtain⟨x,h2,e⟩:=e
   exact⟨_,e,by simp [ht,hF.evA h2,val,Eff2.at,Sv2.at,V2.at,qD]⟩
 case alloc t=>
  simp only [Option.bind_eq_some_iff] at e
  obtain⟨ti,h1,z,h2,e⟩:=e
  obtain⟨q1,q2⟩:=qgH h2
  split at e
  ·rename_i hl
   refine⟨_,e,?_⟩
   rw [h1,Option.bind_some,if_neg (by have:=hl.2;have:=hl.1;omega)]
   simp [Eff2.at,qD,qfh,oAt,Blk2.at,Bd.rows,Bd.ents,Sv2.at,V2.at,A2.at,q1]
  ·cases e
 case box t x=>
  simp only [Option.bind_eq_some_iff] at e
  obtain⟨ti,h1,v,h2,e⟩:=e
  split at e
  ·rename_i hl
   refine⟨_,e,?_⟩
   rw [h1,Option.bind_some,hF.evV h2,Option.bind_some,qeY,if_pos ⟨by simpa using hl.1,hl.2⟩]
   rw [qnq]
   simp [Eff2.at,qD,qfh,oAt,Blk2.at,Bd.rows,Bd.ents,Sv2.at,V2.at,A2.at]
  ·cases e
 case build t parts=>
  simp only [Option.bind_eq_some_iff] at e
  obtain⟨ti,h1,e⟩:=e
  rw [h1,Option.bind_some]
  split at e
  ·rename_i fs ts hd
   simp only [Option.bind_eq_some_iff] at e
   obtain⟨z,h2,e⟩:=e
   obtain⟨q1,q2⟩:=qgH h2
   split at e
   ·rename_i hl
    simp only [Option.bind_eq_some_iff] at e
    obtain⟨ps,h3,cs,h4,e⟩:=e
    refine⟨_,e,?_⟩
    have h4':=qno h4
    rw [q1] at h4'
    simp only [hd]
    rw [if_neg (by omega),qnp hF h3,Option.bind_some,h4',Option.bind_some]
    simp [val,Eff2.at,Sv2.at,V2.at,qD]
   ·cases e
  ·rename_i na el hd
   simp only [Option.bind_eq_some_iff] at e
   obtain⟨te,h5,z,h2,e⟩:=e
   obtain⟨q1,q2⟩:=qgH h2
   split at e
   ·rename_i hl
    simp only [Option.bind_eq_some_iff] at e
    obtain⟨ps,h3,cs,h4,e⟩:=e
    refine⟨_,e,?_⟩
    have h4':=qno h4
    rw [q1] at h4'
    simp only [hd]
    rw [h5,Option.bind_some,if_neg (by omega),qnp hF h3,Option.bind_some,h4',Option.bind_some]
    simp [val,Eff2.at,Sv2.at,V2.at,qD]
   ·cases e
  ·cases e
 case buildSlice t len parts=>
  split at e
  ·rename_i el htd
   simp only [Option.bind_eq_some_iff] at e
   obtain⟨te,h1,z,h2,ps,h3,els0,h4,e⟩:=e
   obtain⟨q1,q2⟩:=qgH h2
   obtain⟨els,e,hz⟩:=qfi (p:=List.map A2.at) (q:=List.map A2.at) (fun l=>qfi (fun a=>qjS mem a) l) els0 _ _ e
   split at e
   ·rename_i hl
    refine⟨_,e,?_⟩
    have h4':=qsH h4
    rw [List.map_replicate,q1] at h4'
    simp only [htd]
    have hz':qpo mem.at (els0.map fun e=>e.map A2.at)=some (els.map fun e=>e.map A2.at):=hz
    rw [h1,Option.bind_some,qq6 hF h2 h3,Option.bind_some,h4',Option.bind_some,hz',Option.bind_some,if_pos ⟨hl.1,hl.2.1,hl.2.2.1,by omega⟩]
    simp [Eff2.at,qD,qfh,qfI,oAt,Blk2.at,qpU,qpV,Sv2.at,V2.at,A2.at,qhV,qu1]
    have:=qq7 els
    rw [List.all_map] at this
    simpa [Function.comp_def] using this
   ·cases e
  ·cases e
 case load t x=>
  simp only [Option.bind_eq_some_iff] at e
  obtain⟨ti,h1,a,h2,e⟩:=e
  rw [h1,Option.bind_some,hF.evA h2,Option.bind_some]
  split at e
  ·rename_i m i o
   simp only [Option.bind_eq_some_iff] at e
   obtain⟨b,h3,e⟩:=e
   split at e
   ·rename_i els hb
    simp only [Option.bind_eq_some_iff] at e
    obtain⟨el,h4,v,h5,e⟩:=e
    refine⟨_,e,?_⟩
    simp [A2.at,qaJ,h3,Blk2.at,hb,Bd.rows,Bd.ents,h4,qio h5,Eff2.at,qD,Sv2.at]
   ·rename_i d l hb
    simp only [Option.bind_eq_some_iff] at e
    obtain⟨el,h4,v,h5,e⟩:=e
    refine⟨_,e,?_⟩
    have h5':=qio h5
    rw [qfg] at h5'
    simp [A2.at,qaJ,h3,Blk2.at,hb,Bd.rows,Bd.ents,h4,h5',Eff2.at,qD,Sv2.at]
   ·cases e
  ·rename_i d el o
   simp only [Option.bind_eq_some_iff] at e
   obtain⟨v,h5,e⟩:=e
   refine⟨_,e,?_⟩
   have h5':=qio h5
   rw [qfg] at h5'
   simp [A2.at,h5',val,Eff2.at,qD,Sv2.at]
  ·cases e
 case store t x y=>
  simp only [Option.bind_eq_some_iff] at e
  obtain⟨ti,h1,v,h2,a,h3,e⟩:=e
  rw [h1,Option.bind_some,hF.evV h2,Option.bind_some,hF.evA h3,Option.bind_some]
  split at e
  ·rename_i m i o
   obtain⟨q,e,hq⟩:=qv3 mem m v _ _ e
   simp only [frc,Option.bind_eq_some_iff] at e
   obtain⟨b,h4,e⟩:=e
   have h4':qk (qB mem.at (qaO mem.at q.2)) m=some b.at:=by
    rw [←qhV,←qg6,qaJ,h4];rfl
   split at e
   ·rename_i els hb
    simp only [Option.bind_eq_some_iff] at e
    obtain⟨el,h5,e⟩:=e
    split at e
    ·rename_i hl
     refine⟨_,e,?_⟩
     simp only [A2.at,hq,Option.bind_some,h4',Blk2.at,hb,Bd.rows,Bd.ents,List.getElem?_map,h5,Option.map_some,qeY,List.length_map]
     rw [if_pos ⟨hl.1,hl.2.1,by simp [hl.2.2]⟩]
     simp [Eff2.at,qD,qfh,qfI,qhV,oAt,Blk2.at,Bd.rows,Bd.ents,Sv2.at,List.map_set,qnn,Function.comp_def,qpW]
    ·cases e
   ·rename_i d l hb
    simp only [Option.bind_eq_some_iff] at e
    obtain⟨el,h5,e⟩:=e
    split at e
    ·rename_i hl
     simp only [Option.bind_eq_some_iff] at e
     obtain⟨el',h6,e⟩:=e
     refine⟨_,e,?_⟩
     have h6':=qhz h6
     rw [qnn,qfg] at h6'
     have hlen:o+ti.size≤(d.at el).length:=by have:=hl.2.1;rwa [←List.length_map (f:=A2.at),qfg] at this
     simp only [A2.at,hq,Option.bind_some,h4',Blk2.at,hb,Bd.rows,Bd.ents,List.getElem?_map,h5,Option.map_some,qeY,List.length_map]
     rw [if_pos ⟨hl.1,hlen,by simp [hl.2.2.1]⟩]
     simp [Eff2.at,qD,qfh,qfI,qhV,oAt,Blk2.at,Bd.rows,Bd.ents,Sv2.at,List.map_set,h6',Function.comp_def,qpW]
    ·cases e
   ·cases e
  ·cases e
 case nilCheck x=>
  simp only [Option.bind_eq_some_iff] at e
  obtain⟨a,h1,e⟩:=e
  rw [hF.evA h1,Option.bind_some]
  split at e
  ·exact⟨_,e,by simp [A2.at,val,Eff2.at,qD,Sv2.at,V2.at]⟩
  ·exact⟨_,e,by simp [A2.at,val,Eff2.at,qD,Sv2.at,V2.at]⟩
  ·cases e
 case binOp op ty x y u=>
  split at e
  ·rename_i cs hg
   simp only [Option.bind_eq_some_iff] at e
   obtain⟨ti,h1,v,h2,e⟩:=e
   rw [hF.gSome hg]
   simp only [h1,Option.bind_some,hF.evV h2]
   exact qv4 op ti cs v nx K e
  simp only [Option.bind_eq_some_iff] at e
  obtain⟨a,h1,b,h2,e⟩:=e
  obtain⟨z,e,h3⟩:=qv1 c.T op ty a b _ _ e
  rw [hF.gNone h1]
  exact⟨_,e,by simp [hF.evA h1,hF.evA h2,h3,valA,val,Eff2.at,qD,Sv2.at,V2.at]⟩
 case unOp op ty x=>
  simp only [Option.bind_eq_some_iff] at e
  obtain⟨a,h1,e⟩:=e
  obtain⟨z,e,h3⟩:=qzP op a _ _ e
  exact⟨_,e,by simp [hF.evA h1,h3,valA,val,Eff2.at,qD,Sv2.at,V2.at]⟩
 case convert src ds x=>
  simp only [Option.bind_eq_some_iff] at e
  obtain⟨a,h1,e⟩:=e
  rw [hF.evA h1,Option.bind_some]
  split at e
  ·rename_i el ht1 ht2
   simp only [ht1,ht2]
   split at e
   ·rename_i ht3
    obtain⟨s,rd,e,h2⟩:=qq8 _ _ _ _ _ e
    simp only [ht3,h2,Option.bind_some]
    split at e
    ·refine⟨_,e,?_⟩
     simp [Src.rows,qge,Eff2.at,qD,Sv2.at,V2.at,A2.at]
    ·rename_i l
     refine⟨_,e,?_⟩
     have key:∀l:List Int,qge (l.map (Cd.at (.int .u8)))=some (l.map fun n:Int=>n.toNat.toUInt8):=by
      intro l
      induction l with
      | nil=>rfl
      | cons x l ih=>
       simp only [List.map_cons]
       show(qge (l.map (Cd.at (.int .u8)))).bind _=_
       rw [ih]
       rfl
     have key':=key l
     simp only [Src.rows,key',Option.bind_some,Eff2.at,qD,Sv2.at,V2.at,A2.at,List.map_nil]
    ·cases e
   ·cases e
  ·rename_i hno
   obtain⟨z,e,h3⟩:=quW c.T src ds a _ _ e
   refine⟨_,e,?_⟩
   split
   ·rename_i el ht1 ht2;exact absurd ht2 (hno el ht1)
   ·simp [h3,valA,val,Eff2.at,qD,Sv2.at,V2.at]
 case makeSlice t l k=>
  split at e
  ·rename_i el htd
   simp only [Option.bind_eq_some_iff] at e
   obtain⟨te,h1,z1,h2,z,h2',d,h3,z0,h4,l,h5,k,h6,e⟩:=e
   obtain⟨q1,q2⟩:=qq5 h2 h2'
   split at e
   ·rename_i hs
    split at e
    ·rename_i hb
     refine⟨_,e,?_⟩
     have h4':=qhz h4
     rw [q1] at h4'
     simp only [htd]
     rw [h1,Option.bind_some,hF.evI h5,Option.bind_some,hF.evI h6,Option.bind_some,if_pos ⟨hb.1,hb.2.1,hb.2.2,hs.1,hs.2.1,by omega⟩]
     simp [Eff2.at,qD,qfh,oAt,Blk2.at,Bd.rows,Bd.ents,Sv2.at,V2.at,A2.at,h4']
    ·cases e
   ·cases e
  ·cases e
 case slice t x lo hi mx=>
  split at e
  ·cases e
  ·rename_i hmx
   rw [if_neg hmx]
   simp only [Option.bind_eq_some_iff] at e
   obtain⟨td,h1,a,h2,e⟩:=e
   rw [h1,Option.bind_some,hF.evA h2,Option.bind_some]
   split at e
   ·rename_i s
    simp only [Option.bind_eq_some_iff] at e
    obtain⟨l,h3,h,h4,e⟩:=e
    split at e
    ·rename_i hb
     refine⟨_,e,?_⟩
     simp only [A2.at,hF.bound h3,hF.bound h4,Option.bind_some]
     rw [if_pos hb]
     simp [val,Eff2.at,qD,Sv2.at,V2.at,A2.at]
    ·cases e
   ·rename_i el d els
    simp only [Option.bind_eq_some_iff] at e
    obtain⟨te,h3,l,h4,h,h5,e⟩:=e
    split at e
    ·rename_i hz
     split at e
     ·rename_i hb
      refine⟨_,e,?_⟩
      simp only [A2.at,h3,hF.bound h4,hF.bound h5,Option.bind_some]
      rw [if_pos ⟨hb.1,hb.2.1,hb.2.2,hz⟩]
      simp only [val,Eff2.at,qD,Sv2.at,V2.at,A2.at,List.map_nil,List.map_take,List.map_drop,List.length_take,List.length_drop]
      rw [show min (h.toNat-l.toNat) (els.length-l.toNat)=h.toNat-l.toNat by omega]
     ·cases e
    ·cases e
   ·rename_i el m b n
    simp only [Option.bind_eq_some_iff] at e
    obtain⟨te,h3,B,h4,e⟩:=e
    split at e
    ·rename_i d els hbd
     simp only [Option.bind_eq_some_iff] at e
     obtain⟨l,h5,h,h6,e⟩:=e
     split at e
     ·rename_i hz
      split at e
      ·rename_i hb
       refine⟨_,e,?_⟩
       simp only [A2.at,h3,qaJ,h4,Option.map_some,hF.bound h5,hF.bound h6,Option.bind_some]
       rw [if_pos ⟨hb.1,hb.2.1,by simpa [Blk2.at,hbd,Bd.rows,Bd.ents] using hb.2.2.1,hb.2.2.2,hz.1,hz.2⟩]
       simp [Eff2.at,qD,Sv2.at,V2.at,A2.at]
      ·cases e
     ·cases e
    ·rename_i els hbd
     simp only [Option.bind_eq_some_iff] at e
     obtain⟨l,h5,h,h6,e⟩:=e
     split at e
     ·rename_i hz
      split at e
      ·rename_i hb
       refine⟨_,e,?_⟩
       simp only [A2.at,h3,qaJ,h4,Option.map_some,hF.bound h5,hF.bound h6,Option.bind_some]
       rw [if_pos ⟨hb.1,hb.2.1,by simpa [Blk2.at,hbd,Bd.rows,Bd.ents] using hb.2.2.1,hb.2.2.2,hz.1,hz.2⟩]
       simp [Eff2.at,qD,Sv2.at,V2.at,A2.at]
      ·cases e
     ·cases e
    ·cases e
   ·cases e
 case fieldAddr s x f=>
  split at e
  ·rename_i fs ts htd
   simp only [htd]
   simp only [Option.bind_eq_some_iff] at e
   obtain⟨p,h1,e⟩:=e
   rw [h1,Option.bind_some]
   split at e
   ·cases e
   ·rename_i h0
    rw [if_neg h0]
    simp only [Option.bind_eq_some_iff] at e
    obtain⟨a,h2,e⟩:=e
    rw [hF.evA h2,Option.bind_some]
    split at e
    ·exact⟨_,e,by simp [A2.at,val,Eff2.at,qD,Sv2.at,V2.at]⟩
    ·exact⟨_,e,by simp [A2.at,val,Eff2.at,qD,Sv2.at,V2.at]⟩
    ·cases e
  ·cases e
 case field s x f=>
  split at e
  ·rename_i fs ts htd
   simp only [htd]
   simp only [Option.bind_eq_some_iff] at e
   obtain⟨p,h1,ft,h2,v,h3,e⟩:=e
   rw [h1,Option.bind_some,h2,Option.bind_some,hF.evV h3,Option.bind_some]
   split at e
   ·simp only [Option.bind_eq_some_iff] at e
    obtain⟨ti,h4,v',h5,e⟩:=e
    refine⟨_,e,?_⟩
    simp [V2.at,h4,qio h5,val,Eff2.at,qD,Sv2.at]
   ·cases e
  ·cases e
 case indexAddr t x i=>
  split at e
  ·rename_i el htd
   simp only [Option.bind_eq_some_iff] at e
   obtain⟨te,h1,i,h2,a,h3,e⟩:=e
   simp only [htd]
   rw [h1,Option.bind_some,hF.evI h2,Option.bind_some,hF.evA h3,Option.bind_some]
   split at e
   ·rename_i d els
    split at e
    ·rename_i hz
     split at e
     ·rename_i h0
      simp only [Option.bind_eq_some_iff] at e
      obtain⟨y,h4,e⟩:=e
      refine⟨_,e,?_⟩
      have hlt:i.toNat<els.length:=(List.getElem?_eq_some_iff.1 h4).1
      simp only [A2.at]
      rw [if_pos ⟨h0,by omega,hz⟩]
      simp [h4,val,Eff2.at,qD,Sv2.at,V2.at,A2.at]
     ·cases e
    ·cases e
   ·rename_i m b n
    simp only [Option.bind_eq_some_iff] at e
    obtain⟨B,h4,e⟩:=e
    split at e
    ·rename_i hz
     split at e
     ·rename_i hb
      refine⟨_,e,?_⟩
      simp only [A2.at,qaJ,h4,Option.map_some,Option.bind_some]
      rw [if_pos ⟨hb.1,hb.2,hz⟩]
      simp [Eff2.at,qD,Sv2.at,V2.at,A2.at]
     ·cases e
    ·cases e
   ·cases e
  ·cases e
 case index t x i=>
  split at e
  ·rename_i cs hg
   simp only [Option.bind_eq_some_iff] at e
   obtain⟨ti,h1,i,h2,e⟩:=e
   rw [hF.gSome hg]
   simp only [h1,Option.bind_some,hF.evI h2]
   split at e
   ·rename_i n el hd
    simp only [Option.bind_eq_some_iff] at e
    obtain⟨te,h3,e⟩:=e
    split at e
    ·rename_i hc
     obtain⟨x,q1,q2,q3,e⟩:=qrb _ _ _ e
     refine⟨_,e,?_⟩
     simp only [hd,h3,Option.bind_some]
     rw [if_pos ⟨hc.1,hc.2.1,q1,by omega⟩]
     simp [q3,val,Eff2.at,qD,Sv2.at,V2.at]
    ·cases e
   ·cases e
  simp only [Option.bind_eq_some_iff] at e
  obtain⟨td,h1,a,h2,i,h3,e⟩:=e
  rw [hF.gNone h2]
  simp only
  rw [h1,Option.bind_some,hF.evA h2,Option.bind_some,hF.evI h3,Option.bind_some]
  split at e
  ·rename_i s
   split at e
   ·rename_i h0
    simp only [Option.bind_eq_some_iff] at e
    obtain⟨b,h4,e⟩:=e
    refine⟨_,e,?_⟩
    simp only [A2.at]
    rw [if_pos h0,h4]
    simp [val,Eff2.at,qD,Sv2.at,V2.at,A2.at]
   ·cases e
  ·cases e
 case extract x i=>
  simp only [Option.bind_eq_some_iff] at e
  obtain⟨v,h1,e⟩:=e
  rw [hF.ev h1,Option.bind_some]
  split at e
  ·simp only [Option.bind_eq_some_iff] at e
   obtain⟨y,h2,e⟩:=e
   refine⟨_,e,?_⟩
   simp [Sv2.at,h2,val,Eff2.at,qD]
  ·cases e
 case call k=>
  obtain⟨callee,args,argTypes⟩:=k
  cases callee with
  | builtin bi=>
   cases bi<;>try simp only [] at e ⊢
   case len=>
    obtain⟨td,h1,e⟩:=Option.bind_eq_some_iff.1 e
    obtain⟨a,h2,e⟩:=Option.bind_eq_some_iff.1 e
    obtain⟨o,h3,h4⟩:=Option.bind_eq_some_iff.1 h2
    try simp only [] at h1 h3
    rw [h1,Option.bind_some,h3,Option.bind_some,hF.evA h4,Option.bind_some]
    split at e
    all_goals first | exact⟨_,e,by simp [A2.at,val,Eff2.at,qD,Sv2.at,V2.at]⟩ | skip
    ·obtain⟨b,h5,e⟩:=Option.bind_eq_some_iff.1 e
     split at e
     ·rename_i hbd
      exact⟨_,e,by simp [A2.at,qaJ,h5,Blk2.at,hbd,Bd.ents,Eff2.at,qD,Sv2.at,V2.at]⟩
     ·cases e
    ·cases e
   case min=>
    obtain⟨x,h1,e⟩:=Option.bind_eq_some_iff.1 e
    obtain⟨y,h2,e⟩:=Option.bind_eq_some_iff.1 e
    obtain⟨o3,h3,h3'⟩:=Option.bind_eq_some_iff.1 h1
    obtain⟨o4,h4,h4'⟩:=Option.bind_eq_some_iff.1 h2
    try simp only [] at h3 h4
    rw [h3,Option.bind_some,hF.evA h3',Option.bind_some,h4,Option.bind_some,hF.evA h4',Option.bind_some]
    split at e
    ·rename_i hq
     rw [if_pos hq]
     cases x<;>cases y<;>first | (cases e;done) | exact⟨_,e,by simp [qsh,A2.at,val,Eff2.at,qD,Sv2.at,V2.at]⟩
    ·cases e
   case max=>
    obtain⟨x,h1,e⟩:=Option.bind_eq_some_iff.1 e
    obtain⟨y,h2,e⟩:=Option.bind_eq_some_iff.1 e
    obtain⟨o3,h3,h3'⟩:=Option.bind_eq_some_iff.1 h1
    obtain⟨o4,h4,h4'⟩:=Option.bind_eq_some_iff.1 h2
    try simp only [] at h3 h4
    rw [h3,Option.bind_some,hF.evA h3',Option.bind_some,h4,Option.bind_some,hF.evA h4',Option.bind_some]
    split at e
    ·rename_i hq
     rw [if_pos hq]
     cases x<;>cases y<;>first | (cases e;done) | exact⟨_,e,by simp [qsg,A2.at,val,Eff2.at,qD,Sv2.at,V2.at]⟩
    ·cases e
   case clear=>
    obtain⟨t,h1,e⟩:=Option.bind_eq_some_iff.1 e
    obtain⟨a,h2,e⟩:=Option.bind_eq_some_iff.1 e
    obtain⟨o3,h3,h3'⟩:=Option.bind_eq_some_iff.1 h2
    try simp only [] at h1 h3
    rw [h1,Option.bind_some,h3,Option.bind_some,hF.evA h3',Option.bind_some]
    exact qsL _ _ _ _ _ _ e
   case append=>
    obtain⟨t,h1,e⟩:=Option.bind_eq_some_iff.1 e
    obtain⟨t',h2,e⟩:=Option.bind_eq_some_iff.1 e
    obtain⟨s,h3,e⟩:=Option.bind_eq_some_iff.1 e
    obtain⟨x,h4,e⟩:=Option.bind_eq_some_iff.1 e
    obtain⟨o3,h3,h3'⟩:=Option.bind_eq_some_iff.1 h3
    obtain⟨o4,h4,h4'⟩:=Option.bind_eq_some_iff.1 h4
    rw [h1,Option.bind_some,h2,Option.bind_some,h3,Option.bind_some,hF.evA h3',Option.bind_some,h4,Option.bind_some,hF.evA h4',Option.bind_some]
    split at e
    ·rename_i ht
     rw [if_pos ht]
     exact quX _ _ _ _ _ _ _ e
    ·cases e
   all_goals cases e
  | value f=>
   simp only [] at e ⊢
   obtain⟨a,h1,e⟩:=Option.bind_eq_some_iff.1 e
   rw [hF.evA h1,Option.bind_some]
   split at e
   ·rename_i g cs
    obtain⟨zs,h2,e⟩:=Option.bind_eq_some_iff.1 e
    obtain⟨z,e,h3⟩:=qu0 hC _ _ _ _ _ _ e
    refine⟨z,e,?_⟩
    simp only [A2.at]
    have h2':=qc4 (p:=id) (q:=V2.at) (f:=qh7 fr2) (g:=evV fr) (fun x y h=>hF.evV h) h2
    rw [List.map_id] at h2'
    rw [h2',Option.bind_some]
    have hc:(cs.flatMap fun p=>(p.1.cl p.2).map V2.a).map V2.at=(cs.flatMap fun p=>p.1.at p.2).map Vl.a:=by
     rw [List.map_flatMap,List.map_flatMap]
     congr 1;funext p
     rw [←qfg,List.map_map,List.map_map]
     rfl
    rw [List.map_append,hc] at h3
    exact h3
   ·cases e
  | invoke=>cases e
 case makeMap t r=>
  split at e
  ·rename_i hr
   rw [if_pos hr]
   split at e
   ·simp only [Option.bind_eq_some_iff] at e
    obtain⟨kc,h1,vc,h2,e⟩:=e
    exact⟨_,e,by simp [Eff2.at,qD,qfh,oAt,Blk2.at,Bd.rows,Bd.ents,Sv2.at,V2.at,A2.at]⟩
   ·cases e
  ·cases e
 case lookup t x k ok=>
  simp only [Option.bind_eq_some_iff] at e
  obtain⟨a,h1,key,h2,e⟩:=e
  obtain⟨z,e,hz⟩:=qsJ t a key ok mem nx _ _ e
  exact⟨z,e,by rw [hF.evA h1,Option.bind_some,hF.evA h2,Option.bind_some];exact hz⟩
 case mapUpdate t x k y=>
  simp only [Option.bind_eq_some_iff] at e
  obtain⟨a,h1,key,h2,v,h3,e⟩:=e
  obtain⟨z,e,hz⟩:=qoY t a key v mem nx _ _ e
  exact⟨z,e,by rw [hF.evA h1,Option.bind_some,hF.evA h2,Option.bind_some,hF.evA h3,Option.bind_some];exact hz⟩
 case insert t x k y=>
  simp only [Option.bind_eq_some_iff] at e
  obtain⟨a,h1,key,h2,v,h3,e⟩:=e
  obtain⟨z,e,hz⟩:=qoY t a key v mem nx _ _ e
  exact⟨z,e,by rw [hF.evA h1,Option.bind_some,hF.evA h2,Option.bind_some,hF.evA h3,Option.bind_some];exact hz⟩
 case makeFunc fn first cs=>
  split at e
  ·rename_i hf
   rw [if_pos hf]
   split at e
   ·rename_i f
    simp only [Option.bind_eq_some_iff] at e
    obtain⟨xs,h1,ps,h2,e⟩:=e
    refine⟨_,e,?_⟩
    have h1':=qc4 (p:=id) (q:=A2.at) (f:=qbb fr2) (g:=evA fr) (fun x y h=>hF.evA h) h1
    rw [List.map_id] at h1'
    obtain⟨ys,q0,q1,q2⟩:=qsK h2
    simp only [h1',q0,Option.bind_some]
    simp [Eff2.at,Sv2.at,V2.at,A2.at,q1,q2,qhV]
   ·cases e
  ·cases e
 all_goals cases e
end

structure StR (σ2:St2) (σ:St):Prop where
 fr:FrR σ2.fr σ.fr
 mem:σ.mem=σ2.mem.at
 nx:σ.nx=σ2.nx
def qc8:Out2→Out→Prop
 | .norm σ2,.norm σ=>StR σ2 σ
 | .exit i σ2,.exit j σ=>i=j∧StR σ2 σ
 | .ret σ2,.ret σ=>StR σ2 σ
 | _,_=>False
def qhA (Q:Nat→Code→Prop):Nat→Code→Prop
 | b,.seq x y=>qhA Q b x∧qhA Q b y
 | b,.cond _ x y=>qhA Q b x∧qhA Q b y
 | _,.block id x=>qhA Q id x
 | b,.loop x=>Q b x
 | _,_=>True

section
variable {R : Type} {c : Cfg} {callF : FuncId → List Vl → List Blk → Option (List Vl × List Blk)} {CO : FuncId → List V2 → List Blk2 → (List V2 × List Blk2 → Option R) → Option R}
 {LO:Nat→Code→St2→(Out2→Option R)→Option R} {σ2:St2} {σ:St} {nt:Nat} {ops:List Oper}

theorem qo0 {d:Option Nat} {v:Sv2} {fr2:List (Nat×Sv2)} {fr:List (Nat×Sv)} (hF:FrR fr2 fr) {K:List (Nat×Sv2)→Option R} {r:R} (e:qmA nt d v fr2 K=some r):
  ∃fr2',K fr2'=some r∧∃fr',qfp nt fr d v.at=some fr'∧FrR fr2' fr':=by
 cases d with
 | none=>exact⟨_,e,fr,rfl,hF⟩
 | some d=>
  simp only [qmA] at e
  split at e
  ·rename_i h;exact⟨_,e,_,by simp only [qfp];rw [if_pos h],hF.cons d v⟩
  ·cases e

theorem qrc (hC:COk CO callF) (hs:StR σ2 σ) (o:Oper) (is:List Info) (F:St→List Info→Option (St×List Info)) {K:St2→List Info→Option R} {r:R} (e:qmB c CO nt o σ2 is K=some r):
  ∃ σ2' is',K σ2' is'=some r∧∃ σ',qkg F nt o σ is (stp c callF o σ.fr σ.mem σ.nx)=F σ' is'∧StR σ2' σ':=by
 unfold qmB at e
 obtain⟨ef,e,h1⟩:=qv5 hC hs.fr o _ _ e
 obtain⟨fr2',e,fr',h2,h3⟩:=qo0 hs.fr e
 refine⟨_,_,e,{ fr:=fr',mem:=qB σ.mem ef.at.upd,nx:=ef.at.nn },?_,⟨h3,?_,rfl⟩⟩
 ·rw [hs.mem,hs.nx,h1]
  simp only [qkg]
  rw [show ef.at.v=ef.v.at from rfl,h2]
  simp only [qh4,hs.mem]
  congr 2
  simp [Eff2.at,quT]
 ·simp [Eff2.at,hs.mem,qg6]
theorem qo1 (hs:StR σ2 σ) (o:Oper) (is:List Info) (F:St→List Info→Option (St×List Info)) {K:St2→List Info→Option R} {r:R} (e:qk4 nt o σ2 is K=some r):
  ∃ σ2' is',K σ2' is'=some r∧∃ σ',qh4 F σ.mem σ.nx { rd:= [],wr:= [] } is (qfp nt σ.fr o.dst .u)=F σ' is'∧StR σ2' σ':=by
 unfold qk4 at e
 obtain⟨fr2',e,fr',h2,h3⟩:=qo0 hs.fr e
 refine⟨_,_,e,{ fr:=fr',mem:=σ.mem,nx:=σ.nx },?_,⟨h3,hs.mem,hs.nx⟩⟩
 rw [show Sv2.at .u=Sv.u from rfl] at h2
 rw [h2];rfl
theorem qjT (hs:StR σ2 σ) {d:Nat} {b b':Bool} (hl:lk σ2.fr d=some (.v (.a (.bool b)))) (hb:b=b'):StR (know d b' σ2) σ:=
 ⟨hs.fr.know hl hb,hs.mem,hs.nx⟩

theorem qv6 (hC:COk CO callF):∀(l:List Oper) (σ2:St2) (σ:St) (is:List Info) (K:St2→List Info→Option R) (r:R),StR σ2 σ→qjO c CO nt ops l σ2 is K=some r→
  ∃ σ2' is',K σ2' is'=some r∧∃ σ',qcv c callF nt ops l σ is=some (σ',is')∧StR σ2' σ':=by
 intro l
 induction l with
 | nil=>intro σ2 σ is K r hs e;exact⟨_,_,e,σ,rfl,hs⟩
 | cons o l ih=>
  intro σ2 σ is K r hs e
  simp only [qjO] at e
  unfold qq2 at e
  have hrun:qcv c callF nt ops (o::l) σ is=qfP c callF (qcv c callF nt ops l) nt o σ is (qdG ops o σ.fr):=rfl
  split at e
  ·rename_i hg
   obtain⟨σ2',is',e,σ',h1,h2⟩:=qrc hC hs o is (qcv c callF nt ops l) e
   obtain⟨σ2'',is'',e,σ'',h3,h4⟩:=ih _ _ _ _ _ h2 e
   refine⟨_,_,e,σ'',?_,h4⟩
   rw [hrun,qdG,hg]
   simp only [qfP,h1,h3]
  ·rename_i j want hg
   simp only [Option.bind_eq_some_iff] at e
   obtain⟨d,hd,v,hv,e⟩:=e
   have hv':=hs.fr d v hv
   have hd':(ops[j]?.bind fun x=>x.dst)=some d:=Option.bind_eq_some_iff.2 hd
   split at e
   ·rename_i b
    split at e
    ·rename_i hb
     obtain⟨σ2',is',e,σ',h1,h2⟩:=qrc hC (qjT hs hv hb) o is (qcv c callF nt ops l) e
     obtain⟨σ2'',is'',e,σ'',h3,h4⟩:=ih _ _ _ _ _ h2 e
     refine⟨_,_,e,σ'',?_,h4⟩
     rw [hrun,qdG,hg]
     simp only [hd',Option.bind_some,hv',Sv2.at,V2.at,A2.at,hb,beq_self_eq_true,qfP,h1,h3]
    ·rename_i hb
     obtain⟨σ2',is',e,σ',h1,h2⟩:=qo1 (qjT hs hv (by cases b<;>cases want<;>simp_all)) o is (qcv c callF nt ops l) e
     obtain⟨σ2'',is'',e,σ'',h3,h4⟩:=ih _ _ _ _ _ h2 e
     refine⟨_,_,e,σ'',?_,h4⟩
     have hb':(b == want)=false:=by simpa using hb
     rw [hrun,qdG,hg]
     simp only [hd',Option.bind_some,hv',Sv2.at,V2.at,A2.at,hb',qfP,h1,h3]
   ·rename_i hno
    obtain⟨σ2',is',e,σ',h1,h2⟩:=qo1 hs o is (qcv c callF nt ops l) e
    obtain⟨σ2'',is'',e,σ'',h3,h4⟩:=ih _ _ _ _ _ h2 e
    refine⟨_,_,e,σ'',?_,h4⟩
    have hw:qdG ops o σ.fr=some false:=by
     rw [qdG,hg]
     simp only [hd',Option.bind_some,hv']
     cases v with
     | u=>rfl
     | t vs=>rfl
     | v y=>cases y with
      | g cs=>rfl
      | a z=>cases z<;>first | rfl | exact absurd rfl (hno _)
    rw [hrun,hw]
    simp only [qfP,h1,h3]

variable {kp : Nat → List Kp} {k p : Nat}
def LOk (LO:Nat→Code→St2→(Out2→Option R)→Option R) (c:Cfg) (callF:FuncId→List Vl→List Blk→Option (List Vl×List Blk)) (kp:Nat→List Kp) (nt k p:Nat) (b:Nat) (x:Code):Prop:=
 ∀ σ2 σ,StR σ2 σ→Snd (LO b x σ2) fun o2=>∃o,qhR (qgR p (kp b)) (qba c callF kp nt k p b x) k σ=some o∧qc8 o2 o

theorem qrd (hC:COk CO callF):∀(x:Code) (b:Nat) (σ2:St2) (σ:St),qhA (LOk LO c callF kp nt k p) b x→StR σ2 σ→
  Snd (qd6 c CO LO nt b x σ2) fun o2=>∃o,qba c callF kp nt k p b x σ=some o∧qc8 o2 o:=by
 intro x
 induction x with
 | skip=>intro b σ2 σ hL hs K r e;exact⟨_,e,_,rfl,hs⟩
 | region id ops draw=>
  intro b σ2 σ hL hs K r e
  simp only [qd6] at e
  obtain⟨σ2',is',e,σ',h1,h2⟩:=qv6 hC _ _ _ _ _ _ hs e
  split at e
  ·cases e
  ·rename_i hd
   refine⟨_,e,.norm σ',?_,h2⟩
   simp only [qba,h1,qsi]
   rw [if_neg (by simpa using hd)]
 | seq x y ihx ihy=>
  intro b σ2 σ hL hs K r e
  simp only [qd6] at e
  obtain⟨o2,e,o,h1,h2⟩:=ihx b _ _ hL.1 hs _ _ e
  cases o2 with
  | norm σ2'=>
   cases o<;>simp only [qc8] at h2
   rename_i σ'
   obtain⟨o2,e,o,h3,h4⟩:=ihy b _ _ hL.2 h2 _ _ e
   exact⟨o2,e,o,by simp only [qba,h1,qhx,h3],h4⟩
  | exit i σ2'=>
   refine⟨_,e,o,?_,h2⟩
   cases o<;>simp only [qc8] at h2
   simp only [qba,h1,qhx]
  | ret σ2'=>
   refine⟨_,e,o,?_,h2⟩
   cases o<;>simp only [qc8] at h2
   simp only [qba,h1,qhx]
 | cond o x y ihx ihy=>
  intro b σ2 σ hL hs K r e
  have gen:((qnd σ2.fr o).bind fun q=>if q=true then qd6 c CO LO nt b x σ2 K else qd6 c CO LO nt b y σ2 K)=some r→
    ∃o2,K o2=some r∧∃out,qba c callF kp nt k p b (.cond o x y) σ=some out∧qc8 o2 out:=by
   intro e
   simp only [Option.bind_eq_some_iff] at e
   obtain⟨q,hq,e⟩:=e
   split at e
   ·rename_i hb
    subst hb
    obtain⟨o2,e,o',h3,h4⟩:=ihx b _ _ hL.1 hs _ _ e
    exact⟨o2,e,o',by simp only [qba,hs.fr.evB hq,qmQ,h3],h4⟩
   ·rename_i hb
    obtain⟨o2,e,o',h3,h4⟩:=ihy b _ _ hL.2 hs _ _ e
    exact⟨o2,e,o',by simp only [qba,hs.fr.evB hq,(show q=false by simpa using hb),qmQ,h3],h4⟩
  cases o with
  | tmp t=>
   simp only [qd6,Option.bind_eq_some_iff] at e
   obtain⟨v,hv,e⟩:=e
   have hv':=hs.fr t v hv
   split at e
   ·rename_i q
    have hq:evB σ.fr (.tmp t)=some q:=by simp [evB,evA,ev,hv',Sv2.at,V2.at,A2.at,svA,asB]
    split at e
    ·rename_i hb
     obtain⟨o2,e,o',h3,h4⟩:=ihx b _ _ hL.1 (qjT hs hv hb) _ _ e
     exact⟨o2,e,o',by simp only [qba,hq,hb,qmQ,h3],h4⟩
    ·rename_i hb
     have hb':q=false:=by simpa using hb
     obtain⟨o2,e,o',h3,h4⟩:=ihy b _ _ hL.2 (qjT hs hv hb') _ _ e
     exact⟨o2,e,o',by simp only [qba,hq,hb',qmQ,h3],h4⟩
   ·cases e
  | const v=>exact gen (by simpa only [qd6] using e)
  | func f=>exact gen (by simpa only [qd6] using e)
  | global g=>exact gen (by simpa only [qd6] using e)
 | block id x ih=>
  intro b σ2 σ hL hs K r e
  simp only [qd6] at e
  obtain⟨o2,e,o,h1,h2⟩:=ih id _ _ hL hs _ _ e
  cases o2 with
  | norm σ2'=>
   refine⟨_,e,o,?_,h2⟩
   cases o<;>simp only [qc8] at h2
   simp only [qba,h1,qlu]
  | exit i σ2'=>
   cases o<;>simp only [qc8] at h2
   rename_i j σ'
   obtain⟨rfl,h2⟩:=h2
   simp only [] at e
   split at e
   ·rename_i hi
    exact⟨_,e,.norm σ',by simp only [qba,h1,qlu];rw [if_pos hi],h2⟩
   ·rename_i hi
    exact⟨_,e,.exit i σ',by simp only [qba,h1,qlu];rw [if_neg hi],rfl,h2⟩
  | ret σ2'=>
   refine⟨_,e,o,?_,h2⟩
   cases o<;>simp only [qc8] at h2
   simp only [qba,h1,qlu]
 | loop x ih=>intro b σ2 σ hL hs K r e;exact hL σ2 σ hs K r e
 | exit id=>intro b σ2 σ hL hs K r e;exact⟨_,e,_,rfl,rfl,hs⟩
 | ret=>intro b σ2 σ hL hs K r e;exact⟨_,e,_,rfl,hs⟩
 | _=>intro b σ2 σ hL hs K r e;cases e

theorem qnu (T:TypeId→Option TI) (nx:Nat) (a:A2):qdl nx a.at=((qiJ T nx a).1.at,(qiJ T nx a).2.1.at,(qiJ T nx a).2.2):=by
 cases a<;>try rfl
 case snil es ty=>
  simp only [A2.at,qdl,qiJ,qu.at,List.map_cons,List.map_nil,oAt,Option.map_some,Blk2.at]
  split<;>rfl
theorem qlE (T:TypeId→Option TI):∀(cs:List A2) (nx:Nat),qeG nx (cs.map A2.at)=((qhU T nx cs).1.map A2.at,(qhU T nx cs).2.1.at,(qhU T nx cs).2.2):=by
 intro cs
 induction cs with
 | nil=>intro nx;rfl
 | cons a cs ih=>
  intro nx
  simp only [List.map_cons,qeG,qnu T,ih,qhU,qfI]
theorem qu5 (hs:StR σ2 σ):∀(ks:List Kp) (q:List (Nat×V2)×qu×Nat),qin c.T σ2 ks=some q→qgl σ ks=some (q.1.map (fun p=>(p.1,Sv.v p.2.at)),q.2.1.at,q.2.2):=by
 intro ks
 induction ks with
 | nil=>intro q e;cases e;simp [qgl,hs.nx,qu.at]
 | cons kk ks ih=>
  intro q e
  cases kk with
  | s t=>
   simp only [qin,Option.bind_eq_some_iff] at e
   obtain⟨q0,h1,e⟩:=e
   simp only [qgl,ih _ h1,Option.bind_some]
   split at e
   ·rename_i x hx
    cases e
    simp only [hs.fr _ _ hx,Sv2.at,V2.at,qnu c.T,qfI,List.map_cons]
   ·rename_i cs hx
    cases e
    simp only [hs.fr _ _ hx,Sv2.at,V2.at,qlE c.T,qfI,List.map_cons]
   ·cases e
  | b t=>
   simp only [qin,Option.bind_eq_some_iff] at e
   obtain⟨q0,h1,e⟩:=e
   simp only [qgl,ih _ h1,Option.bind_some]
   split at e
   ·rename_i m o hx
    simp only [Option.bind_eq_some_iff] at e
    obtain⟨b,h2,e⟩:=e
    split at e
    ·rename_i el hb
     cases e
     simp only [hs.fr _ _ hx,Sv2.at,V2.at,A2.at,hs.mem,←qg6,qaJ,h2,Option.map_some,Option.bind_some,Blk2.at,hb,Bd.rows,Bd.ents,List.map_cons,List.map_nil,qlE c.T,qfI,qfh,oAt,qnq,qD]
    ·cases e
   ·cases e
theorem qu6 {ρ:Nat→Option Nat}:∀ {l:List (Nat×V2)} {s:List (Nat×Sv2)},qmC ρ l=some s→qkh ρ (l.map fun p=>(p.1,Sv.v p.2.at))=some (s.map fun p=>(p.1,p.2.at)):=by
 intro l
 induction l with
 | nil=>intro s e;cases e;rfl
 | cons q l ih=>
  intro s e
  simp only [qmC,Option.bind_eq_some_iff] at e
  obtain⟨y,h1,r,h2,e⟩:=e
  cases e
  simp only [List.map_cons,qkh,qjQ h1,ih h2,Option.bind_some,Sv2.at]
theorem qre {β γ:Type} (g:β→γ) (l:List (Nat×β)) (t:Nat):lk (l.map fun p=>(p.1,g p.2)) t=(lk l t).map g:=by
 induction l with
 | nil=>rfl
 | cons p l ih=>
  simp only [List.map_cons,lk]
  split
  ·rfl
  ·exact ih
def vOf:Sv→Option Vl
 | .v x=>some x
 | _=>none
def qtN (p:Nat) (mem:Mem) (fr0:List (Nat×Sv)) (N:List Nat):Option St:=
 (qkh (idx N) fr0).bind fun fr=>
 (qo (fun m=>(qk mem m).bind (qdJ (idx N))) N).bind fun bs=>
 if N.take p=List.range p then some { fr:=fr,mem:=qdT (List.range N.length) bs,nx:=N.length } else none
theorem qsM (p:Nat) (ks:List Kp) (σ:St):qgR p ks σ=(qgl σ ks).bind fun q=>qtN p (qB σ.mem q.2.1) q.1 (clo (qdK (qB σ.mem q.2.1)) 64 (List.range p++qd (q.1.filterMap fun s=>vOf s.2)) []):=rfl
theorem qo2 (hs:StR σ2 σ) {ks:List Kp} {S2:St2} (e:qmD c.T p ks σ2=some S2):∃S,qgR p ks σ=some S∧StR S2 S:=by
 unfold qmD at e
 simp only [Option.bind_eq_some_iff] at e
 obtain⟨q,h1,fr,h2,bs,h3,e⟩:=e
 generalize hN:clo (qcc A2.nm (qfq σ2.mem q.2.1)) 64 (List.range p++qdq A2.nm (q.1.map (·.2))) []=N at h2 h3 e
 split at e
 ·rename_i hp
  cases e
  have h3':=qc4 (p:=id) (q:=Blk2.at) (g:=fun m=>(qk (qfq σ2.mem q.2.1).at m).bind (qdJ (idx N))) (fun m b h=>by
   simp only [Option.bind_eq_some_iff] at h
   obtain⟨b0,h4,h5⟩:=h
   simp only [id_eq,qaJ,h4,Option.map_some,Option.bind_some]
   exact qjR h5) h3
  rw [List.map_id] at h3'
  have hfm:∀l:List (Nat×V2),List.filterMap (fun s:Nat×Sv=>vOf s.2) (l.map fun p=>(p.1,Sv.v p.2.at))=(l.map (·.2)).map V2.at:=by
   intro l
   induction l with
   | nil=>rfl
   | cons a l ih=>rw [List.map_cons,List.filterMap_cons,List.map_cons,List.map_cons,←ih];rfl
  refine⟨{ fr:=fr.map fun p=>(p.1,p.2.at),mem:=qdT (List.range N.length) (bs.map Blk2.at),nx:=N.length },?_,⟨?_,?_,rfl⟩⟩
  ·rw [qsM,qu5 hs _ _ h1]
   simp only [Option.bind_some,hs.mem,←qg6,qlX,hfm,qjn,hN]
   simp only [qtN,qu6 h2,h3',Option.bind_some]
   rw [if_pos hp]
  ·intro t v h
   rw [qre,h];rfl
  ·exact(qq4 _ _).symm
 ·cases e
end
end Go.Proofs.YtlnailgfialgnaaGreatDoor.Am

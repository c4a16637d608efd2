/- Functions and qeQ by their shapes: what a printed function says, the abstract machine says. -/
import Derived.Test.YtlnailgfialgnaaGreatDoorMA2
import Derived.KernelRfl
import Derived.Lib.Bytealg
import Derived.Test.YtlnailgfialgnaaGreatDoorProg
import Derived.Sort.Grow
import Derived.Test.YtlnailgfialgnaaGreatDoorChecked
import Derived.Shelf.Small.Strs
import Derived.Shelf.Strings.Search3
import Derived.Shelf.Strings.Count
import Derived.Test.YtlnailgfialgnaaGreatDoorRows

set_option linter.unusedVariables false
set_option linter.unusedSimpArgs false
namespace Go.Proofs.YtlnailgfialgnaaGreatDoor.Am
open Go

section
variable {R : Type} {c : Cfg} {callF : FuncId → List Vl → List Blk → Option (List Vl × List Blk)} {CO : FuncId → List V2 → List Blk2 → (List V2 × List Blk2 → Option R) → Option R}
 {LO:Nat→Code→St2→(Out2→Option R)→Option R} {σ2:St2} {σ:St} {nt:Nat} {kp:Nat→List Kp} {k p:Nat}

theorem qsN (hs:StR σ2 σ) {v:ResultVar} {x:V2} (e:qk5 c σ2 v=some x):qhS c σ v=some x.at:=by
 cases v with
 | tmp t=>exact hs.fr.evV e
 | cell a t=>
  simp only [qk5,Option.bind_eq_some_iff] at e
  obtain⟨ti,h1,y,h2,e⟩:=e
  simp only [qhS,h1,Option.bind_some,hs.fr.evA h2]
  split at e
  ·simp only [Option.bind_eq_some_iff] at e
   obtain⟨b,h3,e⟩:=e
   split at e
   ·rename_i els hb
    simp only [Option.bind_eq_some_iff] at e
    obtain⟨el,h4,e⟩:=e
    simp [A2.at,hs.mem,qaJ,h3,Blk2.at,hb,Bd.rows,Bd.ents,h4,qio e]
   ·cases e
  ·cases e
theorem qsO (T:TypeId→Option TI):∀(vs:List V2) (nx:Nat),qbY nx (vs.map V2.at)=((qgq T nx vs).1.map V2.at,(qgq T nx vs).2.1.at,(qgq T nx vs).2.2):=by
 intro vs
 induction vs with
 | nil=>intro nx;rfl
 | cons a vs ih=>
  intro nx
  cases a with
  | a x=>simp only [List.map_cons,V2.at,qbY,qnu T,ih,qgq,qfI]
  | g cs=>simp only [List.map_cons,V2.at,qbY,qlE T,ih,qgq,qfI]
theorem qu7 (f:FuncId) (mem:qu) (l acc:List Nat):clo (fun m=>if c.mutA f then qdK mem.at m else qgj mem.at m) 64 l acc=clo (if c.mutA f then qcc A2.nm mem else qcc A2.ptrs mem) 64 l acc:=qq9 f mem l acc
theorem qu8 (f:FuncId) (mem:qu) (a rs0:List V2):Snd (R:=R) (fun K=>if c.ownR f then K a else qgp (qjN c mem) rs0 K) fun rs=>(if c.ownR f then some (a.map V2.at)else qo (qeE mem.at) (rs0.map V2.at))=some (rs.map V2.at):=by
 intro K r e
 simp only [] at e
 split at e
 ·rename_i h;exact⟨_,e,by rw [if_pos h]⟩
 ·rename_i h
  obtain⟨x,e1,h1⟩:=qfi (fun v=>qlD mem v) rs0 _ _ e
  exact⟨x,e1,by rw [if_neg h];exact h1⟩
theorem qrf (hs:StR σ2 σ) (f:FuncId) (fn:Func):Snd (R:=R) (qjP c f fn.results.toList p σ2) fun r=>qik c f fn p σ=some (r.1.map V2.at,r.2.map Blk2.at):=by
 intro K r e
 unfold qjP at e
 simp only [Option.bind_eq_some_iff] at e
 obtain⟨rs0,h1,e⟩:=e
 have h1':=qc4 (p:=id) (q:=V2.at) (f:=qk5 c σ2) (g:=qhS c σ) (fun _ _=>qsN hs) h1
 rw [List.map_id] at h1'
 generalize hq:(if c.ownR f then qgq c.T σ2.nx rs0 else(rs0,[],σ2.nx))=q at e
 have hq':(if c.ownR f then qbY σ.nx (rs0.map V2.at)else(rs0.map V2.at,[],σ.nx))=(q.1.map V2.at,q.2.1.at,q.2.2):=by
  rw [←hq,hs.nx]
  split
  ·exact qsO _ _ _
  ·rfl
 obtain⟨rs,e,h2⟩:=qu8 f (qfq σ2.mem q.2.1) q.1 rs0 _ _ e
 simp only [Option.bind_eq_some_iff] at e
 obtain⟨rs',h3,e⟩:=e
 generalize hN:clo (if c.mutA f then qcc A2.nm (qfq σ2.mem q.2.1)else qcc A2.ptrs (qfq σ2.mem q.2.1)) 64 (List.range p++qdq A2.nm rs) []=N at e h3
 obtain⟨bs,e,h4⟩:=qfi (q:=Blk2.at) (p:=id) (g:=fun m=>(qk (qu.at _) m).bind fun b=>(if c.mutA f then some b else qgi (qfq σ2.mem q.2.1).at b).bind (qdJ (idx _))) (fun m=>qq3 _ _ _ _ m) _ _ _ e
 split at e
 ·rename_i hp
  refine⟨_,e,?_⟩
  rw [List.map_id,qg6,qhV] at h4
  have h3':=qc4 (fun _ _=>qjQ) h3
  unfold qik
  rw [h1']
  simp only [Option.bind_some,hq',hs.mem,←qg6,h2,qjn,qlB,qoW,qu7,hN,h3']
  rw [qg6 σ2.mem] at h4 ⊢
  rw [h4]
  simp only [Option.bind_some]
  rw [if_pos hp]
 ·cases e
theorem qu9 {o2:Out2} {o:Out} (ho:qc8 o2 o) (f:FuncId) (fn:Func) {K:List V2×List Blk2→Option R} {r:R} (e:qtK c f fn.results.toList p K o2=some r):
  ∃x,K x=some r∧qsj c f fn p (some o)=some (x.1.map V2.at,x.2.map Blk2.at):=by
 cases o2 with
 | norm σ2=>
  cases o<;>simp only [qc8] at ho
  exact qrf ho f fn _ _ e
 | ret σ2=>
  cases o<;>simp only [qc8] at ho
  exact qrf ho f fn _ _ e
 | exit i σ2=>cases e
theorem qlF {β γ:Type} (g:β→γ):∀(n:Nat) (l:List β),qd4 n (l.map g)=(qd4 n l).map fun p=>(p.1,g p.2)
 | _,[]=>rfl
 | n,x::l=>by simp only [List.map_cons,qd4,qlF g (n+1) l]
theorem qva (hC:COk CO callF) (f:FuncId) (fn:Func) (body:Code) (args:List V2) (blks:List Blk2) (hL:qhA (LOk LO c callF kp fn.ntmps k blks.length) 0 body):
  Snd (qmE c CO LO f fn.ntmps fn.results.toList body args blks) fun r=>
   qsj c f fn (blks.map Blk2.at).length (qba c callF kp fn.ntmps k (blks.map Blk2.at).length 0 body { fr:=qd4 0 ((args.map V2.at).map Sv.v),mem:=qd4 0 ((blks.map Blk2.at).map some),nx:=(blks.map Blk2.at).length })=some (r.1.map V2.at,r.2.map Blk2.at):=by
 intro K r e
 unfold qmE at e
 simp only [List.length_map]
 have hs:StR { fr:=qpT args,mem:=qd4 0 (blks.map some),nx:=blks.length } { fr:=qd4 0 ((args.map V2.at).map Sv.v),mem:=qd4 0 ((blks.map Blk2.at).map some),nx:=blks.length }:=by
  refine⟨?_,?_,rfl⟩
  ·intro t v h
   have:(args.map V2.at).map Sv.v=(args.map Sv2.v).map Sv2.at:=by simp [Function.comp_def,Sv2.at]
   simp only [] at h ⊢
   rw [this,qlF,qre]
   unfold qpT at h
   rw [h];rfl
  ·have:(blks.map Blk2.at).map some=(blks.map some).map (fun o=>o.map Blk2.at):=by simp [Function.comp_def]
   simp only []
   rw [this,qlF]
   rfl
 obtain⟨o2,e,o,h1,h2⟩:=qrd hC body 0 _ _ hL hs _ _ e
 obtain⟨x,e,h3⟩:=qu9 h2 f fn e
 exact⟨x,e,by rw [h1];exact h3⟩
end

inductive Lt
 | w (c:Cd) | nat
 deriving DecidableEq
@[reducible] def Lt.D : Lt → Type
 | .w c=>c.D
 | .nat=>Nat
structure Leaf where
 t:Lt
 x:t.D
@[reducible] def Tp : List Lt → Type
 | []=>Unit
 | [t]=>t.D
 | t::u::r=>t.D×Tp (u::r)
def toL:(ts:List Lt)→Tp ts→List Leaf
 | [],_=> []
 | [t],x=> [⟨t,x⟩]
 | t::u::r,x=>⟨t,x.1⟩::toL (u::r) x.2
def qgU (a b:Lt) (x:a.D):Option b.D:=if h:a=b then some (h▸x)else none
theorem qnv {a b:Lt} {x:a.D} {y:b.D} (h:qgU a b x=some y):(⟨b,y⟩:Leaf)=⟨a,x⟩:=by
 unfold qgU at h
 split at h
 ·rename_i e;subst e;cases h;rfl
 ·cases h
theorem qhm (a:Lt) (x:a.D):qgU a a x=some x:=by simp [qgU]
def ofL:(ts:List Lt)→List Leaf→Option (Tp ts)
 | [],[]=>some ()
 | [t],[y]=>qgU y.t t y.x
 | t::u::r,y::l=>(qgU y.t t y.x).bind fun a=>(ofL (u::r) l).bind fun b=>some (a,b)
 | _,_=>none
theorem qnw:∀ {ts:List Lt} {l:List Leaf} {x:Tp ts},ofL ts l=some x→toL ts x=l
 | [],l,x,h=>by
  cases l with
  | nil=>rfl
  | cons y l=>cases h
 | [t],l,x,h=>by
  match l,h with
  | [y],h=>simp only [toL,qnv (b:=t) h]
  | [],h=>cases h
  | _::_::_,h=>cases h
 | t::u::r,l,x,h=>by
  match l,h with
  | [],h=>cases h
  | y::l,h=>
   simp only [ofL,Option.bind_eq_some_iff] at h
   obtain⟨a,h1,b,h2,h⟩:=h
   cases h
   simp only [toL,qnv h1,qnw h2]

inductive Sh
 | lf (c:Cd) | snil (es ty:Nat) | nilp | ptr (m i o:Nat) | smz (m:Nat) | sms (m:Nat) | fn (f:FuncId) (cs:List Cd) | mp (m:Nat)
def Sh.ts:Sh→List Lt
 | .lf c=> [.w c]
 | .smz _=> [.nat]
 | .sms _=> [.nat,.nat]
 | .fn _ cs=>cs.map Lt.w
 | _=> []
def qmF:List Cd→List Leaf→List (Sigma Cd.D)×List Leaf
 | [],l=>([],l)
 | c::cs,y::r=>(fun p=>((match qgU y.t (.w c) y.x with | some x=> [⟨c,x⟩] | none=> [])++p.1,p.2)) (qmF cs r)
 | _::_,[]=>([],[])
theorem qnx:∀(ps:List (Sigma Cd.D)) (r:List Leaf),qmF (ps.map (·.1)) (ps.map (fun p=>(⟨.w p.1,p.2⟩:Leaf))++r)=(ps,r)
 | [],r=>rfl
 | p::ps,r=>by
  simp only [List.map_cons,List.cons_append,qmF,qnx ps r]
  rw [qhm (.w p.1) p.2]
  rfl
def Sh.enc:Sh→List Leaf→A2×List Leaf
 | .lf c,y::r=>((match qgU y.t (.w c) y.x with | some x=>(c.cl x).headD .nilp | none=> .nilp),r)
 | .snil es ty,r=>(.snil es ty,r)
 | .nilp,r=>(.nilp,r)
 | .ptr m i o,r=>(.ptr m i o,r)
 | .smz m,⟨.nat,n⟩::r=>(.sm m 0 n,r)
 | .sms m,⟨.nat,lo⟩::⟨.nat,n⟩::r=>(.sm m lo n,r)
 | .fn f cs,r=>(fun p=>(.fn f p.1,p.2)) (qmF cs r)
 | .mp m,r=>(.mp m,r)
 | _,r=>(.nilp,r)
def Sh.dec:Sh→A2→Option (List Leaf)
 | .lf c,a=>(c.dec [a]).bind fun x=>some [⟨.w c,x⟩]
 | .snil es ty,.snil es' ty'=>if es'=es∧ty'=ty then some [] else none
 | .nilp,.nilp=>some []
 | .ptr m i o,.ptr m' i' o'=>if m'=m∧i'=i∧o'=o then some [] else none
 | .smz m,.sm m' lo n=>if m'=m∧lo=0 then some [⟨.nat,n⟩] else none
 | .sms m,.sm m' lo n=>if m'=m then some [⟨.nat,lo⟩,⟨.nat,n⟩] else none
 | .mp m,.mp m'=>if m'=m then some [] else none
 | .fn f cs,.fn f' ps=>if f'=f∧ps.map (·.1)=cs then some (ps.map fun p=>⟨.w p.1,p.2⟩)else none
 | _,_=>none
def Rt {α β:Type} (enc:α→List Leaf→β×List Leaf) (dec:α→β→Option (List Leaf)):Prop:=∀s a l,dec s a=some l→∀r,enc s (l++r)=(a,r)
theorem Sh.rt:Rt Sh.enc Sh.dec:=by
 intro s a l h r
 cases s with
 | lf c=>
  simp only [Sh.dec,Option.bind_eq_some_iff] at h
  obtain⟨x,h1,h⟩:=h
  cases h
  have:=dec_eq (c:=c) h1
  simp only [List.cons_append,List.nil_append,Sh.enc]
  rw [qhm (.w c) x]
  simp only [←this,List.headD_cons]
 | nilp=>
  cases a<;>simp only [Sh.dec] at h<;>first | cases h | skip
  rfl
 | fn f cs=>
  cases a<;>simp only [Sh.dec] at h<;>first | cases h | skip
  split at h
  ·rename_i ps e
   obtain⟨rfl,rfl⟩:=e
   cases h
   simp only [Sh.enc,qnx]
  ·cases h
 | _=>
  cases a<;>simp only [Sh.dec] at h<;>first | cases h | skip
  split at h
  ·rename_i e;cases h;simp [Sh.enc,e]
  ·cases h
def qgr {α β:Type} (enc:α→List Leaf→β×List Leaf):List α→List Leaf→List β×List Leaf
 | [],l=>([],l)
 | s::r,l=>(fun p=>(fun q=>(p.1::q.1,q.2)) (qgr enc r p.2)) (enc s l)
def qiM {α β:Type} (dec:α→β→Option (List Leaf)):List α→List β→Option (List Leaf)
 | [],[]=>some []
 | s::r,a::b=>(dec s a).bind fun x=>(qiM dec r b).bind fun y=>some (x++y)
 | _,_=>none
theorem Rt.row {α β:Type} {enc:α→List Leaf→β×List Leaf} {dec:α→β→Option (List Leaf)} (H:Rt enc dec):Rt (qgr enc) (qiM dec):=by
 intro l
 induction l with
 | nil=>intro zs x h r;cases zs with
  | nil=>cases h;rfl
  | cons a zs=>cases h
 | cons s l ih=>
  intro zs x h r
  cases zs with
  | nil=>cases h
  | cons a zs=>
   simp only [qiM,Option.bind_eq_some_iff] at h
   obtain⟨y,h1,z,h2,h⟩:=h
   cases h
   simp only [qgr,List.append_assoc,H _ _ _ h1,ih _ _ h2]
inductive ShV
 | a (s:Sh) | g (ss:List Sh)
def ShV.ts:ShV→List Lt
 | .a s=>s.ts
 | .g ss=>ss.flatMap Sh.ts
def ShV.enc:ShV→List Leaf→V2×List Leaf
 | .a s,l=>(fun p=>(.a p.1,p.2)) (s.enc l)
 | .g ss,l=>(fun p=>(.g p.1,p.2)) (qgr Sh.enc ss l)
def ShV.dec:ShV→V2→Option (List Leaf)
 | .a s,.a x=>s.dec x
 | .g ss,.g cs=>qiM Sh.dec ss cs
 | _,_=>none
theorem ShV.rt:Rt ShV.enc ShV.dec:=by
 intro s a l h r
 cases s with
 | a s=>cases a with
  | a y=>simp only [ShV.enc,Sh.rt _ _ _ h]
  | g cs=>cases h
 | g ss=>cases a with
  | a y=>cases h
  | g cs=>simp only [ShV.enc,Sh.rt.row _ _ _ h]
inductive ShB
 | arr (c:Cd) (es:Nat) (ty:TypeId) (fz:Bool)
 | raw (els:List (List Sh)) (es:Nat) (ty:TypeId) (pr fz ar:Bool)
 | map (kc vc:Cd) (ty:TypeId) (fz:Bool)
def ShB.ts:ShB→List Lt
 | .arr c _ _ _=> [.w (.sl c)]
 | .raw els _ _ _ _ _=>els.flatMap fun e=>e.flatMap Sh.ts
 | .map kc vc _ _=> [.w (.sl (.pr kc vc))]
def ShB.enc:ShB→List Leaf→Blk2×List Leaf
 | .arr c es ty fz,l=>match l with
  | y::r=>((match qgU y.t (.w (.sl c)) y.x with | some x=>⟨.arr c x,es,ty,true,fz,true⟩ | none=>⟨.raw [],es,ty,true,fz,true⟩),r)
  | []=>(⟨.raw [],es,ty,true,fz,true⟩,[])
 | .raw els es ty pr fz ar,l=>(fun p=>(⟨.raw p.1,es,ty,pr,fz,ar⟩,p.2)) (qgr (qgr Sh.enc) els l)
 | .map kc vc ty fz,l=>match l with
  | y::r=>((match qgU y.t (.w (.sl (.pr kc vc))) y.x with | some x=>⟨.map kc vc x,0,ty,true,fz,true⟩ | none=>⟨.raw [],0,ty,true,fz,true⟩),r)
  | []=>(⟨.raw [],0,ty,true,fz,true⟩,[])
def ShB.dec (s:ShB) (b:Blk2):Option (List Leaf):=
 match s with
 | .arr c es ty fz=>match b with
  | ⟨.arr c' l,es',ty',true,fz',true⟩=>if es'=es∧ty'=ty∧fz'=fz then(qjL c' c l).bind fun l=>some [⟨.w (.sl c),l⟩] else none
  | _=>none
 | .raw els es ty pr fz ar=>match b with
  | ⟨.raw els',es',ty',pr',fz',ar'⟩=>if es'=es∧ty'=ty∧pr'=pr∧fz'=fz∧ar'=ar then qiM (qiM Sh.dec) els els' else none
  | _=>none
 | .map kc vc ty fz=>match b with
  | ⟨.map kc' vc' l,0,ty',true,fz',true⟩=>if ty'=ty∧fz'=fz∧kc'=kc∧vc'=vc then(qjL (.pr kc' vc') (.pr kc vc) l).bind fun l=>some [⟨.w (.sl (.pr kc vc)),l⟩] else none
  | _=>none
theorem ShB.rt:Rt ShB.enc ShB.dec:=by
 intro s b l h r
 cases s with
 | arr c es ty fz=>
  simp only [ShB.dec] at h
  split at h
  ·split at h
   ·rename_i e
    obtain⟨rfl,rfl,rfl⟩:=e
    simp only [Option.bind_eq_some_iff] at h
    obtain⟨x,hx,h⟩:=h
    cases h
    obtain⟨hc,rfl⟩:=qiK hx
    subst hc
    simp only [List.cons_append,ShB.enc,List.nil_append]
    rw [qhm (.w (.sl _)) _]
   ·cases h
  ·cases h
 | raw els es ty pr fz ar=>
  simp only [ShB.dec] at h
  split at h
  ·split at h
   ·rename_i e
    obtain⟨rfl,rfl,rfl,rfl,rfl⟩:=e
    simp only [ShB.enc,Sh.rt.row.row _ _ _ h]
   ·cases h
  ·cases h
 | map kc vc ty fz=>
  simp only [ShB.dec] at h
  split at h
  ·split at h
   ·rename_i e
    obtain⟨rfl,rfl,rfl,rfl⟩:=e
    simp only [Option.bind_eq_some_iff] at h
    obtain⟨x,hx,h⟩:=h
    cases h
    obtain⟨hc,rfl⟩:=qiK hx
    simp only [List.cons_append,ShB.enc,List.nil_append]
    rw [qhm (.w (.sl (.pr _ _))) _]
   ·cases h
  ·cases h

structure FS where
 vs:List ShV
 bs:List ShB
def FS.ts (s:FS):List Lt:=s.vs.flatMap ShV.ts++s.bs.flatMap ShB.ts
def FS.en (s:FS) (l:List Leaf):(List V2×List Blk2)×List Leaf:=(fun p=>(fun q=>((p.1,q.1),q.2)) (qgr ShB.enc s.bs p.2)) (qgr ShV.enc s.vs l)
def FS.de (s:FS) (a:List V2×List Blk2):Option (List Leaf):=(qiM ShV.dec s.vs a.1).bind fun x=>(qiM ShB.dec s.bs a.2).bind fun y=>some (x++y)
@[reducible] def FS.D (s : FS) : Type := Tp s.ts
def FS.enc (s:FS) (x:s.D):List V2×List Blk2:=(s.en (toL _ x)).1
def FS.dec (s:FS) (a:List V2×List Blk2):Option s.D:=(s.de a).bind (ofL _)
theorem FS.rt:Rt FS.en FS.de:=by
 intro s a l h r
 simp only [FS.de,Option.bind_eq_some_iff] at h
 obtain⟨y,h1,z,h2,h⟩:=h
 cases h
 simp only [FS.en,List.append_assoc,ShV.rt.row _ _ _ h1,ShB.rt.row _ _ _ h2]
theorem FS.dec_eq {s:FS} {a:List V2×List Blk2} {x:s.D} (h:s.dec a=some x):s.enc x=a:=by
 simp only [FS.dec,Option.bind_eq_some_iff] at h
 obtain⟨l,h1,h2⟩:=h
 have:=FS.rt s a l h1 []
 rw [List.append_nil] at this
 simp only [FS.enc,qnw h2,this]
@[reducible] def DS {α : Type} (D : α → Type) : List α → Type
 | []=>Empty
 | [a]=>D a
 | a::b::r=>D a ⊕ DS D (b::r)
def qhB {α β:Type} {D:α→Type} (enc:(s:α)→D s→β):(l:List α)→DS D l→β
 | [],x=>nomatch x
 | [a],x=>enc a x
 | a::b::r,x=>match x with
  | .inl x=>enc a x
  | .inr x=>qhB enc (b::r) x
def qgI {α β:Type} {D:α→Type} (dec:(s:α)→β→Option (D s)):(l:List α)→β→Option (DS D l)
 | [],_=>none
 | [a],x=>dec a x
 | a::b::r,x=>match dec a x with
  | some y=>some (.inl y)
  | none=>match qgI dec (b::r) x with
   | some y=>some (.inr y)
   | none=>none
def qc {α β R:Type} (x:α ⊕ β) (f:α→Option R) (g:β→Option R):Option R:=match x with
 | .inl x=>f x
 | .inr x=>g x
def qjU {α β R:Type} {D:α→Type} (enc:(s:α)→D s→β) (K:β→Option R):(l:List α)→DS D l→Option R
 | [],x=>nomatch x
 | [a],x=>K (enc a x)
 | a::b::r,x=>qc x (fun x=>K (enc a x)) (fun x=>qjU enc K (b::r) x)
theorem qiN {α β R:Type} {D:α→Type} (enc:(s:α)→D s→β) (K:β→Option R):∀(l:List α) (x:DS D l),qjU enc K l x=K (qhB enc l x)
 | [],x=>nomatch x
 | [a],x=>rfl
 | a::b::r,.inl x=>rfl
 | a::b::r,.inr x=>qiN enc K (b::r) x
theorem qhr {α β:Type} {D:α→Type} {enc:(s:α)→D s→β} {dec:(s:α)→β→Option (D s)} {Q:β→β→Prop} (H:∀s a x,dec s a=some x→Q (enc s x) a):
  ∀ {l:List α} {a:β} {y:DS D l},qgI dec l a=some y→Q (qhB enc l y) a:=by
 intro l
 match l with
 | []=>intro a y h;cases h
 | [s]=>intro a y h;exact H _ _ _ h
 | s::t::r=>
  intro a y h
  simp only [qgI] at h
  split at h
  ·rename_i z hz;cases h;exact H _ _ _ hz
  ·split at h
   ·rename_i z hz
    cases h
    exact qhr H (l:=t::r) hz
   ·cases h
structure SS where
 fr:List (Nat×ShV)
 mem:List (Nat×Option ShB)
 nx:Nat
def tsO (p:Nat×Option ShB):List Lt:=match p.2 with
 | none=> []
 | some b=>b.ts
def qpX (p:Nat×Option ShB) (l:List Leaf):(Nat×Option Blk2)×List Leaf:=match p.2 with
 | none=>((p.1,none),l)
 | some b=>(fun q=>((p.1,some q.1),q.2)) (b.enc l)
def qpY (p:Nat×Option ShB) (q:Nat×Option Blk2):Option (List Leaf):=match p.2,q.2 with
 | none,none=>if q.1=p.1 then some [] else none
 | some b,some B=>if q.1=p.1 then b.dec B else none
 | _,_=>none
theorem rtO:Rt qpX qpY:=by
 intro p q l h r
 obtain⟨m,o⟩:=p
 obtain⟨m',o'⟩:=q
 cases o with
 | none=>cases o' with
  | none=>
   simp only [qpY] at h
   split at h
   ·rename_i e;cases h;simp [qpX,e]
   ·cases h
  | some B=>cases h
 | some b=>cases o' with
  | none=>cases h
  | some B=>
   simp only [qpY] at h
   split at h
   ·rename_i e;simp [qpX,e,ShB.rt _ _ _ h]
   ·cases h
def qsP (p:Nat×ShV) (l:List Leaf):(Nat×Sv2)×List Leaf:=(fun q=>((p.1,.v q.1),q.2)) (p.2.enc l)
def SS.ts (s:SS):List Lt:=(s.fr.flatMap fun p=>p.2.ts)++s.mem.flatMap tsO
@[reducible] def SS.D (s : SS) : Type := Tp s.ts
def SS.en (s:SS) (l:List Leaf):St2:=(fun p=>{ fr:=p.1,mem:=(qgr qpX s.mem p.2).1,nx:=s.nx }) (qgr qsP s.fr l)
def SS.enc (s:SS) (x:s.D):St2:=s.en (toL _ x)
def qmG (fr:List (Nat×Sv2)):List (Nat×ShV)→Option (List Leaf)
 | []=>some []
 | p::r=>match lk fr p.1 with
  | some (.v v)=>(p.2.dec v).bind fun x=>(qmG fr r).bind fun y=>some (x++y)
  | _=>none
def SS.de (s:SS) (σ:St2):Option (List Leaf):=(qmG σ.fr s.fr).bind fun x=>(qiM qpY s.mem σ.mem).bind fun y=>if σ.nx=s.nx then some (x++y)else none
def SS.dec (s:SS) (σ:St2):Option s.D:=(s.de σ).bind (ofL _)
theorem qsQ {fr:List (Nat×Sv2)}:∀ {l:List (Nat×ShV)} {x:List Leaf},qmG fr l=some x→∀r,∃fr',qgr qsP l (x++r)=(fr',r)∧∀t v,lk fr' t=some v→lk fr t=some v:=by
 intro l
 induction l with
 | nil=>intro x h r;cases h;exact⟨[],rfl,fun t v h=>by cases h⟩
 | cons p l ih=>
  intro x h r
  simp only [qmG] at h
  split at h
  ·rename_i v' hv'
   simp only [Option.bind_eq_some_iff] at h
   obtain⟨y,h1,z,h2,h⟩:=h
   cases h
   obtain⟨fr',h3,h4⟩:=ih h2 r
   refine⟨(p.1,.v v')::fr',?_,?_⟩
   ·simp only [qgr,qsP,List.append_assoc,ShV.rt _ _ _ h1,h3]
   ·intro t v hv
    simp only [lk] at hv
    split at hv
    ·rename_i e
     cases hv
     rw [←e]
     exact hv'
    ·exact h4 t v hv
  ·cases h
theorem SS.dec_ok {s:SS} {σ2:St2} {x:s.D} (h:s.dec σ2=some x) {σ:St} (hs:StR σ2 σ):StR (s.enc x) σ:=by
 simp only [SS.dec,Option.bind_eq_some_iff] at h
 obtain⟨l,h,h0⟩:=h
 simp only [SS.de,Option.bind_eq_some_iff] at h
 obtain⟨y,h1,z,h2,h⟩:=h
 split at h
 ·rename_i e
  cases h
  obtain⟨fr',h3,h4⟩:=qsQ h1 z
  have h5:=rtO.row _ _ _ h2 []
  rw [List.append_nil] at h5
  simp only [SS.enc,qnw h0,SS.en,h3,h5]
  exact⟨fun t v hv=>hs.fr t v (h4 t v hv),hs.mem,by rw [hs.nx,e]⟩
 ·cases h
structure OS where
 id:Option Nat
 s:SS
@[reducible] def OS.D (o : OS) : Type := o.s.D
def OS.enc (o:OS) (x:o.D):Out2:=match o.id with
 | some i=> .exit i (o.s.enc x)
 | none=> .ret (o.s.enc x)
def OS.dec (o:OS) (u:Out2):Option o.D:=match o.id,u with
 | some i,.exit j σ=>if j=i then o.s.dec σ else none
 | none,.ret σ=>o.s.dec σ
 | _,_=>none
theorem OS.dec_ok (o:OS) (u:Out2) (x:o.D) (h:o.dec u=some x):∀v,qc8 u v→qc8 (o.enc x) v:=by
 obtain⟨id,s⟩:=o
 intro v hv
 cases id with
 | none=>
  cases u<;>simp only [OS.dec] at h<;>first | cases h | skip
  cases v<;>simp only [qc8] at hv
  exact SS.dec_ok h hv
 | some i=>
  cases u<;>simp only [OS.dec] at h<;>first | cases h | skip
  split at h
  ·rename_i e
   cases v<;>simp only [qc8] at hv
   exact⟨by rw [←e];exact hv.1,SS.dec_ok h hv.2⟩
  ·cases h

structure Inst where
 f:FuncId
 sh:FS
 os:List FS
 F:sh.D→Option (DS FS.D os)
structure LInst where
 b:Nat
 hs:List SS
 os:List OS
 F:DS SS.D hs→Option (DS OS.D os)
section
variable {R : Type}
def COt (f:FuncId) (a:List V2) (b:List Blk2) (K:List V2×List Blk2→Option R):List Inst→Option R
 | []=>none
 | i::r=>if i.f=f then(match i.sh.dec (a,b)with
  | some x=>(i.F x).bind fun y=>qjU FS.enc K i.os y
  | none=>COt f a b K r)else COt f a b K r
def LOt (T:TypeId→Option TI) (kp:Nat→List Kp) (p:Nat) (b:Nat) (σ:St2) (K:Out2→Option R):List LInst→Option R
 | []=>none
 | i::r=>if i.b=b then(match (qmD T p (kp b) σ).bind (qgI SS.dec i.hs)with
  | some x=>(i.F x).bind fun y=>qjU OS.enc K i.os y
  | none=>LOt T kp p b σ K r)else LOt T kp p b σ K r
def qpZ (T:TypeId→Option TI) (ks:List Kp) (p:Nat) (hs:List SS) (os:List OS) (F:DS SS.D hs→Option (DS OS.D os)):Out2→Option (DS OS.D os)
 | .norm σ=>((qmD T p ks σ).bind (qgI SS.dec hs)).bind F
 | o=>qgI OS.dec os o
end
def qe (cl:FuncId→List Vl→List Blk→Option (List Vl×List Blk)) (i:Inst):Prop:=
 ∀x y,i.F x=some y→cl i.f ((i.sh.enc x).1.map V2.at) ((i.sh.enc x).2.map Blk2.at)=some ((qhB FS.enc i.os y).1.map V2.at,(qhB FS.enc i.os y).2.map Blk2.at)
def qas (cl:FuncId→List Vl→List Blk→Option (List Vl×List Blk)):List Inst→Prop
 | []=>True
 | i::r=>qe cl i∧qas cl r
theorem qrg {R:Type} {cl:FuncId→List Vl→List Blk→Option (List Vl×List Blk)}:∀ {l:List Inst},qas cl l→COk (fun f a b (K:List V2×List Blk2→Option R)=>COt f a b K l) cl:=by
 intro l
 induction l with
 | nil=>intro _ f a b K r e;cases e
 | cons i l ih=>
  intro h f a b K r e
  simp only [COt] at e
  split at e
  ·rename_i hf
   subst hf
   split at e
   ·rename_i x hx
    simp only [Option.bind_eq_some_iff] at e
    obtain⟨y,h1,e⟩:=e
    rw [qiN] at e
    refine⟨_,e,?_⟩
    have:=h.1 x y h1
    rw [FS.dec_eq hx] at this
    exact this
   ·exact ih h.2 _ _ _ _ _ e
  ·exact ih h.2 _ _ _ _ _ e

theorem qny {hs:List SS} {σ2:St2} {x:DS SS.D hs} (h:qgI SS.dec hs σ2=some x) {σ:St} (hs':StR σ2 σ):StR (qhB SS.enc hs x) σ:=
 qhr (enc:=SS.enc) (dec:=SS.dec) (Q:=fun a b=>∀ σ,StR b σ→StR a σ) (fun s a x h σ hr=>SS.dec_ok h hr) (l:=hs) h σ hs'
section
variable {c : Cfg} {callF : FuncId → List Vl → List Blk → Option (List Vl × List Blk)} {kp : Nat → List Kp} {nt k p : Nat}
def qsR (c:Cfg) (callF:FuncId→List Vl→List Blk→Option (List Vl×List Blk)) (kp:Nat→List Kp) (nt k p:Nat) (b:Nat) (x0:Code) (i:LInst):Prop:=
 ∀x y τ,StR (qhB SS.enc i.hs x) τ→i.F x=some y→∃o,qmu (qgR p (kp b)) (qba c callF kp nt k p b x0) k (some τ)=some o∧qc8 (qhB OS.enc i.os y) o
def qsS (c:Cfg) (callF:FuncId→List Vl→List Blk→Option (List Vl×List Blk)) (kp:Nat→List Kp) (nt k p:Nat) (b:Nat) (x0:Code):List LInst→Prop
 | []=>True
 | i::r=>(i.b=b→qsR c callF kp nt k p b x0 i)∧qsS c callF kp nt k p b x0 r
theorem qv7 {R:Type} {b:Nat} {x0:Code}:∀ {l:List LInst},qsS c callF kp nt k p b x0 l→LOk (fun b _ σ (K:Out2→Option R)=>LOt c.T kp p b σ K l) c callF kp nt k p b x0:=by
 intro l
 induction l with
 | nil=>intro _ σ2 σ hs K r e;cases e
 | cons i l ih=>
  intro h σ2 σ hs K r e
  simp only [LOt] at e
  split at e
  ·rename_i hb
   split at e
   ·rename_i x hx
    simp only [Option.bind_eq_some_iff] at hx
    obtain⟨S2,h1,h2⟩:=hx
    obtain⟨S,h3,h4⟩:=qo2 hs h1
    simp only [Option.bind_eq_some_iff] at e
    obtain⟨y,h5,e⟩:=e
    rw [qiN] at e
    obtain⟨o,h6,h7⟩:=h.1 hb x y S (qny h2 h4) h5
    exact⟨_,e,o,by rw [qoT,h3,h6],h7⟩
   ·exact ih h.2 _ _ hs _ _ e
  ·exact ih h.2 _ _ hs _ _ e
theorem qvb {b:Nat} {x0:Code} {hs:List SS} {os:List OS} {CO:FuncId→List V2→List Blk2→(List V2×List Blk2→Option (DS OS.D os))→Option (DS OS.D os)} {LO:Nat→Code→St2→(Out2→Option (DS OS.D os))→Option (DS OS.D os)}
  (hC:COk CO callF) (hL:qhA (LOk LO c callF kp nt k p) b x0) (F:Nat→DS SS.D hs→Option (DS OS.D os)) (h0:∀x,F 0 x=none)
  (hF:∀n x,F (n+1) x=qjU SS.enc (fun σ=>qd6 c CO LO nt b x0 σ (qpZ c.T (kp b) p hs os (F n))) hs x):qsR c callF kp nt k p b x0 ⟨b,hs,os,F k⟩:=by
 have key:∀n x y τ,StR (qhB SS.enc hs x) τ→F n x=some y→∃o,qmu (qgR p (kp b)) (qba c callF kp nt k p b x0) n (some τ)=some o∧qc8 (qhB OS.enc os y) o:=by
  intro n
  induction n with
  | zero=>intro x y τ _ e;rw [h0] at e;cases e
  | succ n ih=>
   intro x y τ ht e
   rw [hF,qiN] at e
   obtain⟨o2,e,o,h1,h2⟩:=qrd hC x0 b _ _ hL ht _ _ e
   cases o2 with
   | norm σ2=>
    simp only [qpZ,Option.bind_eq_some_iff] at e
    obtain⟨x',⟨S2,h3,h4⟩,e⟩:=e
    cases o<;>simp only [qc8] at h2
    rename_i τ'
    obtain⟨S,h5,h6⟩:=qo2 h2 h3
    obtain⟨o,h7,h8⟩:=ih x' y S (qny h4 h6) e
    refine⟨o,?_,h8⟩
    simp only [qiD,h1,qhx,qoT,h5,h7]
   | exit i σ2=>
    have:=qhr (enc:=OS.enc) (Q:=fun a b=>∀v,qc8 b v→qc8 a v) (fun s a x h=>OS.dec_ok s a x h) (l:=os) e o h2
    refine⟨o,?_,this⟩
    cases o<;>simp only [qc8] at h2
    simp only [qiD,h1,qhx]
   | ret σ2=>
    have:=qhr (enc:=OS.enc) (Q:=fun a b=>∀v,qc8 b v→qc8 a v) (fun s a x h=>OS.dec_ok s a x h) (l:=os) e o h2
    refine⟨o,?_,this⟩
    cases o<;>simp only [qc8] at h2
    simp only [qiD,h1,qhx]
 exact fun x y τ ht e=>key k x y τ ht e

def bd (f:Func):Code:=f.body.getD .skip
theorem qh8 {α β:Type} (enc:α→List Leaf→β×List Leaf):∀(l:List α) (x:List Leaf),(qgr enc l x).1.length=l.length
 | [],_=>rfl
 | s::r,x=>by simp only [qgr,List.length_cons,qh8 enc r]
theorem qvc {f:FuncId} {fn:Func} {body:Code} {sh:FS} {os:List FS} (hX:c.X f=none) (hf:c.F f=some fn) (hb:fn.body=some body) (hl:sh.vs.length=fn.params.size+fn.nfree∧sh.vs.length≤fn.ntmps)
  {CO:FuncId→List V2→List Blk2→(List V2×List Blk2→Option (DS FS.D os))→Option (DS FS.D os)} {LO:Nat→Code→St2→(Out2→Option (DS FS.D os))→Option (DS FS.D os)}
  (hC:COk CO (call c k)) (hL:qhA (LOk LO c (call c k) (c.keep f) fn.ntmps k sh.bs.length) 0 body) (F:sh.D→Option (DS FS.D os))
  (hF:∀x,F x=qmE c CO LO f fn.ntmps fn.results.toList body (sh.enc x).1 (sh.enc x).2 (qgI FS.dec os)):qe (call c (k+1)) ⟨f,sh,os,F⟩:=by
 intro x y e
 simp only [] at e
 rw [hF] at e
 have hlen:(sh.enc x).2.length=sh.bs.length:=qh8 _ _ _
 rw [←hlen] at hL
 obtain⟨r,e,h1⟩:=qva hC f fn body _ _ hL _ _ e
 have h2:=qhr (enc:=FS.enc) (Q:=fun a b=>a=b) (fun s a x h=>FS.dec_eq h) (l:=os) e
 have hlv:(sh.enc x).1.length=sh.vs.length:=qh8 _ _ _
 simp only [call,hX,hf,Option.bind_some,hb,qpp,List.length_map]
 simp only [List.length_map] at h1
 rw [if_pos (by rw [hlv];exact hl),h1,h2]
end

def zB:At→Value→Bool
 | .int k n,.int k' n'=>decide (k=k') && decide (n=n')
 | .bool b,.bool b'=>b == b'
 | .str s,.string s'=>s.data.toList.isEmpty && s'.data.toList.isEmpty
 | .snil _ _,.slice none 0 0=>true
 | .nilp,.pointer none=>true
 | _,_=>false
theorem qsT {h:Hp} {x:At} {v:Value} (e:zB x v=true):RP h x v∧x.pr=true:=by
 unfold zB at e
 split at e
 ·simp only [Bool.and_eq_true,decide_eq_true_eq] at e
  obtain⟨rfl,rfl⟩:=e
  exact⟨.int _ _,rfl⟩
 ·simp only [beq_iff_eq] at e;subst e;exact⟨.bool _,rfl⟩
 ·rename_i s s'
  simp only [Bool.and_eq_true,List.isEmpty_iff] at e
  obtain⟨h1,h2⟩:=e
  obtain⟨⟨l⟩⟩:=s
  obtain⟨⟨l'⟩⟩:=s'
  simp only at h1 h2
  subst h1 h2
  exact⟨.str _,rfl⟩
 ·exact⟨.snil _ _,rfl⟩
 ·exact⟨.nilp,rfl⟩
 ·cases e

def zBs:List At→List Value→Bool
 | [],[]=>true
 | x::xs,v::vs=>zB x v && zBs xs vs
 | _,_=>false
theorem qlY {h:Hp}:∀ {xs:List At} {vs:List Value},zBs xs vs=true→xs.length=vs.length∧(∀(j:Nat) (x:At),xs[j]? =some x→∃u,vs[j]? =some u∧RP h x u)∧∀x∈xs,x.pr=true:=by
 intro xs
 induction xs with
 | nil=>intro vs e;cases vs with
  | nil=>exact⟨rfl,by simp,by simp⟩
  | cons v vs=>cases e
 | cons x xs ih=>
  intro vs e
  cases vs with
  | nil=>cases e
  | cons v vs=>
   simp only [zBs,Bool.and_eq_true] at e
   obtain⟨h1,h2⟩:=qsT (h:=h) e.1
   obtain⟨i1,i2,i3⟩:=ih e.2
   refine⟨by simp [i1],fun j y hj=> ?_,fun y hy=> ?_⟩
   ·cases j with
    | zero=>simp at hj;subst hj;exact⟨v,rfl,h1⟩
    | succ j=>simp at hj;simpa using i2 j y hj
   ·rcases List.mem_cons.1 hy with rfl | hy
    ·exact h2
    ·exact i3 y hy

def qjV (P:Program):List (Nat×Nat)→List TypeId→List Field→Bool
 | [],[],[]=>true
 | p::ps,t::ts,f::fs=>f.offset == p.1 && f.type == t && (match P.info? f.type with | some ti=>ti.size == p.2 | none=>false) && qjV P ps ts fs
 | _,_,_=>false
theorem qmm {P:Program}:∀ {ps:List (Nat×Nat)} {ts:List TypeId} {fs:List Field},qjV P ps ts fs=true→
  ps.length=fs.length∧(∀(j:Nat) (p:Nat×Nat),ps[j]? =some p→∃f,fs[j]? =some f∧f.offset=p.1∧∃ti,P.info? f.type=some ti∧ti.size=p.2)∧(fs.map fun f=>f.type)=ts:=by
 intro ps
 induction ps with
 | nil=>intro ts fs e;cases ts<;>cases fs<;>first | exact⟨rfl,by simp,rfl⟩ | cases e
 | cons p ps ih=>
  intro ts fs e
  cases ts with
  | nil=>cases e
  | cons t ts=>
   cases fs with
   | nil=>cases e
   | cons f fs=>
    simp only [qjV,Bool.and_eq_true,beq_iff_eq] at e
    obtain⟨⟨⟨e1,e2⟩,e3⟩,e4⟩:=e
    obtain⟨i1,i2,i3⟩:=ih e4
    refine⟨by simp [i1],fun j q hj=> ?_,by simp [e2,i3]⟩
    cases j with
    | zero=>
     simp at hj
     subst hj
     refine⟨f,rfl,e1,?_⟩
     split at e3
     ·rename_i ti hti
      exact⟨ti,hti,by simpa using e3⟩
     ·cases e3
    | succ j=>simp at hj;simpa using i2 j q hj

def tdB (P:Program):TD→TypeDesc→Bool
 | .int k,.int k'=>decide (k=k')
 | .bool,.bool=>true
 | .str,.string=>true
 | .ptr,.pointer _=>true
 | .sl e,.slice e'=>e == e'
 | .st ps ts,.struct F=>qjV P ps ts F.toList
 | .arr n e,.array n' e'=>n == n' && e == e'
 | .mp k e,.map k' e'=>k == k' && e == e'
 | .oth,_=>true
 | _,_=>false
theorem qrh {P:Program} {d:TD} {e:TypeDesc} (h:tdB P d e=true):qlv P d e:=by
 unfold tdB at h
 split at h
 ·simp only [decide_eq_true_eq] at h;subst h;exact rfl
 ·exact rfl
 ·exact rfl
 ·exact⟨_,rfl⟩
 ·simp only [beq_iff_eq] at h;subst h;exact rfl
 ·rename_i ps ts F
  obtain⟨h1,h2,h3⟩:=qmm h
  refine⟨F,rfl,by simpa using h1,fun j p hj=> ?_,h3⟩
  obtain⟨f,q1,q2⟩:=h2 j p hj
  exact⟨f,by simpa using q1,q2⟩
 ·simp only [Bool.and_eq_true,beq_iff_eq] at h;obtain⟨rfl,rfl⟩:=h;exact rfl
 ·simp only [Bool.and_eq_true,beq_iff_eq] at h;obtain⟨rfl,rfl⟩:=h;exact rfl
 ·trivial
 ·cases h

def qtO (P:Program) (t:TypeId) (i:TI):Bool:=i.agg || !(i.size == 1) || !(i.zero.length == i.size) || (match P.info? t with
 | some ti=>(match ti.zero with | some z=>z.oneCell' | none=>true)
 | none=>true)
def qv8 (P:Program) (t:TypeId) (i:TI):Bool:=qtO P t i && ((match P.info? t with
  | some ti=>ti.size == i.size && ti.bytes == i.bytes && (i.zero.length != i.size || (match ti.zero with | some z=>z.cells.size == i.size && zBs i.zero z.cells.toList | none=>false))
  | none=>false) &&
 (match P.underlying t with
  | some d=>tdB P i.d d && (qkQ d == i.agg) && (!i.eqs || (match d with | .struct fs=> !P.eqGuardType P.depth t && !P.stoodInHeld t && qjH P 0 fs.toList | _=>false))
  | none=>false))
theorem qv9 {P:Program} {t:TypeId} {i:TI} (h:qv8 P t i=true):TOk P t i:=by
 unfold qv8 at h
 rw [Bool.and_eq_true,Bool.and_eq_true] at h
 obtain⟨h0,h1,h2⟩:=h
 split at h1
 ·rename_i ti hti
  simp only [Bool.and_eq_true,beq_iff_eq,Bool.or_eq_true,bne_iff_ne] at h1
  obtain⟨⟨a1,a2⟩,a3⟩:=h1
  refine⟨⟨ti,hti,a1,a2⟩,?_,fun hz=> ?_,fun hagg hsz1 hzl ti' z hi' hz'=> ?_,fun he=> ?_⟩
  rotate_left 2
  ·unfold qtO at h0
   simp only [hagg,hsz1,hzl,Bool.false_or,hi',hz',beq_self_eq_true,Bool.not_true] at h0
   exact h0
  rotate_left 1
  ·split at h2
   ·rename_i d hd
    simp only [Bool.and_eq_true,beq_iff_eq] at h2
    exact⟨d,hd,qrh h2.1.1,h2.1.2⟩
   ·cases h2
  ·rcases a3 with a3 | a3
   ·exact absurd hz a3
   ·split at a3
    ·rename_i z hzz
     simp only [Bool.and_eq_true,beq_iff_eq] at a3
     obtain⟨b1,b2⟩:=a3
     refine⟨ti,z,hti,hzz,b1,fun h j x hj=> ?_,(qlY (h:=fun _=>none) b2).2.2⟩
     obtain⟨u,g1,g2⟩:=(qlY (h:=h) b2).2.1 j x hj
     exact⟨u,by simpa using g1,g2⟩
    ·cases a3
  ·split at h2
   ·rename_i d hd
    simp only [Bool.and_eq_true,beq_iff_eq,he,Bool.not_true,Bool.false_or] at h2
    obtain⟨_,h3⟩:=h2
    split at h3
    ·rename_i fs _
     simp only [Bool.and_eq_true,Bool.not_eq_true'] at h3
     exact⟨h3.1.1,h3.1.2,fs,hd,h3.2⟩
    ·cases h3
   ·cases h2
 ·cases h1

theorem qsU {P:Program} (h:(P.funcs.toList.all fun fn=> !(fn.name == "runtime.NumGoroutine"))=true) {f:FuncId} {fn:Func} (e:P.funcs[f]? =some fn):P.funcs[f]? =some fn∧(fn.name == "runtime.NumGoroutine")=false:=by
 refine⟨e,?_⟩
 rw [List.all_eq_true] at h
 have:=h fn (by simpa using Array.mem_of_getElem? e)
 simpa using this
abbrev XA:=List Vl→List Blk→Option (List Vl×List Blk)
abbrev XK:=∀R:Type,List V2→List Blk2→(List V2×List Blk2→Option R)→Option R
def qeI (s:ByteArray) (c:Int):Int:=Go.Lib.indexByte s.data.toList c.toNat.toUInt8
def qsV (s t:ByteArray):Int:=Go.Lib.indexByte s.data.toList (t.data.toList.headD 0)
def qsW (s t:ByteArray):Int:=((Go.Lib.countByte s.data.toList (t.data.toList.headD 0):Nat):Int)
def qfj:XA:=fun args blks=>match args,blks with
 | [.a (.str s),.a (.int .u8 c)],[]=>some ([.a (.int .i64 (qeI s c))],[])
 | _,_=>none
def qhn:XK:=fun R args blks K=>match args,blks with
 | [.a (.str s),.a (.int .u8 c)],[]=>K ([.a (.int .i64 (qeI s c))],[])
 | _,_=>none
def qhs:XA:=fun args blks=>match args,blks with
 | [.a (.str s),.a (.str t)],[]=>if t.data.toList.length=1 then some ([.a (.int .i64 (qsV s t))],[])else none
 | _,_=>none
def qjW:XK:=fun R args blks K=>match args,blks with
 | [.a (.str s),.a (.str t)],[]=>if t.data.toList.length=1 then K ([.a (.int .i64 (qsV s t))],[])else none
 | _,_=>none
def qht:XA:=fun args blks=>match args,blks with
 | [.a (.str s),.a (.str t)],[]=>if t.data.toList.length=1 then some ([.a (.int .i64 (qsW s t))],[])else none
 | _,_=>none
def qjX:XK:=fun R args blks K=>match args,blks with
 | [.a (.str s),.a (.str t)],[]=>if t.data.toList.length=1 then K ([.a (.int .i64 (qsW s t))],[])else none
 | _,_=>none
def XOk (g:XA) (G:XK):Prop:=∀(R:Type) a b,Snd (R:=R) (G R a b) fun r=>g (a.map V2.at) (b.map Blk2.at)=some (r.1.map V2.at,r.2.map Blk2.at)
theorem qmn:XOk qfj qhn:=by
 intro R a b K r e
 unfold qhn at e
 split at e
 ·exact⟨_,e,by simp [qfj,V2.at,A2.at]⟩
 ·cases e
theorem qp0:XOk qhs qjW:=by
 intro R a b K r e
 unfold qjW at e
 split at e
 ·split at e
  ·rename_i h
   refine⟨_,e,?_⟩
   simp only [List.map_cons,List.map_nil,V2.at,A2.at,qhs]
   rw [if_pos h]
  ·cases e
 ·cases e
theorem qp1:XOk qht qjX:=by
 intro R a b K r e
 unfold qjX at e
 split at e
 ·split at e
  ·rename_i h
   refine⟨_,e,?_⟩
   simp only [List.map_cons,List.map_nil,V2.at,A2.at,qht]
   rw [if_pos h]
  ·cases e
 ·cases e
section
variable {c : Cfg} {k : Nat}
theorem qkp {f:FuncId} {g:XA} {G:XK} {sh:FS} {os:List FS} (hX:c.X f=some g) (hG:XOk g G) (F:sh.D→Option (DS FS.D os))
  (hF:∀x,F x=G (DS FS.D os) (sh.enc x).1 (sh.enc x).2 (qgI FS.dec os)):qe (call c (k+1)) ⟨f,sh,os,F⟩:=by
 intro x y e
 simp only [] at e
 rw [hF] at e
 obtain⟨r,e,h1⟩:=hG _ _ _ _ _ e
 have h2:=qhr (enc:=FS.enc) (Q:=fun a b=>a=b) (fun s a x h=>FS.dec_eq h) (l:=os) e
 simp only [call,hX,h1,h2]
end
def Ty:TypeId→Option TI
 | 0=>some ⟨.oth,1,0,false,[],false⟩
 | 2=>some ⟨.int .i64,1,8,false,[.int .i64 0],false⟩
 | 3=>some ⟨.int .i64,1,8,false,[.int .i64 0],false⟩
 | 4=>some ⟨.bool,1,1,false,[.bool false],false⟩
 | 5=>some ⟨.int .u8,1,1,false,[.int .u8 0],false⟩
 | 9=>some ⟨.str,1,16,false,[.str ⟨#[]⟩],false⟩
 | 20=>some ⟨.oth,1,16,false,[],false⟩
 | 21=>some ⟨.int .i32,1,4,false,[.int .i32 0],false⟩
 | 22=>some ⟨.sl 9,1,24,false,[.snil 1 9],false⟩
 | 23=>some ⟨.sl 48,1,24,false,[.snil 13 48],false⟩
 | 25=>some ⟨.st [(0,1),(1,1)] [2,3],2,16,true,[.int .i64 0,.int .i64 0],true⟩
 | 27=>some ⟨.st [(0,1),(1,1),(2,2),(4,1)] [22,23,25,3],5,72,true,[.snil 1 9,.snil 13 48,.int .i64 0,.int .i64 0,.int .i64 0],false⟩
 | 31=>some ⟨.sl 3,1,24,false,[.snil 1 3],false⟩
 | 32=>some ⟨.int .i64,1,8,false,[.int .i64 0],false⟩
 | 33=>some ⟨.oth,1,0,false,[],false⟩
 | 35=>some ⟨.oth,1,0,false,[],false⟩
 | 42=>some ⟨.sl 25,1,24,false,[.snil 2 25],false⟩
 | 44=>some ⟨.st [(0,1),(1,1),(2,1)] [3,42,31],3,56,true,[.int .i64 0,.snil 2 25,.snil 1 3],false⟩
 | 46=>some ⟨.st [(0,1),(1,1),(2,1),(3,1)] [9,5,42,42],4,72,true,[.str ⟨#[]⟩,.int .u8 0,.snil 2 25,.snil 2 25],false⟩
 | 48=>some ⟨.st [(0,1),(1,1),(2,1),(3,1),(4,2),(6,3),(9,4)] [5,9,31,3,25,44,46],13,200,true,[.int .u8 0,.str ⟨#[]⟩,.snil 1 3,.int .i64 0,.int .i64 0,.int .i64 0,.int .i64 0,.snil 2 25,.snil 1 3,.str ⟨#[]⟩,.int .u8 0,.snil 2 25,.snil 2 25],false⟩
 | 51=>some ⟨.sl 2,1,24,false,[.snil 1 2],false⟩
 | 53=>some ⟨.st [(0,1),(1,1),(2,1),(3,1)] [3,51,51,31],4,80,true,[.int .i64 0,.snil 1 2,.snil 1 2,.snil 1 3],false⟩
 | 55=>some ⟨.oth,1,0,false,[],false⟩
 | 57=>some ⟨.oth,1,0,false,[],false⟩
 | 60=>some ⟨.int .u16,1,2,false,[.int .u16 0],false⟩
 | 64=>some ⟨.st [(0,1),(1,1),(2,1)] [2,2,3],3,24,true,[.int .i64 0,.int .i64 0,.int .i64 0],true⟩
 | 65=>some ⟨.oth,1,0,false,[],false⟩
 | 67=>some ⟨.oth,1,0,false,[],false⟩
 | 69=>some ⟨.sl 106,1,24,false,[.snil 1 106],false⟩
 | 71=>some ⟨.st [(0,1),(1,1)] [4,69],2,32,true,[.bool false,.snil 1 106],false⟩
 | 73=>some ⟨.st [(0,2),(2,2)] [71,71],4,64,true,[.bool false,.snil 1 106,.bool false,.snil 1 106],false⟩
 | 74=>some ⟨.oth,1,0,false,[],false⟩
 | 76=>some ⟨.oth,1,0,false,[],false⟩
 | 78=>some ⟨.oth,1,0,false,[],false⟩
 | 80=>some ⟨.oth,1,0,false,[],false⟩
 | 106=>some ⟨.int .u32,1,4,false,[.int .u32 0],false⟩
 | 115=>some ⟨.sl 3,1,24,false,[.snil 1 3],false⟩
 | 120=>some ⟨.sl 4,1,24,false,[.snil 1 4],false⟩
 | 122=>some ⟨.sl 125,1,24,false,[.snil 2 125],false⟩
 | 125=>some ⟨.st [(0,1),(1,1)] [3,3],2,16,true,[.int .i64 0,.int .i64 0],true⟩
 | 130=>some ⟨.oth,1,8,false,[],false⟩
 | 132=>some ⟨.oth,1,0,false,[],false⟩
 | 136=>some ⟨.oth,1,0,false,[],false⟩
 | 145=>some ⟨.ptr,1,8,false,[.nilp],false⟩
 | 147=>some ⟨.st [(0,1),(1,1)] [4,69],2,32,true,[.bool false,.snil 1 106],false⟩
 | 151=>some ⟨.ptr,1,8,false,[.nilp],false⟩
 | 154=>some ⟨.st [(0,1),(1,1)] [4,31],2,32,true,[.bool false,.snil 1 3],false⟩
 | 159=>some ⟨.st [(0,2),(2,2)] [154,154],4,64,true,[.bool false,.snil 1 3,.bool false,.snil 1 3],false⟩
 | 162=>some ⟨.oth,1,8,false,[],false⟩
 | 180=>some ⟨.st [(0,2),(2,2)] [147,147],4,64,true,[.bool false,.snil 1 106,.bool false,.snil 1 106],false⟩
 | 205=>some ⟨.int .u64,1,8,false,[.int .u64 0],false⟩
 | 207=>some ⟨.int .u64,1,8,false,[.int .u64 0],false⟩
 | 214=>some ⟨.oth,1,0,false,[],false⟩
 | 216=>some ⟨.sl 73,1,24,false,[.snil 4 73],false⟩
 | 253=>some ⟨.oth,1,0,false,[],false⟩
 | 261=>some ⟨.mp 9 3,1,8,false,[],false⟩
 | 262=>some ⟨.mp 5 3,1,8,false,[],false⟩
 | 264=>some ⟨.arr 2 42,2,48,true,[.snil 2 25,.snil 2 25],false⟩
 | 268=>some ⟨.oth,1,0,false,[],false⟩
 | 270=>some ⟨.oth,1,0,false,[],false⟩
 | 274=>some ⟨.sl 5,1,24,false,[.snil 1 5],false⟩
 | 276=>some ⟨.oth,1,0,false,[],false⟩
 | 278=>some ⟨.oth,1,0,false,[],false⟩
 | 284=>some ⟨.st [(0,1),(1,1)] [5,5],2,2,true,[.int .u8 0,.int .u8 0],true⟩
 | 285=>some ⟨.arr 16 284,32,32,true,[.int .u8 0,.int .u8 0,.int .u8 0,.int .u8 0,.int .u8 0,.int .u8 0,.int .u8 0,.int .u8 0,.int .u8 0,.int .u8 0,.int .u8 0,.int .u8 0,.int .u8 0,.int .u8 0,.int .u8 0,.int .u8 0,.int .u8 0,.int .u8 0,.int .u8 0,.int .u8 0,.int .u8 0,.int .u8 0,.int .u8 0,.int .u8 0,.int .u8 0,.int .u8 0,.int .u8 0,.int .u8 0,.int .u8 0,.int .u8 0,.int .u8 0,.int .u8 0],false⟩
 | _=>none
def kps:FuncId→Nat→List Kp
 | 3,0=> [.s 1,.b 2,.b 5,.s 6,.s 10,.s 77,.s 78]
 | 4,0=> [.s 1,.b 3,.s 7,.s 9,.b 10,.s 11,.s 13,.s 80,.s 81,.s 82]
 | 4,2=> [.s 1,.b 3,.s 7,.s 9,.b 10,.s 11,.s 13,.s 15,.s 80,.s 81,.s 82]
 | 8,0=> [.s 3,.s 4,.s 5,.b 6,.s 7,.s 8,.s 9,.s 45,.s 46,.s 47]
 | 14,0=> [.b 1,.s 3,.s 4]
 | 15,0=> [.b 1,.b 2,.b 3,.s 4]
 | 16,0=> [.b 2,.s 7,.s 8,.s 28,.s 29,.s 30]
 | 16,2=> [.s 7,.s 11,.s 66,.s 67]
 | 17,0=> [.s 1,.s 7,.s 8,.s 22,.s 23,.s 24]
 | 18,0=> [.s 7,.s 8,.s 9]
 | 19,0=> [.s 1,.b 2,.s 7,.s 8,.s 9]
 | 20,0=> [.s 0,.s 1,.s 5]
 | 23,0=> [.b 2,.b 3,.s 5]
 | 24,0=> [.b 1,.s 3,.s 4]
 | 24,2=> [.b 1,.s 3,.s 5]
 | 26,0=> [.b 2,.s 5,.s 6]
 | 27,0=> [.b 3,.b 4,.s 14,.s 15,.s 52,.s 53,.s 54]
 | 28,0=> [.s 2,.b 3,.b 4,.s 10,.s 11,.s 12]
 | 29,0=> [.b 2,.b 3,.s 8,.s 9]
 | 31,0=> [.s 0,.s 5,.s 6,.s 7]
 | 32,0=> [.s 0,.b 2,.s 5,.s 15,.s 16,.s 17]
 | 33,0=> [.s 0,.b 2,.b 4,.s 5]
 | 34,0=> [.s 0,.s 1,.s 2,.s 8]
 | 35,0=> [.s 0,.s 1,.s 2,.s 8,.s 9]
 | 36,0=> [.s 0,.s 1,.s 2,.s 8]
 | 37,0=> [.s 0,.s 1,.s 2,.s 8,.s 9]
 | 39,0=> [.s 0,.s 1,.s 5]
 | 40,0=> [.s 0,.s 3]
 | 58,0=> [.s 3,.s 7,.s 8]
 | 61,0=> [.s 0,.s 1]
 | 63,0=> [.s 0,.s 2,.s 7,.s 8]
 | 63,2=> [.s 0,.s 2,.s 7,.s 8,.s 9]
 | 64,0=> [.s 1,.b 2,.s 5,.s 6]
 | 65,0=> [.s 0,.s 1,.s 5]
 | 68,1=> [.b 2,.b 3,.s 5,.s 6,.s 7,.s 8,.s 9,.s 10]
 | 69,0=> [.s 0,.s 3,.s 4,.s 5]
 | 70,0=> [.s 0,.s 3]
 | 71,0=> [.b 1,.s 4,.s 5,.s 6]
 | 73,0=> [.b 2,.b 3,.s 67,.s 68,.s 69]
 | 75,0=> [.s 1,.s 9,.s 10,.s 11]
 | 77,0=> [.s 1,.b 2,.s 6]
 | 80,0=> [.b 1,.s 3,.s 4]
 | 81,0=> [.s 0,.s 3]
 | 84,0=> [.s 0,.s 3,.s 4]
 | 85,0=> [.s 0,.s 3,.s 4]
 | 91,0=> [.b 2,.b 3,.s 4]
 | 94,0=> [.s 0,.b 2,.b 3]
 | 97,0=> [.b 2,.b 3,.s 5]
 | 98,0=> [.s 3,.s 6,.s 7,.s 8]
 | 120,0=> [.b 1,.s 59,.s 60,.s 61]
 | 120,2=> [.b 1,.s 5,.s 70,.s 71,.s 72]
 | 122,0=> [.b 2,.b 3,.s 5]
 | 124,0=> [.b 1,.s 3]
 | 124,2=> [.b 1,.s 4]
 | 125,0=> [.b 1,.s 3]
 | 125,2=> [.b 1,.s 4]
 | 126,0=> [.s 0,.s 3]
 | 127,0=> [.s 0,.s 1,.s 5]
 | 130,0=> [.s 3,.s 7,.s 8,.s 9]
 | 137,0=> [.s 0,.s 1,.s 7,.s 8]
 | 138,0=> [.s 0,.s 1,.s 5]
 | 141,0=> [.s 0,.s 3]
 | 145,0=> [.s 0,.s 1,.s 5,.s 6,.s 7]
 | 146,0=> [.s 0,.s 1,.s 5]
 | 147,0=> [.s 0,.s 1,.s 5,.s 6,.s 7]
 | 148,0=> [.b 1,.b 2,.b 3,.s 4]
 | 151,0=> [.b 2,.b 3,.b 4]
 | 152,0=> [.b 2,.b 3,.b 4,.b 5,.s 6,.s 7,.s 8]
 | 155,0=> [.s 0,.s 1,.s 2,.s 7,.s 29,.s 30,.s 31]
 | 155,2=> [.s 0,.s 1,.s 2,.s 7,.s 8,.s 9,.s 10,.s 29,.s 30,.s 31,.s 39,.s 40,.s 41]
 | 183,0=> [.s 0,.s 3,.s 7,.s 8,.s 9]
 | 185,0=> [.b 2,.b 3,.s 30,.s 31,.s 32]
 | 186,0=> [.s 4,.s 5,.s 14,.s 15,.s 16]
 | 188,0=> [.s 0,.s 1,.s 5]
 | 189,0=> [.s 0,.s 3]
 | 192,0=> [.b 1,.s 18,.s 19]
 | 192,2=> [.b 1,.s 18,.s 19,.s 22,.s 23,.s 24]
 | 192,5=> [.b 1,.s 7]
 | 193,0=> [.s 0,.s 1,.s 2,.s 3,.s 9,.s 10]
 | 194,0=> [.s 0,.s 1,.s 7,.s 8]
 | 197,0=> [.s 0,.s 1,.s 7,.s 8]
 | 199,0=> [.s 0,.s 1,.s 5,.s 6,.s 21,.s 22]
 | 200,0=> [.s 0,.s 1,.s 5]
 | 201,0=> [.s 0,.s 1,.s 5,.s 6,.s 13,.s 14]
 | 203,0=> [.s 5,.s 6]
 | 205,0=> [.s 0,.s 3]
 | 207,0=> [.s 0,.s 1,.s 5,.s 6]
 | 208,0=> [.b 2,.b 3,.b 4,.s 5,.s 6]
 | 208,2=> [.b 2,.b 3,.b 4,.s 5,.s 6,.s 7,.s 8]
 | 217,0=> [.s 0,.b 2,.b 3,.s 4]
 | 222,0=> [.b 1,.s 9,.s 10,.s 11]
 | 222,2=> [.b 1,.s 20,.s 21,.s 22]
 | 222,5=> [.b 1,.s 7]
 | 226,0=> [.s 14,.s 15,.s 16]
 | 228,0=> [.s 0,.s 1,.s 6,.s 7]
 | 229,0=> [.s 0,.s 1,.s 5]
 | 234,0=> [.s 3,.s 4,.s 7,.s 8]
 | 237,0=> [.s 2,.s 4]
 | 241,0=> [.s 0,.s 1,.s 6,.s 7,.s 8]
 | 242,0=> [.s 0,.s 1,.s 6]
 | 242,2=> [.s 4,.s 6,.s 7,.s 8,.s 9,.s 10]
 | 242,4=> [.s 4,.s 6,.s 7,.s 8,.s 9,.s 10,.s 12,.s 13]
 | 242,6=> [.s 4,.s 5,.s 6,.s 8,.s 139,.s 140]
 | 247,0=> [.s 1,.s 5,.s 13,.s 14,.s 15]
 | 248,0=> [.s 0,.s 1,.s 2,.s 7,.s 8,.s 14,.s 15]
 | 248,2=> [.s 0,.s 1,.s 2,.s 7,.s 61,.s 62]
 | _,_=> []
def qBd:FuncId→Bool
 | 248=>true
 | 205=>true
 | 61=>true
 | 60=>true
 | _=>false
def qBe:FuncId→Bool
 | 15=>true
 | 58=>true
 | 101=>true
 | 158=>true
 | 205=>true
 | 247=>true
 | 16=>true
 | 17=>true
 | 63=>true
 | _=>false
def qzQ:FuncId→Bool
 | 63=>true
 | _=>false
def xas:FuncId→Option XA
 | 59=>some qfj
 | 230=>some qhs
 | 229=>some qht
 | _=>none
noncomputable def cf:Cfg:={ T:=Ty,F:=fun f=>Tryz.prog.funcs[f]?,X:=xas,mutA:=qBd,ownR:=qBe,keep:=kps,lend:=qzQ }
end Go.Proofs.YtlnailgfialgnaaGreatDoor.Am
namespace Go.Proofs.YtlnailgfialgnaaGreatDoor.Am
open Go Go.Sort
section
variable {P : Program}
def qmH (P:Program) (f:FuncId) (g:XA):Prop:=∀args blks rs bs,g args blks=some (rs,bs)→qg2 P f∧∀(w:World) (ι:Io) (h:Hp) (vals:Array Value),RVs ι h args vals.toList→(∀m∈qd args,m<blks.length)→Mm ι h w blks→
  Calls P f vals w fun e w'=>∃(us:Array Value) (ι':Io) (h':Hp),e= .returned (qfQ us)∧Post ι h w blks rs bs us.toList w' ι' h'
theorem qri (v:Value):qfQ #[v]=v:=by simp [qfQ]
theorem qkq {f:FuncId} {g:XA} (hE:qg2 P f) (hg:∀args blks rs bs,g args blks=some (rs,bs)→blks= []∧bs= []∧∃z:Int,rs= [.a (.int .i64 z)]∧∀(ι:Io) (h:Hp) (w:World) (vals:Array Value),RVs ι h args vals.toList→
  Calls P f vals w fun e w'=>e= .returned (.int .i64 z)∧w'=w):qmH P f g:=by
 intro args blks rs bs e
 obtain⟨rfl,rfl,z,rfl,hc⟩:=hg args blks rs bs e
 refine⟨hE,fun w ι h vals hv hn hm=>(hc ι h w vals hv).mono ?_⟩
 rintro e w' ⟨rfl,rfl⟩
 refine⟨#[.int .i64 z],ι,h,by rw [qri],⟨⟨rfl,fun j x hx=> ?_⟩,fun m hm=> ?_,Sub.refl h,Nat.le_refl _,fun _ _=>rfl,hm,fun i B L hB=> ?_,fun i B L hB=> ?_,fun _ _ _=>rfl,fun _ _ _=>rfl,Nat.le_refl _,rfl,rfl,rfl⟩⟩
 ·cases j with
  | succ j=>simp at hx
  | zero=>cases hx;exact⟨_,rfl,.int _ _⟩
 ·simp [qd,Vl.cells,At.nm] at hm
 ·simp at hB
 ·simp at hB
theorem qlG {vals:Array Value} {ι:Io} {h:Hp} {x y:Vl} (hv:RVs ι h [x,y] vals.toList):∃u v,vals= #[u,v]∧RV ι h x u∧RV ι h y v:=by
 obtain⟨u,h1,h2⟩:=hv.2 0 x rfl
 obtain⟨v,h3,h4⟩:=hv.2 1 y rfl
 refine⟨u,v,?_,h2,h4⟩
 have hl:=hv.1
 cases vals with | mk l=>
 match l,hl,h1,h3 with
 | [a,b],_,h1,h3=>simp at h1 h3;rw [h1,h3]
theorem qnz {t:ByteArray} (h:t.data.toList.length=1):t=⟨#[t.data.toList.headD 0]⟩:=by
 cases t with | mk d=>cases d with | mk l=>
 match l,h with
 | [b],_=>rfl
theorem qot {f:FuncId} (hE:qg2 P f) (hS:∀(s:ByteArray) (c:Int) (w:World),Calls P f #[.string s,.int .u8 c] w fun e w'=>e= .returned (.int .i64 (Go.Lib.indexByte s.data.toList c.toNat.toUInt8))∧w'=w):qmH P f qfj:=by
 refine qkq hE fun args blks rs bs e=> ?_
 unfold qfj at e
 split at e
 ·rename_i s c
  cases e
  refine⟨rfl,rfl,_,rfl,fun ι h w vals hv=> ?_⟩
  obtain⟨u,v,rfl,r1,r2⟩:=qlG hv
  have r1:RP h _ _:=r1
  have r2:RP h _ _:=r2
  cases r1;cases r2
  exact hS s c w
 ·cases e
theorem qsX {f:FuncId} (hE:qg2 P f) (hS:∀(s:ByteArray) (c:UInt8) (w:World),Calls P f #[.string s,.string ⟨#[c]⟩] w fun e w'=>e= .returned (.int .i64 (Go.Lib.indexByte s.data.toList c))∧w'=w):qmH P f qhs:=by
 refine qkq hE fun args blks rs bs e=> ?_
 unfold qhs at e
 split at e
 ·rename_i s t
  split at e
  ·rename_i h1
   cases e
   refine⟨rfl,rfl,_,rfl,fun ι h w vals hv=> ?_⟩
   obtain⟨u,v,rfl,r1,r2⟩:=qlG hv
   have r1:RP h _ _:=r1
   have r2:RP h _ _:=r2
   cases r1;cases r2
   have:=hS s (t.data.toList.headD 0) w
   rw [←qnz h1] at this
   exact this
  ·cases e
 ·cases e
theorem qsY {f:FuncId} (hE:qg2 P f) (hS:∀(s:ByteArray) (c:UInt8) (w:World),Calls P f #[.string s,.string ⟨#[c]⟩] w fun e w'=>e= .returned (.int .i64 ((Go.Lib.countByte s.data.toList c:Nat):Int))∧w'=w):qmH P f qht:=by
 refine qkq hE fun args blks rs bs e=> ?_
 unfold qht at e
 split at e
 ·rename_i s t
  split at e
  ·rename_i h1
   cases e
   refine⟨rfl,rfl,_,rfl,fun ι h w vals hv=> ?_⟩
   obtain⟨u,v,rfl,r1,r2⟩:=qlG hv
   have r1:RP h _ _:=r1
   have r2:RP h _ _:=r2
   cases r1;cases r2
   have:=hS s (t.data.toList.headD 0) w
   rw [←qnz h1] at this
   exact this
  ·cases e
 ·cases e
end
end Go.Proofs.YtlnailgfialgnaaGreatDoor.Am
set_option maxRecDepth 100000
namespace Go.Proofs.YtlnailgfialgnaaGreatDoor.Am
open Go Go.Shelf
def qnA:Go.Shelf.Ren:=⟨fun | 137=>59 | 217=>121 | 266=>187 | n=>n,fun | 9=>9 | 5=>5 | 3=>3 | n=>n,fun | n=>n⟩
theorem qsZ:Go.Proofs.Lays.n137 Tryz.prog qnA:={
 mixed:=by kernel_rfl
 f137:=Tryz.func59.trans (congrArg some (by kernel_rfl))
 f217:=Tryz.func121.trans (congrArg some (by kernel_rfl))
 f266:=Tryz.func187.trans (congrArg some (by kernel_rfl))
 t3:=Tryz.underlying3
 a3:=Tryz.isAgg3
 z3:=Tryz.sizeOf3
 v3:=Tryz.zeroValue3
 t5:=Tryz.underlying5
 a5:=Tryz.isAgg5
 z5:=Tryz.sizeOf5
 v5:=Tryz.zeroValue5
 t9:=Tryz.underlying9
 a9:=Tryz.isAgg9
 z9:=Tryz.sizeOf9
 v9:=Tryz.zeroValue9 }
def qnB:Go.Shelf.Ren:=⟨fun | 143=>230 | 219=>240 | 217=>121 | 225=>244 | 224=>245 | 267=>246 | 266=>187 | 314=>249 | n=>n,fun | 9=>9 | 3=>3 | 4=>4 | 5=>5 | 46=>207 | 146=>286 | 51=>106 | n=>n,fun | 1=>0 | n=>n⟩
theorem qs0:Go.Proofs.Lays.n143 Tryz.prog qnB:={
 mixed:=by kernel_rfl
 f143:=Tryz.func230.trans (congrArg some (by kernel_rfl))
 f217:=Tryz.func121.trans (congrArg some (by kernel_rfl))
 f219:=Tryz.func240.trans (congrArg some (by kernel_rfl))
 f224:=Tryz.func245.trans (congrArg some (by kernel_rfl))
 f225:=Tryz.func244.trans (congrArg some (by kernel_rfl))
 f266:=Tryz.func187.trans (congrArg some (by kernel_rfl))
 f267:=Tryz.func246.trans (congrArg some (by kernel_rfl))
 f314:=Tryz.func249.trans (congrArg some (by kernel_rfl))
 t3:=Tryz.underlying3
 a3:=Tryz.isAgg3
 z3:=Tryz.sizeOf3
 v3:=Tryz.zeroValue3
 t4:=Tryz.underlying4
 a4:=Tryz.isAgg4
 z4:=Tryz.sizeOf4
 v4:=Tryz.zeroValue4
 t5:=Tryz.underlying5
 a5:=Tryz.isAgg5
 z5:=Tryz.sizeOf5
 v5:=Tryz.zeroValue5
 t9:=Tryz.underlying9
 a9:=Tryz.isAgg9
 z9:=Tryz.sizeOf9
 v9:=Tryz.zeroValue9
 t46:=Tryz.underlying207
 a46:=Tryz.isAgg207
 z46:=Tryz.sizeOf207
 v46:=Tryz.zeroValue207
 t51:=Tryz.underlying106
 a51:=Tryz.isAgg106
 z51:=Tryz.sizeOf106
 v51:=Tryz.zeroValue106
 t146:=Tryz.underlying286
 a146:=Tryz.isAgg286
 z146:=Tryz.sizeOf286
 v146:=Tryz.zeroValue286
 g1:=by kernel_rfl }
def qnC:Go.Shelf.Ren:=⟨fun | 138=>229 | 195=>237 | 218=>239 | 143=>230 | 219=>240 | 217=>121 | 225=>244 | 224=>245 | 267=>246 | 266=>187 | 314=>249 | n=>n,fun | 9=>9 | 3=>3 | 4=>4 | 5=>5 | 0=>0 | 46=>207 | 146=>286 | 51=>106 | n=>n,fun | 1=>0 | n=>n⟩
theorem qs1:Go.Proofs.Lays.n138 Tryz.prog qnC:={
 mixed:=by kernel_rfl
 f138:=Tryz.func229.trans (congrArg some (by kernel_rfl))
 f143:=Tryz.func230.trans (congrArg some (by kernel_rfl))
 f195:=Tryz.func237.trans (congrArg some (by kernel_rfl))
 f217:=Tryz.func121.trans (congrArg some (by kernel_rfl))
 f218:=Tryz.func239.trans (congrArg some (by kernel_rfl))
 f219:=Tryz.func240.trans (congrArg some (by kernel_rfl))
 f224:=Tryz.func245.trans (congrArg some (by kernel_rfl))
 f225:=Tryz.func244.trans (congrArg some (by kernel_rfl))
 f266:=Tryz.func187.trans (congrArg some (by kernel_rfl))
 f267:=Tryz.func246.trans (congrArg some (by kernel_rfl))
 f314:=Tryz.func249.trans (congrArg some (by kernel_rfl))
 t0:=Tryz.underlying0
 a0:=Tryz.isAgg0
 z0:=Tryz.sizeOf0
 v0:=Tryz.zeroValue0
 t3:=Tryz.underlying3
 a3:=Tryz.isAgg3
 z3:=Tryz.sizeOf3
 v3:=Tryz.zeroValue3
 t4:=Tryz.underlying4
 a4:=Tryz.isAgg4
 z4:=Tryz.sizeOf4
 v4:=Tryz.zeroValue4
 t5:=Tryz.underlying5
 a5:=Tryz.isAgg5
 z5:=Tryz.sizeOf5
 v5:=Tryz.zeroValue5
 t9:=Tryz.underlying9
 a9:=Tryz.isAgg9
 z9:=Tryz.sizeOf9
 v9:=Tryz.zeroValue9
 t46:=Tryz.underlying207
 a46:=Tryz.isAgg207
 z46:=Tryz.sizeOf207
 v46:=Tryz.zeroValue207
 t51:=Tryz.underlying106
 a51:=Tryz.isAgg106
 z51:=Tryz.sizeOf106
 v51:=Tryz.zeroValue106
 t146:=Tryz.underlying286
 a146:=Tryz.isAgg286
 z146:=Tryz.sizeOf286
 v146:=Tryz.zeroValue286
 g1:=by kernel_rfl }

theorem qzR:∀f g args blks rs bs,cf.X f=some g→g args blks=some (rs,bs)→qg2 Tryz.prog f∧∀(w:World) (ι:Io) (h:Hp) (vals:Array Value),RVs ι h args vals.toList→(∀m∈qd args,m<blks.length)→Mm ι h w blks→
  Calls Tryz.prog f vals w fun e w'=>∃(us:Array Value) (ι':Io) (h':Hp),e= .returned (qfQ us)∧Post ι h w blks rs bs us.toList w' ι' h':=by
 intro f g args blks rs bs h
 change xas f=some g at h
 unfold xas at h
 split at h
 ·cases h;exact qot ⟨_,Tryz.func59,by kernel_rfl,by kernel_rfl⟩ (fun s c w=>Any.strings_IndexByte qsZ s c w) args blks rs bs
 ·cases h;exact qsX ⟨_,Tryz.func230,by kernel_rfl,by kernel_rfl⟩ (fun s c w=>Any.strings_Index_one qs0 s c w) args blks rs bs
 ·cases h;exact qsY ⟨_,Tryz.func229,by kernel_rfl,by kernel_rfl⟩ (fun s c w=>Any.strings_Count_one qs1 s c w) args blks rs bs
 ·cases h
end Go.Proofs.YtlnailgfialgnaaGreatDoor.Am
namespace Go.Proofs.YtlnailgfialgnaaGreatDoor.Am
open Go
theorem qzS:qbB Tryz.prog Ty:=by
 intro t i h
 unfold Ty at h
 split at h<;>first | (cases h;done) | (cases h;exact qv9 (by kernel_rfl))
theorem qbz:(Tryz.prog.funcs.toList.all fun fn=> !(fn.name == "runtime.NumGoroutine"))=true:=by kernel_rfl
theorem qwa:CfgOk Tryz.prog cf:=
 { ty:=qzS,fn:=fun f fn e=>qsU qbz e,ext:=qzR,mo:=by kernel_rfl }
def lpL:Nat→Code→List (Nat×Code)
 | b,.seq x y=>lpL b x++lpL b y
 | b,.cond _ x y=>lpL b x++lpL b y
 | _,.block id x=>lpL id x
 | b,.loop x=> [(b,x)]
 | _,_=> []
theorem lall {Q:Nat→Code→Prop} (x:Code):∀(b:Nat),(∀q∈lpL b x,Q q.1 q.2)→qhA Q b x:=by
 induction x with
 | seq x y hx hy=>exact fun b h=>⟨hx b fun q m=>h q (List.mem_append_left _ m),hy b fun q m=>h q (List.mem_append_right _ m)⟩
 | cond _ x y hx hy=>exact fun b h=>⟨hx b fun q m=>h q (List.mem_append_left _ m),hy b fun q m=>h q (List.mem_append_right _ m)⟩
 | block id x hx=>exact fun b h=>hx id h
 | loop x _=>exact fun b h=>h (b,x) (List.mem_singleton.2 rfl)
 | _=>exact fun _ _=>trivial
def lbF (q:Nat):Nat→Code→Option Code
 | b,.seq x y=>(lbF q b x).or (lbF q b y)
 | b,.cond _ x y=>(lbF q b x).or (lbF q b y)
 | _,.block id x=>lbF q id x
 | b,.loop x=>if b=q then some x else lbF q b x
 | _,_=>none
def lbB (fn:Func) (q:Nat):Code:=(lbF q 0 (bd fn)).getD .skip
def LIo (f:FuncId) (fn:Func) (p k:Nat) (i:LInst):Prop:=qsR cf (call cf k) (kps f) fn.ntmps k p i.b (lbB fn i.b) i
def LLo (f:FuncId) (fn:Func) (p k:Nat):List LInst→Prop
 | []=>True
 | i::r=>LIo f fn p k i∧LLo f fn p k r
theorem a0 {cl:FuncId→List Vl→List Blk→Option (List Vl×List Blk)}:qas cl []:=trivial
theorem ac {cl:FuncId→List Vl→List Blk→Option (List Vl×List Blk)} {i:Inst} {r:List Inst} (h:qe cl i) (t:qas cl r):qas cl (i::r):=⟨h,t⟩
theorem l0 {f:FuncId} {fn:Func} {p k:Nat}:LLo f fn p k []:=trivial
theorem lc {f:FuncId} {fn:Func} {p k:Nat} {i:LInst} {r:List LInst} (h:LIo f fn p k i) (t:LLo f fn p k r):LLo f fn p k (i::r):=⟨h,t⟩
theorem LLo.all {f:FuncId} {fn:Func} {p k:Nat} (b:Nat):∀ {l:List LInst},LLo f fn p k l→qsS cf (call cf k) (kps f) fn.ntmps k p b (lbB fn b) l
 | [],_=>trivial
 | _::_,h=>⟨fun e=>e▸h.1,LLo.all b h.2⟩
theorem LLo.lall {R:Type} {f:FuncId} {fn:Func} {p k b:Nat} {x:Code} {l:List LInst} (h:LLo f fn p k l) {qs:List Nat} (hq:lpL b x=qs.map fun q=>(q,lbB fn q)):
  qhA (LOk (R:=R) (fun b _ σ K=>LOt Ty (kps f) p b σ K l) cf (call cf k) (kps f) fn.ntmps k p) b x:=by
 refine Am.lall x b fun q m=> ?_
 rw [hq] at m
 obtain⟨i,_,rfl⟩:=List.mem_map.1 m
 exact qv7 (c:=cf) (h.all i)
def mkL (b:Nat) (hs:List SS) (os:List OS) (L:Nat→DS SS.D hs→Option (DS OS.D os)) (k:Nat):LInst:=⟨b,hs,os,L k⟩
def mkI (f:FuncId) (sh:FS) (os:List FS) (U:Nat→sh.D→Option (DS FS.D os)) (k:Nat):Inst:=⟨f,sh,os,U k⟩
theorem lpk {f:FuncId} {fn:Func} {p k b:Nat} {hs:List SS} {os:List OS} {L:Nat→DS SS.D hs→Option (DS OS.D os)} (qs:List Nat) {is:List Inst} {ls:List LInst} (hC:qas (call cf k) is) (hl:LLo f fn p k ls)
  (h0:∀x,L 0 x=none) (hq:lpL b (lbB fn b)=qs.map fun q=>(q,lbB fn q))
  (hF:∀n x,L (n+1) x=qjU SS.enc (fun σ=>qd6 cf (fun f a b K=>COt f a b K is) (fun b _ σ K=>LOt Ty (kps f) p b σ K ls) fn.ntmps b (lbB fn b) σ (qpZ Ty (kps f b) p hs os (L n))) hs x):LIo f fn p k (mkL b hs os L k):=
 qvb (c:=cf) (qrg hC) (hl.lall hq) L h0 hF
theorem fnk {f:FuncId} {fn:Func} {sh:FS} {os:List FS} {U:Nat→sh.D→Option (DS FS.D os)} (p:Nat) (qs:List Nat) (hf:cf.F f=some fn) {is:Nat→List Inst} {ls:Nat→List LInst} (hC:∀k,qas (call cf k) (is k)) (hl:∀k,LLo f fn p k (ls k))
  (hz:cf.X f=none∧fn.body=some (bd fn)∧(sh.vs.length=fn.params.size+fn.nfree∧sh.vs.length≤fn.ntmps)∧sh.bs.length=p) (h0:∀x,U 0 x=none) (hq:lpL 0 (bd fn)=qs.map fun q=>(q,lbB fn q))
  (hF:∀k x,U (k+1) x=qmE cf (fun f a b K=>COt f a b K (is k)) (fun b _ σ K=>LOt Ty (kps f) p b σ K (ls k)) f fn.ntmps fn.results.toList (bd fn) (sh.enc x).1 (sh.enc x).2 (qgI FS.dec os)):∀k,qe (call cf k) (mkI f sh os U k)
 | 0=>fun x y e=>absurd ((h0 x).symm.trans e) (by simp)
 | k+1=>qvc hz.1 hf hz.2.1 hz.2.2.1 (qrg (hC k)) (hz.2.2.2▸(hl k).lall hq) (U (k+1)) (hz.2.2.2▸hF k)
abbrev vI:ShV:= .a (.lf (.int .i64))
abbrev vB:ShV:= .a (.lf .bool)
abbrev vJ:ShV:= .a (.lf (.sl (.int .i64)))
abbrev vT:ShV:= .a (.lf (.sl (.int .u32)))
abbrev vS:ShV:= .a (.lf .str)
abbrev vU:ShV:= .a (.lf (.int .u64))
abbrev vR:ShV:= .a (.lf (.sl .str))
abbrev cW:Cd:= .sl (.int .u32)
abbrev cE:Cd:= .sl (.pr (.int .i64) (.int .i64))
end Go.Proofs.YtlnailgfialgnaaGreatDoor.Am
namespace Go.Proofs.YtlnailgfialgnaaGreatDoor.Am
open Go Go.RowKit Go.WideShapes

def qnW (f:TypeId→Option Cd):List Field→Option Cd
  | []=>none
  | [x]=>f x.type
  | x::r=>(f x.type).bind fun a=>(qnW f r).bind fun b=>some (.pr a b)
def Cd.by:Cd→Nat
  | .int .i8 | .int .u8 | .bool=>1
  | .int .i16 | .int .u16=>2
  | .int .i32 | .int .u32=>4
  | .int _=>8
  | .str=>16
  | .sl _=>24
  | .pr a b=>a.by+b.by
  | .ref _=>8
def cdP (P:Program):Nat→TypeId→Option Cd
  | 0,_=>none
  | k + 1, t => match P.underlying t with
    | some (.int k)=>some (.int k)
    | some .bool=>some .bool
    | some .string=>some .str
    | some (.slice e)=>(cdP P k e).bind fun c=>if P.cellsOf e=c.sz∧c.by≤P.bytesOf e then some (.sl c)else none
    | some (.struct fs)=>if qhl P fs.toList 0 (P.cellsOf t)=true then qnW (cdP P k) fs.toList else none
    | _=>none
section
variable {P : Program}
def quF (P:Program) (t:TypeId):Bool:=match P.underlying t with
  | some (.struct _)=>true
  | _=>false
def qiY (st:Bool) (c:Cd) (y:c.D):V2:=if st then .g (c.cl y)else .a ((c.cl y).headD .nilp)
variable {H : Type} {enc : TypeId × Value → H} {w : World} {base : Nat} {sp : Nat → Bool} {held : Bool}
theorem qvl {ι:Io} {h:Hp}:RVs ι h [] []:=⟨rfl,by simp⟩
theorem qkC {ι:Io} {h:Hp} {x:Vl} {v:Value} {xs:List Vl} {vs:List Value} (h1:RV ι h x v) (h2:RVs ι h xs vs):RVs ι h (x::xs) (v::vs):=by
  refine⟨by simp [h2.1],fun j y e=> ?_⟩
  cases j with
  | zero=>simp at e;subst e;exact⟨v,rfl,h1⟩
  | succ j=>simp at e;simpa using h2.2 j y e
theorem qiZ {x:Vl} {xs:List Vl} (h1:qd [x]= []) (h2:qd xs= []):qd (x::xs)= []:=by
  simp only [qd,List.flatMap_cons,List.flatMap_nil,List.append_nil] at h1 h2 ⊢
  rw [h1,h2];rfl
theorem qtj {c:Cfg} (hk:CfgOk P c) {k:Nat} {i:Inst} (hi:qe (call c k) i) {x:i.sh.D} {y:DS FS.D i.os} (h:i.F x=some y) (hy:qhB FS.enc i.os y=([.a (.bool true)],[]))
    {args:List V2} (ha:i.sh.enc x=(args,[])) {vals:Array Value} (hr:RVs (fun _=>none) (view w) (args.map V2.at) vals.toList) (hn:qd (args.map V2.at)= []):
    Calls P i.f vals w fun e w'=>e= .returned (.bool true)∧Below w.heap.size w w':=by
  have:=hi x y h
  rw [hy,ha] at this
  exact qq1 hk hr hn this
end
inductive TypedR (P:Program) (R:Nat):TypeId→List At→Prop
  | bool {t:TypeId} (hu:P.underlying t=some .bool) (b:Bool):TypedR P R t [.bool b]
  | int {t:TypeId} {k:IntKind} (hu:P.underlying t=some (.int k)) (n:Int) (h:(Lit.int k n).wf=true):TypedR P R t [.int k n]
  | str {t:TypeId} (hu:P.underlying t=some .string) (s:ByteArray) (h:s.size≤maxLen) (hb:s.size≤R):TypedR P R t [.str s]
  | sl {t e:TypeId} (hu:P.underlying t=some (.slice e)) (els:List (List At)) (hn:els.length≤maxLen) (hb:els.length*P.bytesOf e≤R) (h:∀el∈els,TypedR P R e el):TypedR P R t [.sl (P.cellsOf e) els.length els]
  | st {t:TypeId} {fs:Array Field} (hu:P.underlying t=some (.struct fs)) (cs:List At) (hl:cs.length=P.cellsOf t) (h:∀(i:Nat) (f:Field),fs[i]? =some f→TypedR P R f.type ((cs.drop f.offset).take (P.cellsOf f.type))):TypedR P R t cs

section
variable {P : Program} {H : Type} {enc : TypeId × Value → H} {w : World} {base : Nat} {sp : Nat → Bool} {held : Bool} {R : Nat}
theorem qn4 {e:TypeId}:∀ {l:List (DataW H)},(DataW.weightsAll P e l).all (· ≤R)=true→∀d∈l,(DataW.weights P e d).all (· ≤R)=true:=by
  intro l
  induction l with
  | nil=>intro _ d hd;cases hd
  | cons x r ih =>
    intro h d hd
    simp only [DataW.weightsAll,List.all_append,Bool.and_eq_true] at h
    rcases List.mem_cons.1 hd with rfl | hd
    · exact h.1
    · exact ih h.2 d hd
theorem qmq:∀ {ts:List TypeId} {l:List (DataW H)},(DataW.weightsEach P ts l).all (· ≤R)=true→∀(i:Nat) t d,ts[i]? =some t→l[i]? =some d→(DataW.weights P t d).all (· ≤R)=true:=by
  intro ts
  induction ts with
  | nil=>intro l _ i t d h;simp at h
  | cons t ts ih =>
    intro l h i t' d h1 h2
    cases l with
    | nil=>simp at h2
    | cons x r =>
      simp only [DataW.weightsEach,List.all_append,Bool.and_eq_true] at h
      cases i with
      | zero=>simp at h1 h2;subst h1 h2;exact h.1
      | succ i=>exact ih h.2 i t' d (by simpa using h1) (by simpa using h2)
theorem qoD:∀(d:Nat) (t:TypeId),qg4 P d t=true→∀(fuel:Nat) (cs:List Value) (x:DataW H×List MemPlace),DataW.trod enc P w base sp held fuel t cs=some x→(DataW.weights P t x.1).all (· ≤R)=true→
    ∃xs:List At,RL (fun _=>none) (view w) xs cs∧(∀y∈xs,y.pr=true)∧TypedR P R t xs:=by
  intro d
  induction d with
  | zero=>intro t h;cases h
  | succ d ih =>
    intro t ht fuel cs x hx hwt
    simp only [qg4] at ht
    have one:∀(y:At) (v:Value),RP (view w) y v→y.pr=true→cs= [v]→TypedR P R t [y]→∃xs:List At,RL (fun _=>none) (view w) xs cs∧(∀y∈xs,y.pr=true)∧TypedR P R t xs:=by
      rintro y v h1 h2 rfl h3
      exact⟨[y],RL.cons (RA.ofRP h1) RL.nil,by simpa using h2,h3⟩
    split at ht
    · rename_i hu
      obtain⟨b,rfl,_⟩:=DataW.trod_bool hu hx
      exact one _ _ (.bool b) rfl rfl (.bool hu b)
    · rename_i k hu
      obtain⟨n,rfl,_,hw⟩:=DataW.trod_int hu hx
      exact one _ _ (.int k n) rfl rfl (.int hu n hw)
    · rename_i hu
      obtain⟨s,rfl,hx1,hs⟩:=DataW.trod_string hu hx
      exact one _ _ (.str s) rfl rfl (.str hu s hs (by
        subst hx1
        simp only [DataW.weights,List.all_cons,List.all_nil,Bool.and_true,decide_eq_true_eq] at hwt
        have e:s.data.toList.length=s.size:=by rw [Array.length_toList];rfl
        omega))
    · rename_i e hu
      simp only [Bool.and_eq_true,decide_eq_true_eq] at ht
      obtain⟨hpos,hte⟩:=ht
      rcases DataW.trod_slice hu hx with ⟨rfl,_⟩ | ⟨a,len,cap,elems,rest,n,rfl,rfl,hx1,hb,hlc,hcm,hel,hev,_,_⟩
      · exact one _ _ (.sl0 (P.cellsOf e) none 0) rfl rfl (.sl hu [] (Nat.zero_le _) (by simp) (by simp))
      · -- each element
        subst hx1
        simp only [DataW.weights,hu,List.all_cons,List.all_append,Bool.and_eq_true,decide_eq_true_eq,List.length_map] at hwt
        obtain⟨hw1,hw2,_⟩:=hwt
        have each:∀i,i<len→∃(ci:List Value) (xs:List At),w.cells? base (a.add (i*P.cellsOf e)) (P.cellsOf e)=some ci∧RL (fun _=>none) (view w) xs ci∧(∀y∈xs,y.pr=true)∧TypedR P R e xs:=by
          intro i hi
          have h1:=hev i hi
          rw [List.getElem?_eq_getElem (by omega)] at h1
          obtain⟨ci,h2,h3⟩:=Option.bind_eq_some_iff.1 h1
          obtain⟨xs,r1,r2,r3⟩:=ih e hte n ci _ h3 (qn4 hw2 _ (List.mem_map_of_mem (List.getElem_mem _)))
          exact⟨ci,xs,h2,r1,r2,r3⟩
        let E:Nat→List At:=fun i=>if hi:i<len then(each i hi).choose_spec.choose else []
        let V:Nat→List Value:=fun i=>if hi:i<len then(each i hi).choose else []
        have hE:∀i,i<len→w.cells? base (a.add (i*P.cellsOf e)) (P.cellsOf e)=some (V i)∧RL (fun _=>none) (view w) (E i) (V i)∧(∀y∈E i,y.pr=true)∧TypedR P R e (E i):=by
          intro i hi
          simp only [E,V,dif_pos hi]
          exact(each i hi).choose_spec.choose_spec
        let els:=(List.range len).map E
        have hlen:els.length=len:=by simp [els]
        have hget:∀i e',els[i]? =some e'→i<len∧e'=E i:=by
          intro i e' he'
          have hi:i<len:=by
            have:=(List.getElem?_eq_some_iff.1 he').1
            simpa [hlen] using this
          simp only [els,List.getElem?_map,List.getElem?_range hi,Option.map_some,Option.some.injEq] at he'
          exact⟨hi,he'.symm⟩
        have hty:TypedR P R t [.sl (P.cellsOf e) els.length els]:=by
          refine .sl hu els (by omega) (Nat.le_trans (Nat.mul_le_mul_right _ (by omega)) hw1) fun el hm=> ?_
          obtain⟨i,hi⟩:=List.getElem?_of_mem hm
          obtain⟨h1,rfl⟩:=hget i el hi
          exact(hE i h1).2.2.2
        rcases Nat.eq_zero_or_pos len with h0 | h0
        · subst h0
          have hz:els= []:=by simp [els]
          refine one _ _ ?_ rfl rfl hty
          rw [hz]
          exact .sl0 _ _ _
        · obtain ⟨hc0, _⟩ := hE 0 h0
          have hspot:a.spot=none:=qpH (by rw [Nat.zero_mul] at hc0;exact hc0) hpos
          obtain⟨b,off,spot⟩:=a
          simp only at hspot
          subst hspot
          obtain⟨C,t',z,hC,_⟩:=qlW hc0 hpos
          have hcell:∀i,i<len→(V i).length=P.cellsOf e∧∀j,j<P.cellsOf e→C[off+(i*P.cellsOf e+j)]? =(V i)[j]? :=by
            intro i hi
            obtain⟨C',t'',z',hC',hl,hj⟩:=qlW (hE i hi).1 hpos
            rw [hC] at hC'
            cases hC'
            exact⟨hl,hj⟩
          refine one _ _ (.sl _ els b off cap (P.cellsOf e) C t' z (fun i j=>((V i)[j]?).getD undef) hC rfl (by rw [hlen];exact hlc) ?_ ?_ ?_) rfl (by rw [hlen]) hty
          · intro i e' he'
            obtain⟨hi,rfl⟩:=hget i e' he'
            rw [(hE i hi).2.1.1,(hcell i hi).1]
          · intro i e' j y he' hy
            obtain⟨hi,rfl⟩:=hget i e' he'
            obtain⟨u,g1,g2⟩:=(hE i hi).2.1.2 j y hy
            have hj:j<P.cellsOf e:=by
              rw [←(hcell i hi).1]
              exact(List.getElem?_eq_some_iff.1 g1).1
            rw [(hcell i hi).2 j hj,g1]
            rfl
          · intro i e' j y he' hy
            obtain⟨hi,rfl⟩:=hget i e' he'
            obtain⟨u,g1,g2⟩:=(hE i hi).2.1.2 j y hy
            simp only [g1,Option.getD_some]
            exact RA.toRP ((hE i hi).2.2.1 y (List.mem_of_getElem? hy)) g2
    · rename_i fs hu
      simp only [Bool.and_eq_true,List.all_eq_true] at ht
      obtain⟨htile,hall⟩:=ht
      obtain⟨ds,n,rfl,hx1,hcl,hdl,hf⟩:=DataW.trod_struct hu hx
      subst hx1
      simp only [DataW.weights,hu] at hwt
      have key:∀(l:List Field) (o:Nat),qhl P l o (P.cellsOf t)=true→(∀f∈l,qg4 P d f.type=true∧∃y,DataW.trod enc P w base sp held n f.type ((cs.drop f.offset).take (P.cellsOf f.type))=some y∧(DataW.weights P f.type y.1).all (· ≤R)=true)→
          o≤P.cellsOf t∧∃xs:List At,RL (fun _=>none) (view w) xs (cs.drop o)∧(∀y∈xs,y.pr=true)∧∀f∈l,o≤f.offset∧TypedR P R f.type ((xs.drop (f.offset-o)).take (P.cellsOf f.type)):=by
        intro l
        induction l with
        | nil =>
          intro o ho _
          simp only [qhl,beq_iff_eq] at ho
          refine⟨by omega,[],?_,by simp,by simp⟩
          rw [List.drop_eq_nil_of_le (by omega)]
          exact RL.nil
        | cons f r ih2 =>
          intro o ho hfs
          simp only [qhl,Bool.and_eq_true,beq_iff_eq] at ho
          obtain⟨rfl,ho⟩:=ho
          obtain⟨hpf,y,hy,hyw⟩:=hfs f (List.mem_cons_self ..)
          obtain⟨ys,r1,r2,r3⟩:=ih f.type hpf n _ _ hy hyw
          obtain⟨q0,xs,q1,q2,q3⟩:=ih2 _ ho fun g hg=>hfs g (List.mem_cons_of_mem _ hg)
          have hyl:ys.length=P.cellsOf f.type:=by rw [r1.1,List.length_take,List.length_drop];omega
          refine⟨by omega,ys++xs,?_,?_,?_⟩
          · have := r1.append q1
            rwa [show cs.drop (f.offset+P.cellsOf f.type)=(cs.drop f.offset).drop (P.cellsOf f.type) by rw [List.drop_drop],List.take_append_drop] at this
          · intro z hz
            rcases List.mem_append.1 hz with hz | hz
            · exact r2 z hz
            · exact q2 z hz
          · intro g hg
            rcases List.mem_cons.1 hg with rfl | hg
            · refine ⟨Nat.le_refl _, ?_⟩
              rw [Nat.sub_self,List.drop_zero,←hyl,List.take_left]
              exact r3
            · obtain ⟨h1, h2⟩ := q3 g hg
              refine⟨by omega,?_⟩
              rw [show g.offset-f.offset=ys.length+(g.offset-(f.offset+P.cellsOf f.type)) by omega,←List.drop_drop,List.drop_left]
              exact h2
      obtain⟨_,xs,q1,q2,q3⟩:=key fs.toList 0 htile fun f hfm=>by
        refine⟨hall f hfm,?_⟩
        obtain⟨i,hi⟩:=List.getElem?_of_mem hfm
        have hi':fs[i]? =some f:=by simpa using hi
        have hlt:i<fs.size:=(Array.getElem?_eq_some_iff.1 hi').1
        exact⟨ds[i]'(by omega),by rw [hf i f hi'];exact List.getElem?_eq_getElem _,qmq hwt i f.type _ (by simp [hi']) (by rw [List.getElem?_map,List.getElem?_eq_getElem (show i<ds.length by omega)];rfl)⟩
      rw [List.drop_zero] at q1
      refine⟨xs,q1,q2,.st hu xs (by rw [q1.1,hcl]) fun i f hi=> ?_⟩
      have:=(q3 f (by simpa using Array.mem_of_getElem? hi)).2
      simpa using this
    · cases ht

theorem qr5 {d base':Nat} {t:TypeId} (ht:qg4 P d t=true) {v:Value} (hval:Value.okWide P w .any base' t v) {D:DataW H} {ps:List MemPlace} (hd:DataW.Trod enc P w base sp held t v D ps) (hwt:(DataW.weights P t D).all (· ≤R)=true):
    ∃x:Vl,RV (fun _=>none) (view w) x v∧qd [x]= []∧TypedR P R t x.cells∧((∃y,x= .a y)∨∃fs,P.underlying t=some (.struct fs))∧((∃ys,x= .g ys)∨¬ ∃fs,P.underlying t=some (.struct fs)):=by
  obtain⟨fuel,hf⟩:=hd
  obtain⟨xs,r1,r2,r3⟩:=qoD d t ht fuel _ _ hf hwt
  have hno:∀y:At,y.pr=true→y.nm= []:=fun y hy=>by cases y<;>simp [At.pr,At.nm] at hy ⊢
  have one:v.cells.toList= [v]→(¬ ∃fs,P.underlying t=some (.struct fs))→_:=fun hv hns=>(show ∃x:Vl,RV (fun _=>none) (view w) x v∧qd [x]= []∧TypedR P R t x.cells∧((∃y,x= .a y)∨∃fs,P.underlying t=some (.struct fs))∧((∃ys,x= .g ys)∨¬ ∃fs,P.underlying t=some (.struct fs)) by
    rw [hv] at r1
    match xs,r1,r2,r3 with
    | [y], r1, r2, r3 =>
      obtain⟨u,g1,g2⟩:=r1.2 0 y rfl
      simp at g1
      subst g1
      exact⟨.a y,g2,by simp [qd,Vl.cells,hno y (r2 y (by simp))],r3,.inl ⟨y,rfl⟩,.inr hns⟩
    | [],r1,_,_=>exact absurd r1.1 (by simp)
    | _::_::_,r1,_,_=>exact absurd r1.1 (by simp))
  cases d with
  | zero=>cases ht
  | succ d =>
    simp only [qg4] at ht
    split at ht
    · rename_i hu
      obtain⟨b,rfl⟩:=okWide_bool hu hval
      exact one rfl (by rw [hu];simp)
    · rename_i k hu
      obtain⟨n,rfl⟩:=okWide_int hu hval
      exact one rfl (by rw [hu];simp)
    · rename_i hu
      obtain⟨s,rfl⟩:=okWide_string hu hval
      exact one rfl (by rw [hu];simp)
    · rename_i e hu
      obtain⟨a,l,c,rfl⟩:=okWide_slice hu hval
      exact one rfl (by rw [hu];simp)
    · rename_i fs hu
      obtain⟨cs,rfl,_⟩:=okWide_struct hu hval
      refine⟨.g xs,⟨cs,rfl,r1⟩,?_,r3,.inr ⟨fs,hu⟩,.inl ⟨xs,rfl⟩⟩
      simp only [qd,Vl.cells,List.flatMap_cons,List.flatMap_nil,List.append_nil,List.flatMap_eq_nil_iff]
      exact fun y hy=>hno y (r2 y hy)
    · cases ht

theorem qqB {t:TypeId} {k:IntKind} (hu:P.underlying t=some (.int k)) {xs:List At} (h:TypedR P R t xs):∃n,xs= [.int k n]∧(Lit.int k n).wf=true:=by
  cases h with
  | int hu' n hw=>rw [hu] at hu';cases hu';exact⟨n,rfl,hw⟩
  | bool hu'=>rw [hu] at hu';cases hu'
  | str hu'=>rw [hu] at hu';cases hu'
  | sl hu'=>rw [hu] at hu';cases hu'
  | st hu'=>rw [hu] at hu';cases hu'
theorem qoE {t:TypeId} (hu:P.underlying t=some .bool) {xs:List At} (h:TypedR P R t xs):∃b,xs= [.bool b]:=by
  cases h with
  | bool hu' b=>exact⟨b,rfl⟩
  | int hu'=>rw [hu] at hu';cases hu'
  | str hu'=>rw [hu] at hu';cases hu'
  | sl hu'=>rw [hu] at hu';cases hu'
  | st hu'=>rw [hu] at hu';cases hu'
theorem qqC {t:TypeId} (hu:P.underlying t=some .string) {xs:List At} (h:TypedR P R t xs):∃s,xs= [.str s]∧s.size≤maxLen∧s.size≤R:=by
  cases h with
  | str hu' s hs hb=>exact⟨s,rfl,hs,hb⟩
  | int hu'=>rw [hu] at hu';cases hu'
  | bool hu'=>rw [hu] at hu';cases hu'
  | sl hu'=>rw [hu] at hu';cases hu'
  | st hu'=>rw [hu] at hu';cases hu'
theorem qr6 {t e:TypeId} (hu:P.underlying t=some (.slice e)) {xs:List At} (h:TypedR P R t xs):∃els,xs= [.sl (P.cellsOf e) els.length els]∧els.length≤maxLen∧els.length*P.bytesOf e≤R∧∀el∈els,TypedR P R e el:=by
  cases h with
  | sl hu' els hn hb he=>rw [hu] at hu';cases hu';exact⟨els,rfl,hn,hb,he⟩
  | int hu'=>rw [hu] at hu';cases hu'
  | bool hu'=>rw [hu] at hu';cases hu'
  | str hu'=>rw [hu] at hu';cases hu'
  | st hu'=>rw [hu] at hu';cases hu'
theorem qr7 {t:TypeId} {fs:Array Field} (hu:P.underlying t=some (.struct fs)) {xs:List At} (h:TypedR P R t xs):
    xs.length=P.cellsOf t∧∀(i:Nat) (f:Field),fs[i]? =some f→TypedR P R f.type ((xs.drop f.offset).take (P.cellsOf f.type)):=by
  cases h with
  | st hu' cs hl hf=>rw [hu] at hu';cases hu';exact⟨hl,hf⟩
  | int hu'=>rw [hu] at hu';cases hu'
  | bool hu'=>rw [hu] at hu';cases hu'
  | str hu'=>rw [hu] at hu';cases hu'
  | sl hu'=>rw [hu] at hu';cases hu'
end
def qgB (R:Nat):(c:Cd)→c.D→Prop
  | .int k,n=>(Lit.int k n).wf=true
  | .bool,_=>True
  | .str,s=>s.size≤maxLen∧s.size≤R
  | .sl c,l=>(l.length≤maxLen∧l.length*c.by≤R)∧∀x∈l,qgB R c x
  | .pr a b,x=>qgB R a x.1∧qgB R b x.2
  | .ref _,_=>False

section
variable {P : Program} {R : Nat}
theorem qr8:∀(k:Nat) (t:TypeId) (c:Cd),cdP P k t=some c→∀xs:List At,TypedR P R t xs→∃y:c.D,xs=c.at y∧qgB R c y:=by
  intro k
  induction k with
  | zero=>intro t c h;cases h
  | succ k ih =>
    intro t c h xs ht
    simp only [cdP] at h
    split at h
    · rename_i kk hu
      cases h
      obtain⟨n,rfl,hw⟩:=qqB hu ht
      exact⟨n,rfl,hw⟩
    · rename_i hu
      cases h
      obtain⟨b,rfl⟩:=qoE hu ht
      exact⟨b,rfl,trivial⟩
    · rename_i hu
      cases h
      obtain⟨s,rfl,hs⟩:=qqC hu ht
      exact⟨s,rfl,hs⟩
    · rename_i e hu
      simp only [Option.bind_eq_some_iff] at h
      obtain⟨c',h1,h⟩:=h
      split at h
      · rename_i hz
        cases h
        obtain⟨els,rfl,hn,hnb,hel⟩:=qr6 hu ht
        have key:∀els:List (List At),(∀el∈els,TypedR P R e el)→∃l:List c'.D,els=l.map c'.at∧∀x∈l,qgB R c' x:=by
          intro els
          induction els with
          | nil=>intro _;exact⟨[],rfl,by simp⟩
          | cons x r ih2 =>
            intro hx
            obtain⟨y,rfl,hw⟩:=ih e c' h1 x (hx x (List.mem_cons_self ..))
            obtain⟨l,rfl,hl⟩:=ih2 fun el hm=>hx el (List.mem_cons_of_mem _ hm)
            exact⟨y::l,rfl,fun z hz=>by
              rcases List.mem_cons.1 hz with rfl | hz
              · exact hw
              · exact hl z hz⟩
        obtain⟨l,rfl,hl⟩:=key els hel
        rw [List.length_map] at hn hnb ⊢
        exact⟨l,by simp only [Cd.at,hz.1],⟨hn,Nat.le_trans (Nat.mul_le_mul_left _ hz.2) hnb⟩,hl⟩
      · cases h
    · rename_i fs hu
      split at h
      · rename_i htile
        obtain⟨hcl,hf⟩:=qr7 hu ht
        have key:∀(l:List Field) (o:Nat) (c:Cd),qnW (cdP P k) l=some c→qhl P l o (P.cellsOf t)=true→(∀f∈l,TypedR P R f.type ((xs.drop f.offset).take (P.cellsOf f.type)))→∃y:c.D,xs.drop o=c.at y∧qgB R c y:=by
          intro l
          induction l with
          | nil=>intro o c h;cases h
          | cons f r ih2 =>
            intro o c h ho hfs
            simp only [qhl,Bool.and_eq_true,beq_iff_eq] at ho
            obtain⟨rfl,ho⟩:=ho
            have h0:=hfs f (List.mem_cons_self ..)
            cases r with
            | nil =>
              simp only [qnW] at h
              simp only [qhl,beq_iff_eq] at ho
              obtain⟨y,h2,h3⟩:=ih f.type c h _ h0
              refine⟨y,?_,h3⟩
              rw [←h2,List.take_of_length_le]
              rw [List.length_drop];omega
            | cons g r =>
              simp only [qnW,Option.bind_eq_some_iff] at h
              obtain⟨a,h4,b,h5,h⟩:=h
              cases h
              obtain⟨y,h2,h3⟩:=ih f.type a h4 _ h0
              obtain⟨z,h6,h7⟩:=ih2 _ b h5 ho fun g hg=>hfs g (List.mem_cons_of_mem _ hg)
              refine⟨(y,z),?_,h3,h7⟩
              simp only [Cd.at]
              rw [←h2,←h6,←List.drop_drop,List.take_append_drop]
        obtain⟨y,h1,h2⟩:=key fs.toList 0 c h htile fun f hfm=>by
          obtain⟨i,hi⟩:=List.getElem?_of_mem hfm
          exact hf i f (by simpa using hi)
        exact⟨y,by simpa using h1,h2⟩
      · cases h
    · cases h

variable {H : Type} {enc : TypeId × Value → H} {w : World} {base : Nat} {sp : Nat → Bool} {held : Bool}
theorem qkJ {d base':Nat} {t:TypeId} {c:Cd} (st:Bool) (ht:qg4 P d t=true) (hc:cdP P 9 t=some c) (hst:quF P t=st) {v:Value} (hval:Value.okWide P w .any base' t v) {D:DataW H} {ps:List MemPlace}
    (hd:DataW.Trod enc P w base sp held t v D ps) (hwt:(DataW.weights P t D).all (· ≤R)=true):∃y:c.D,RV (fun _=>none) (view w) (qiY st c y).at v∧qd [(qiY st c y).at]= []∧qgB R c y:=by
  obtain⟨x,h1,h2,h3,h4,h5⟩:=qr5 ht hval hd hwt
  obtain⟨y,h6,h7⟩:=qr8 9 t c hc _ h3
  have hx:x=(qiY st c y).at:=by
    unfold quF at hst
    cases hu:P.underlying t with
    | none => rw [hu] at hst; simp only at hst; subst hst
              rcases h4 with ⟨z,rfl⟩ | ⟨fs,e⟩
              · simp only [qiY, Bool.false_eq_true, if_false, V2.at]
                simp only [Vl.cells] at h6
                rw [←qfg] at h6
                match hq:c.cl y,h6 with
                | [],h6=>cases h6
                | q::r,h6=>simp only [List.map_cons,List.cons.injEq] at h6;rw [h6.1];rfl
              · rw [hu] at e;cases e
    | some dd =>
      cases st with
      | true =>
        have hs:∃fs,P.underlying t=some (.struct fs):=by
          rw [hu] at hst
          cases dd<;>simp only at hst<;>first | exact⟨_,hu⟩ | cases hst
        rcases h5 with ⟨ys,rfl⟩ | e
        · simp only [qiY, if_true, V2.at, qfg]
          rw [←h6];rfl
        · exact absurd hs e
      | false =>
        rcases h4 with ⟨z,rfl⟩ | ⟨fs,e⟩
        · simp only [qiY, Bool.false_eq_true, if_false, V2.at]
          simp only [Vl.cells] at h6
          rw [←qfg] at h6
          match hq:c.cl y,h6 with
          | [],h6=>cases h6
          | q::r,h6=>simp only [List.map_cons,List.cons.injEq] at h6;rw [h6.1];rfl
        · rw [hu] at e hst;cases e;cases hst
  subst hx
  exact⟨y,h1,h2,h7⟩
end
section
variable {P : Program} {H : Type}
def qcM (P:Program) (M:Nat):Nat→TypeId→Bool
  | 0,_=>false
  | d + 1, t => match P.underlying t with
    | some (.slice e)=>decide (2*P.bytesOf e≤M) && qcM P M d e
    | some (.pointer e)=>qcM P M d e
    | some (.struct fs)=>fs.toList.all fun f=>qcM P M d f.type
    | some (.array _ e)=>qcM P M d e
    | some (.map k e)=>decide (2*P.bytesOf e≤M) && decide (2*P.bytesOf k≤M) && qcM P M d e
    | _=>true
theorem qgC {x a b M:Nat} (h:x≤a*M) (k:a≤b):x≤b*M:=Nat.le_trans h (Nat.mul_le_mul_right M k)
theorem quH {x b M:Nat} (hM:1≤M) (h:x≤b):x≤b*M:=Nat.le_trans h (Nat.le_mul_of_pos_right b hM)
mutual
theorem wb (M:Nat) (hM:1≤M):∀(D:DataW H) (t:TypeId) (d:Nat),qcM P M d t=true→∀x∈DataW.weights P t D,x≤Rows.uptoBulk D*M
  | .lit l, t, d, hd, x, hx => by
    cases l with
    | string bytes=>simp only [DataW.weights,List.mem_singleton] at hx;subst hx;simp only [Rows.uptoBulk];exact quH hM (by omega)
    | _=>simp [DataW.weights] at hx
  | .nil,t,d,hd,x,hx=>by simp [DataW.weights] at hx
  | .ptr y,t,0,hd,x,hx=>by cases hd
  | .ptr y, t, d + 1, hd, x, hx => by
    simp only [DataW.weights] at hx
    simp only [qcM] at hd
    split at hx
    · rename_i e he
      rw [he] at hd
      have h0:=wb M hM y e d hd x hx;simp only [Rows.uptoBulk];exact qgC h0 (by omega)
    · simp at hx
  | .slice elems spare,t,0,hd,x,hx=>by cases hd
  | .slice elems spare, t, d + 1, hd, x, hx => by
    simp only [DataW.weights] at hx
    simp only [qcM] at hd
    simp only [Rows.uptoBulk]
    split at hx
    · rename_i e he
      rw [he] at hd
      simp only [Bool.and_eq_true,decide_eq_true_eq] at hd
      rcases List.mem_cons.1 hx with rfl | hx
      · have h1 := qtu elems
        have h2:=qtu spare
        exact Nat.mul_le_mul (show elems.length+spare.length≤Rows.uptoBulkAll elems+Rows.uptoBulkAll spare+1 by omega) (show P.bytesOf e≤M by omega)
      · rcases List.mem_append.1 hx with hx | hx
        · have h0:=qmO M hM elems e d hd.2 x hx;exact qgC h0 (by omega)
        · have h0:=qmO M hM spare e d hd.2 x hx;exact qgC h0 (by omega)
    · simp at hx
  | .agg parts,t,0,hd,x,hx=>by cases hd
  | .agg parts, t, d + 1, hd, x, hx => by
    simp only [DataW.weights] at hx
    simp only [qcM] at hd
    simp only [Rows.uptoBulk]
    split at hx
    · rename_i fs he
      rw [he] at hd
      have h0:=qn5 M hM parts (fs.toList.map (·.type)) d (by simpa [List.all_map] using hd) x hx;exact qgC h0 (by omega)
    · rename_i e he
      rw [he] at hd
      have h0:=qmO M hM parts e d hd x hx;exact qgC h0 (by omega)
    · simp at hx
  | .iface _ _,t,d,hd,x,hx=>by simp [DataW.weights] at hx
  | .map entries,t,0,hd,x,hx=>by cases hd
  | .map entries, t, d + 1, hd, x, hx => by
    simp only [DataW.weights] at hx
    simp only [qcM] at hd
    simp only [Rows.uptoBulk]
    split at hx
    · rename_i k e he
      rw [he] at hd
      simp only [Bool.and_eq_true,decide_eq_true_eq] at hd
      rcases List.mem_cons.1 hx with rfl | hx
      · have h1 := quI entries
        exact Nat.mul_le_mul (show entries.length≤Rows.uptoBulkEntries entries+1 by omega) (by omega)
      · have h0:=qmb M hM entries e d hd.2 x hx;exact qgC h0 (by omega)
    · simp at hx
  | .held _,t,d,hd,x,hx=>by simp [DataW.weights] at hx
theorem qmO (M:Nat) (hM:1≤M):∀(l:List (DataW H)) (e:TypeId) (d:Nat),qcM P M d e=true→∀x∈DataW.weightsAll P e l,x≤Rows.uptoBulkAll l*M
  | [],e,d,hd,x,hx=>by simp [DataW.weightsAll] at hx
  | y :: r, e, d, hd, x, hx => by
    simp only [DataW.weightsAll] at hx
    simp only [Rows.uptoBulkAll]
    rcases List.mem_append.1 hx with hx | hx
    · have h0:=wb M hM y e d hd x hx;exact qgC h0 (by omega)
    · have h0:=qmO M hM r e d hd x hx;exact qgC h0 (by omega)
theorem qn5 (M:Nat) (hM:1≤M):∀(l:List (DataW H)) (ts:List TypeId) (d:Nat),ts.all (qcM P M d)=true→∀x∈DataW.weightsEach P ts l,x≤Rows.uptoBulkAll l*M
  | [],ts,d,hd,x,hx=>by cases ts<;>simp [DataW.weightsEach] at hx
  | y::r,[],d,hd,x,hx=>by simp [DataW.weightsEach] at hx
  | y :: r, t :: ts, d, hd, x, hx => by
    simp only [DataW.weightsEach] at hx
    simp only [Rows.uptoBulkAll]
    rw [List.all_cons,Bool.and_eq_true] at hd
    rcases List.mem_append.1 hx with hx | hx
    · have h0:=wb M hM y t d hd.1 x hx;exact qgC h0 (by omega)
    · have h0:=qn5 M hM r ts d hd.2 x hx;exact qgC h0 (by omega)
theorem qmb (M:Nat) (hM:1≤M):∀(l:List (Lit×DataW H)) (e:TypeId) (d:Nat),qcM P M d e=true→∀x∈DataW.weightsEntries P e l,x≤Rows.uptoBulkEntries l*M
  | [],e,d,hd,x,hx=>by simp [DataW.weightsEntries] at hx
  | p :: r, e, d, hd, x, hx => by
    simp only [DataW.weightsEntries] at hx
    simp only [Rows.uptoBulkEntries]
    rcases List.mem_append.1 hx with hx | hx
    · have h0:=qvC M hM p e d hd x hx;exact qgC h0 (by omega)
    · have h0:=qmb M hM r e d hd x hx;exact qgC h0 (by omega)
theorem qvC (M:Nat) (hM:1≤M):∀(p:Lit×DataW H) (e:TypeId) (d:Nat),qcM P M d e=true→∀x∈DataW.weightsEntry P e p,x≤Rows.uptoBulkEntry p*M
  | (l, y), e, d, hd, x, hx => by
    cases l with
    | string bytes =>
      simp only [DataW.weightsEntry] at hx
      simp only [Rows.uptoBulkEntry]
      rcases List.mem_cons.1 hx with rfl | hx
      · exact quH hM (by omega)
      · have h0:=wb M hM y e d hd x hx;exact qgC h0 (by omega)
    | _ =>
      simp only [DataW.weightsEntry] at hx
      simp only [Rows.uptoBulkEntry]
      have h0:=wb M hM y e d hd x hx;exact qgC h0 (by omega)
theorem qtu:∀(l:List (DataW H)),l.length≤Rows.uptoBulkAll l
  | []=>by simp [Rows.uptoBulkAll]
  | d::r=>by have h1:=qB0 d;have h2:=qtu r;simp only [Rows.uptoBulkAll,List.length_cons];omega
theorem quI:∀(l:List (Lit×DataW H)),l.length≤Rows.uptoBulkEntries l
  | []=>by simp [Rows.uptoBulkEntries]
  | (k, d) :: r => by
    have h2:=quI r
    have h1:1≤Rows.uptoBulkEntry (k,d):=by cases k<;>simp [Rows.uptoBulkEntry]
    simp only [Rows.uptoBulkEntries,List.length_cons];omega
theorem qB0:∀(d:DataW H),1≤Rows.uptoBulk d
  | .lit l=>by cases l<;>simp [Rows.uptoBulk]
  | .nil=>by simp [Rows.uptoBulk]
  | .ptr d=>by simp [Rows.uptoBulk]
  | .slice _ _=>by simp [Rows.uptoBulk]
  | .agg _=>by simp [Rows.uptoBulk]
  | .iface _ _=>by simp [Rows.uptoBulk]
  | .map _=>by simp [Rows.uptoBulk]
  | .held _=>by simp [Rows.uptoBulk]
end
theorem qqD {ts:List TypeId} {l:List (DataW H)} (hb:ts.all (qcM P 8192 12)=true) (hk:Rows.uptoSmall H l=true):(DataW.weightsEach P ts l).all (· ≤8589934592)=true:=by
  have hk:Rows.uptoBulkAll l≤1048576:=of_decide_eq_true hk
  rw [List.all_eq_true]
  intro x hx
  exact decide_eq_true (Nat.le_trans (qn5 8192 (by decide) l ts 12 hb x hx) (Nat.le_trans (Nat.mul_le_mul_right 8192 hk) (by decide)))
theorem qii {R:Nat} {t:TypeId} {ts:List TypeId} {d:DataW H} {r:List (DataW H)} (h:(DataW.weightsEach P (t::ts) (d::r)).all (· ≤R)=true):(DataW.weights P t d).all (· ≤R)=true∧(DataW.weightsEach P ts r).all (· ≤R)=true:=by
  simp only [DataW.weightsEach,List.all_append,Bool.and_eq_true] at h
  exact h
end
end Go.Proofs.YtlnailgfialgnaaGreatDoor.Am

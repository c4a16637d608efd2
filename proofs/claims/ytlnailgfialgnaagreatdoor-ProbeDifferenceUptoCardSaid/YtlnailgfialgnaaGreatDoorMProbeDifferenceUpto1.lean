/- qi reckoning: rounds enough, and what rows of digits are worth. -/
import Derived.Test.YtlnailgfialgnaaGreatDoorMP2

set_option linter.unusedVariables false
set_option linter.unusedSimpArgs false
namespace Go.Proofs.YtlnailgfialgnaaGreatDoor.Am

def Rn {α:Type} (f:Nat→Option α) (r:α):Prop:=∃K,∀k,K≤k→f k=some r
def Rl {α:Type} (f:Nat→Nat→Option α) (r:α):Prop:=∃K,∀k n,K≤k→K≤n→f k n=some r
section
variable {α β γ : Type}
theorem Rn.pure (r:α):Rn (fun _=>some r) r:=⟨0,fun _ _=>rfl⟩
theorem Rn.eq {f:Nat→Option α} {r:α} (K:Nat) (h:∀k,K≤k→f k=some r):Rn f r:=⟨K,h⟩
theorem Rn.bind {f:Nat→Option α} {g:Nat→α→Option β} {x:α} {r:β} (h1:Rn f x) (h2:Rn (fun k=>g k x) r):Rn (fun k=>Option.bind (f k) (g k)) r:=by
 obtain⟨K1,h1⟩:=h1
 obtain⟨K2,h2⟩:=h2
 exact⟨max K1 K2,fun k hk=>by show Option.bind (f k) (g k)=_;rw [h1 k (by omega)];exact h2 k (by omega)⟩
theorem Rn.up {f:Nat→Option α} {r:α} (h:Rn (fun k=>f (k+1)) r):Rn f r:=by
 obtain⟨K,h⟩:=h
 refine⟨K+1,fun k hk=> ?_⟩
 obtain⟨j,rfl⟩:∃j,k=j+1:=⟨k-1,by omega⟩
 exact h j (by omega)
theorem Rn.const {e:Option α} {r:α} (h:e=some r):Rn (fun _=>e) r:=⟨0,fun _ _=>h⟩
theorem Rn.t {c:Prop} [Decidable c] {f g:Nat→Option α} {r:α} (h:c) (hf:Rn f r):Rn (fun k=>if c then f k else g k) r:=by
 simpa only [if_pos h] using hf
theorem Rn.f {c:Prop} [Decidable c] {f g:Nat→Option α} {r:α} (h:¬c) (hg:Rn g r):Rn (fun k=>if c then f k else g k) r:=by
 simpa only [if_neg h] using hg
theorem Rn.at {o:Option α} {g:Nat→α→Option β} {x:α} {r:β} (h:o=some x) (hg:Rn (fun k=>g k x) r):Rn (fun k=>Option.bind o (g k)) r:=by
 simpa only [h,Option.bind_some] using hg
theorem Rl.diag {f:Nat→Nat→Option α} {r:α} (h:Rl f r):Rn (fun k=>f k k) r:=by
 obtain⟨K,h⟩:=h
 exact⟨K,fun k hk=>h k k hk hk⟩
theorem Rl.pure (r:α):Rl (fun _ _=>some r) r:=⟨0,fun _ _ _ _=>rfl⟩
theorem Rl.bind {f:Nat→Option α} {g:Nat→Nat→α→Option β} {x:α} {r:β} (h1:Rn f x) (h2:Rl (fun k n=>g k n x) r):Rl (fun k n=>Option.bind (f k) (g k n)) r:=by
 obtain⟨K1,h1⟩:=h1
 obtain⟨K2,h2⟩:=h2
 exact⟨max K1 K2,fun k n hk hn=>by show Option.bind (f k) (g k n)=_;rw [h1 k (by omega)];exact h2 k n (by omega) (by omega)⟩
theorem Rl.up {f:Nat→Nat→Option α} {r:α} (h:Rl (fun k n=>f k (n+1)) r):Rl f r:=by
 obtain⟨K,h⟩:=h
 refine⟨K+1,fun k n hk hn=> ?_⟩
 obtain⟨j,rfl⟩:∃j,n=j+1:=⟨n-1,by omega⟩
 exact h k j (by omega) (by omega)
theorem Rl.of {f:Nat→Nat→Option α} {r:α} (K:Nat) (h:∀k n,K≤n→f k n=some r):Rl f r:=⟨K,fun k n _ hn=>h k n hn⟩
end

theorem qfH {x:Int} (h:0≤x∧x<4294967296):IntKind.u32.wrap x=x:=by rw [qeX];omega
theorem qbM {x:Int} (h:0≤x∧x<18446744073709551616):IntKind.u64.wrap x=x:=by rw [qgE];omega
theorem qpI {x:Int} (h:0≤x∧x<256):IntKind.u8.wrap x=x:=by rw [quQ];omega
theorem qcy (x:Int) {d:Int} (h:0≤d):x.fdiv d=x / d:=by
 rw [Int.fdiv_eq_ediv_of_nonneg _ h]
theorem qc6 {x d:Int} (h:0≤x):x.tdiv d=x / d:=Int.tdiv_eq_ediv_of_nonneg h
theorem qc7 {x d:Int} (h:0≤x):x.tmod d=x % d:=Int.tmod_eq_emod_of_nonneg h
theorem ps:
 (∀ {p:Prop} [inst:Decidable p],(Decidable.decide p=Bool.true)=p)∧
 (∀ {p:Prop} {x:Decidable p},Decidable.decide p=Bool.false↔¬p)∧
 (∀ {α:Type} [inst:BEq α] [LawfulBEq α] {a b:α},(a == b)=Bool.true↔a=b)∧
 (∀ {α:Type} [inst:BEq α] [LawfulBEq α] {a b:α},(a != b)=Bool.true↔a≠b)∧
 (∀ {α:Type} (a b:α),(a≠b)=¬a=b)∧
 (∀ {α:Type} [inst:LT α] {x y:α},x>y↔y<x)∧
 (∀ {α:Type} [inst:LE α] {x y:α},x≥y↔y≤x)∧
 (∀ {a b:Int},a≤b→(a≤b)=True)∧
 (∀ {a b:Int},¬a≤b→(a≤b)=False)∧
 (∀ {a b:Int},a<b→(a<b)=True)∧
 (∀ {a b:Int},¬a<b→(a<b)=False)∧
 (∀ {a b:Int},a=b→(a=b)=True)∧
 (∀ {a b:Int},¬a=b→(a=b)=False)∧
 (∀ {a b:Nat},a≤b→(a≤b)=True)∧
 (∀ {a b:Nat},¬a≤b→(a≤b)=False)∧
 (∀ {a b:Nat},a<b→(a<b)=True)∧
 (∀ {a b:Nat},¬a<b→(a<b)=False)∧
 ((¬True)=False)∧
 ((¬False)=True)∧
 (∀(p:Prop),(True∧p)=p)∧
 (∀(p:Prop),(p∧True)=p)∧
 (∀(p:Prop),(False∧p)=False)∧
 (∀(p:Prop),(p∧False)=False)∧
 (∀(p:Prop),(p∧p)=p)∧
 (∀(p:Prop),(p∨True)=True)∧
 (∀(p:Prop),(True∨p)=True)∧
 (∀(p:Prop),(p∨False)=p)∧
 (∀(p:Prop),(False∨p)=p)∧
 (∀ {α β:Type} (a:α) (f:α→Option β),(Option.some a).bind f=f a)∧
 (∀(n:Nat),(0:Nat)+n=n)∧
 (∀(n:Nat),n+(0:Nat)=n)∧
 (∀(n:Nat),n-(0:Nat)=n)∧
 (∀(n:Nat),(↑n:Int).toNat=n)∧
 (Int.toNat (0:Int)=(0:Nat))∧
 (∀ {x:Int},(-9223372036854775808:Int)≤x∧x≤(9223372036854775807:Int)→Go.IntKind.i64.wrap x=x)∧
 (∀ {x:Int},(0:Int)≤x∧x<(4294967296:Int)→Go.IntKind.u32.wrap x=x)∧
 (∀ {x:Int},(0:Int)≤x∧x<(18446744073709551616:Int)→Go.IntKind.u64.wrap x=x)∧
 (∀ {x:Int},(0:Int)≤x∧x<(256:Int)→Go.IntKind.u8.wrap x=x)∧
 (∀ {α:Type} {l:List α},List.take (0:Nat) l= [])∧
 (∀ {α:Type} (zs:List α),[]++zs=zs)∧
 (∀ {α:Type} [inst:BEq α] [ReflBEq α] (a:α),(a == a)=Bool.true)∧
 (∀ {α:Type} [inst:BEq α] [LawfulBEq α] (a:α),(a != a)=Bool.false)∧
 (∀ {α:Type} (a:α),(a=a)=True)∧
 ((Bool.false=Bool.true)=False)∧
 ((Bool.true=Bool.false)=False)∧
 (∀ {α:Type},([]:List α).length=(0:Nat))∧
 ((↑(0:Nat):Int)=(0:Int))∧
 ((!Bool.true)=Bool.false)∧
 ((!Bool.false)=Bool.true)∧
 (∀ {α β:Type} (f:α→Option β),Option.none.bind f=Option.none)∧
 (∀ {α:Type} [inst:BEq α] [LawfulBEq α] {a b:α},(a != b)=Bool.false↔a=b)∧
 (∀ {α:Type} [inst:BEq α] [LawfulBEq α] {a b:α},(a == b)=Bool.false↔a≠b)∧
 (∀(b:Bool),((!b)=Bool.true)=(b=Bool.false))∧
 (∀(b:Bool),((!b)=Bool.false)=(b=Bool.true)):=
 ⟨@decide_eq_true_eq,@decide_eq_false_iff_not,@beq_iff_eq.{0},@bne_iff_ne.{0},@ne_eq.{1},@gt_iff_lt.{0},@ge_iff_le.{0},@qzA,@qzB,@qzC,@qzD,@qzE,@qzF,@qzG,@qzH,@qzI,@qzJ,@not_true_eq_false,@not_false_eq_true,@true_and,@and_true,@false_and,@and_false,@and_self,@or_true,@true_or,@or_false,@false_or,@Option.bind_some.{0,0},@Nat.zero_add,@Nat.add_zero,@Nat.sub_zero,@Int.toNat_natCast,@Int.toNat_zero,@qf,@qfH,@qbM,@qpI,@List.take_zero.{0},@List.nil_append.{0},@beq_self_eq_true.{0},@bne_self_eq_false.{0},@eq_self.{1},@Bool.false_eq_true,@Bool.true_eq_false,@List.length_nil.{0},@Int.natCast_zero,@Bool.not_true,@Bool.not_false,@Option.bind_none.{0,0},@bne_eq_false_iff_eq.{0},@beq_eq_false_iff_ne.{0},@Bool.not_eq_true',@Bool.not_eq_false'⟩
theorem qna {x y:Int} (hx:0≤x∧x<4294967296) (hy:0≤y∧y<4294967296):
  ((BitVec.toNat ((BitVec.ofInt 64 (x*4294967296)) ||| (BitVec.ofInt 64 y)):Nat):Int)=x*4294967296+y:=by
 obtain⟨a,rfl⟩:=Int.eq_ofNat_of_zero_le hx.1
 obtain⟨b,rfl⟩:=Int.eq_ofNat_of_zero_le hy.1
 have h1:(BitVec.ofInt 64 ((a:Int)*4294967296)).toNat=a <<< 32:=by
  rw [BitVec.toNat_ofInt,Nat.shiftLeft_eq]
  have:((a:Int)*4294967296)=((a*2^32:Nat):Int):=by simp
  rw [this]
  have ha:a*2^32<2^64:=by omega
  omega
 have h2:(BitVec.ofInt 64 (b:Int)).toNat=b:=by
  rw [BitVec.toNat_ofInt]
  omega
 rw [BitVec.toNat_or,h1,h2,←Nat.shiftLeft_add_eq_or_of_lt (by omega:b<2^32),Nat.shiftLeft_eq]
 simp
theorem qoU {x:Int} (hx:0≤x∧x<18446744073709551616):((BitVec.toNat ((BitVec.ofInt 64 x) &&& (BitVec.ofInt 64 4294967295)):Nat):Int)=x % 4294967296:=by
 obtain⟨a,rfl⟩:=Int.eq_ofNat_of_zero_le hx.1
 have h1:(BitVec.ofInt 64 (a:Int)).toNat=a:=by rw [BitVec.toNat_ofInt];omega
 have h2:(BitVec.ofInt 64 (4294967295:Int)).toNat=2^32-1:=by decide
 rw [BitVec.toNat_and,h1,h2,Nat.and_two_pow_sub_one_eq_mod]
 omega

def V (B:Int):List Int→Int
 | []=>0
 | x::r=>x+B*V B r
def Dg (B:Int) (l:List Int):Prop:=∀x∈l,0≤x∧x<B
def tl:List Int→List Int
 | []=> []
 | x::r=>if x=0∧tl r= [] then [] else x::tl r
theorem qim (l:List Int) (x:Int):tl (l++ [x])=if x=0 then tl l else l++ [x]:=by
 induction l with
 | nil=>by_cases h:x=0<;>simp [tl,h]
 | cons y l ih=>
  simp only [List.cons_append,tl,ih]
  by_cases h:x=0
  ·simp [h]
  ·simp [h]
theorem qcw (l:List Int):(tl l).length≤l.length:=by
 induction l with
 | nil=>exact Nat.le_refl _
 | cons x r ih=>simp only [tl];split<;>simp;omega
theorem qgF (l:List Int):l.take (tl l).length=tl l:=by
 induction l with
 | nil=>rfl
 | cons x r ih=>
  simp only [tl]
  split
  ·rfl
  ·simp [ih]
theorem qzK (l:List Int):tl (tl l)=tl l:=by
 induction l with
 | nil=>rfl
 | cons x r ih=>
  simp only [tl]
  split
  ·rfl
  ·rename_i h
   simp only [tl,ih]
   rw [if_neg h]
section
variable {B : Int}
theorem qnb (l m:List Int):V B (l++m)=V B l+B^l.length*V B m:=by
 induction l with
 | nil=>simp [V]
 | cons x l ih=>
  simp only [List.cons_append,V,ih,List.length_cons,Int.pow_succ]
  rw [Int.mul_add,Int.add_assoc,Int.mul_comm (B^l.length) B,Int.mul_assoc]
theorem qg5 (l:List Int) (x:Int):V B (l++ [x])=V B l+B^l.length*x:=by rw [qnb];simp [V]
theorem Dg.nil:Dg B []:=fun x h=>by cases h
theorem Dg.cons {x:Int} {l:List Int} (h:0≤x∧x<B) (hl:Dg B l):Dg B (x::l):=fun y hy=>by
 rcases List.mem_cons.1 hy with rfl | hy
 ·exact h
 ·exact hl y hy
theorem Dg.tail {x:Int} {l:List Int} (h:Dg B (x::l)):Dg B l:=fun y hy=>h y (List.mem_cons_of_mem _ hy)
theorem Dg.head {x:Int} {l:List Int} (h:Dg B (x::l)):0≤x∧x<B:=h x (List.mem_cons_self ..)
theorem Dg.append {l m:List Int} (h1:Dg B l) (h2:Dg B m):Dg B (l++m):=fun y hy=>by
 rcases List.mem_append.1 hy with hy | hy
 ·exact h1 y hy
 ·exact h2 y hy
theorem Dg.snoc {x:Int} {l:List Int} (hl:Dg B l) (h:0≤x∧x<B):Dg B (l++ [x]):=hl.append (Dg.cons h Dg.nil)
theorem Dg.take {l:List Int} (h:Dg B l) (n:Nat):Dg B (l.take n):=fun y hy=>h y (List.mem_of_mem_take hy)
theorem Dg.drop {l:List Int} (h:Dg B l) (n:Nat):Dg B (l.drop n):=fun y hy=>h y (List.mem_of_mem_drop hy)
theorem Dg.get {l:List Int} (h:Dg B l) {i:Nat} {x:Int} (e:l[i]? =some x):0≤x∧x<B:=h x (List.mem_of_getElem? e)
theorem Dg.rep (n:Nat) (h:0<B):Dg B (List.replicate n 0):=fun y hy=>by
 rw [(List.mem_replicate.1 hy).2];omega
theorem Dg.set {l:List Int} (h:Dg B l) (i:Nat) {x:Int} (hx:0≤x∧x<B):Dg B (l.set i x):=fun y hy=>by
 rcases List.mem_or_eq_of_mem_set hy with hy | rfl
 ·exact h y hy
 ·exact hx
theorem Dg.tl {l:List Int} (h:Dg B l):Dg B (tl l):=by rw [←qgF];exact h.take _
theorem qr (hB:0≤B) {l:List Int} (h:Dg B l):0≤V B l:=by
 induction l with
 | nil=>exact Int.le_refl _
 | cons x l ih=>have:=Int.mul_nonneg hB (ih h.tail);have:=h.head;simp only [V];omega
theorem qeH (hB:0<B) {l:List Int} (h:Dg B l):V B l<B^l.length:=by
 induction l with
 | nil=>simp [V]
 | cons x l ih=>
  have h1:=ih h.tail
  have h2:=h.head
  have h3:B*(V B l+1)≤B*B^l.length:=Int.mul_le_mul_of_nonneg_left (by omega) (by omega)
  simp only [V,List.length_cons,Int.pow_succ]
  rw [Int.mul_add] at h3
  rw [Int.mul_comm (B^l.length) B]
  omega
theorem qmv (n:Nat):V B (List.replicate n 0)=0:=by
 induction n with
 | zero=>rfl
 | succ n ih=>simp [List.replicate_succ,V,ih]
theorem qhc (l:List Int):V B (tl l)=V B l:=by
 induction l with
 | nil=>rfl
 | cons x l ih=>
  simp only [tl]
  split
  ·rename_i h
   rw [h.2] at ih
   simp only [V] at ih ⊢
   rw [←ih,h.1];simp
  ·simp only [V,ih]
def Cn (B:Int) (l:List Int):Prop:=Dg B l∧tl l=l
theorem Cn.of {l:List Int} (h:Dg B l):Cn B (tl l):=⟨h.tl,qzK l⟩
theorem Cn.nil:Cn B []:=⟨Dg.nil,rfl⟩
theorem Cn.tail {x:Int} {l:List Int} (h:Cn B (x::l)):Cn B l:=by
 refine⟨h.1.tail,?_⟩
 have:=h.2
 simp only [tl] at this
 split at this
 ·cases this
 ·simpa using this
theorem Cn.pos {x:Int} {l:List Int} (hB:0<B) (h:Cn B (x::l)):0<V B (x::l):=by
 induction l generalizing x with
 | nil=>
  have h1:=h.1.head
  have h2:=h.2
  simp only [tl,and_true] at h2
  simp only [V,Int.mul_zero,Int.add_zero]
  split at h2
  ·cases h2
  ·omega
 | cons y l ih=>
  have:=ih h.tail
  have:=Int.mul_pos hB this
  have:=h.1.head
  rw [V]
  omega
theorem Cn.ext (hB:0<B):∀ {l m:List Int},Cn B l→Cn B m→V B l=V B m→l=m:=by
 intro l
 induction l with
 | nil=>
  intro m h1 h2 e
  cases m with
  | nil=>rfl
  | cons y m=>have:=h2.pos hB;rw [←e] at this;simp [V] at this
 | cons x l ih=>
  intro m h1 h2 e
  cases m with
  | nil=>have:=h1.pos hB;rw [e] at this;simp [V] at this
  | cons y m=>
   have hx:=h1.1.head
   have hy:=h2.1.head
   simp only [V] at e
   have e1:x=y:=by
    have a1:(x+B*V B l) % B=x:=by rw [Int.add_mul_emod_self_left];exact Int.emod_eq_of_lt hx.1 hx.2
    have a2:(y+B*V B m) % B=y:=by rw [Int.add_mul_emod_self_left];exact Int.emod_eq_of_lt hy.1 hy.2
    rw [←a1,←a2,e]
   subst e1
   have e2:B*V B l=B*V B m:=by omega
   have e3:=Int.eq_of_mul_eq_mul_left (by omega) e2
   rw [ih h1.tail h2.tail e3]
theorem Cn.nil_iff (hB:0<B) {l:List Int} (h:Cn B l):l= []↔V B l=0:=by
 constructor
 ·rintro rfl;rfl
 ·intro e;exact Cn.ext hB h Cn.nil e
theorem Cn.last {l:List Int} (h:Dg B l):tl l=l↔l= []∨∃m x,l=m++ [x]∧x≠0:=by
 rcases List.eq_nil_or_concat l with rfl | ⟨m,x,rfl⟩
 ·simp [tl]
 ·simp only [List.concat_eq_append,qim]
  constructor
  ·intro e
   refine .inr ⟨m,x,rfl,fun h0=> ?_⟩
   rw [if_pos h0] at e
   have:=qcw m
   rw [e] at this
   simp at this
   omega
  ·rintro(e | ⟨m',x',e,h0⟩)
   ·simp at e
   ·obtain⟨h1,h2⟩:=List.append_inj' e rfl
    simp only [List.cons.injEq,and_true] at h2
    rw [h2,if_neg h0]
theorem Cn.ge (hB:0<B) {l:List Int} (h:Cn B l) (h0:l≠ []):B^(l.length-1)≤V B l:=by
 rcases(Cn.last h.1).1 h.2 with e | ⟨m,x,rfl,hx⟩
 ·exact absurd e h0
 ·have h1:=h.1 x (by simp)
  have h2:Dg B m:=fun y hy=>h.1 y (by simp [hy])
  have h3:=qr (by omega) h2
  rw [qg5]
  have hp:0<B^m.length:=Int.pow_pos hB
  have h4:B^m.length*1≤B^m.length*x:=Int.mul_le_mul_of_nonneg_left (by omega) (by omega)
  simp only [List.length_append,List.length_cons,List.length_nil,Nat.zero_add,Nat.add_sub_cancel]
  omega
theorem qkl (hB:1≤B) {a b:Nat} (h:a≤b):B^a≤B^b:=by
 obtain⟨c,rfl⟩:=Nat.exists_eq_add_of_le h
 rw [Int.pow_add]
 have h1:0<B^a:=Int.pow_pos (by omega)
 have h2:(1:Int)≤B^c:=by have:0<B^c:=Int.pow_pos (by omega);omega
 have:=Int.mul_le_mul_of_nonneg_left h2 (Int.le_of_lt h1)
 omega
theorem Cn.len_lt (hB:1<B) {l m:List Int} (h1:Cn B l) (h2:Cn B m) (h:l.length<m.length):V B l<V B m:=by
 have a:=qeH (by omega) h1.1
 have b:=h2.ge (by omega) (by rintro rfl;simp at h)
 have c:=qkl (B:=B) (by omega) (show l.length≤m.length-1 by omega)
 omega
theorem Cn.len_le (hB:1<B) {l:List Int} (h:Cn B l) (n:Nat):l.length≤n↔V B l<B^n:=by
 constructor
 ·intro e
  have a:=qeH (by omega) h.1
  have c:=qkl (B:=B) (by omega) e
  omega
 ·intro e
  by_cases h0:l= []
  ·simp [h0]
  ·have b:=h.ge (by omega) h0
   refine Nat.le_of_not_lt fun hlt=> ?_
   have c:=qkl (B:=B) (by omega) (show n≤l.length-1 by omega)
   omega
theorem qdU {l:List Int} {i:Nat} {x:Int} (e:l[i]? =some x):V B (l.take (i+1))=V B (l.take i)+B^i*x:=by
 rw [List.take_add_one,e]
 have:(l.take i).length=i:=by rw [List.length_take];have:=(List.getElem?_eq_some_iff.1 e).1;omega
 simp only [Option.toList_some]
 rw [qg5,this]
theorem qff (l:List Int) (i:Nat) (h:i≤l.length):V B l=V B (l.take i)+B^i*V B (l.drop i):=by
 conv=>lhs;rw [←List.take_append_drop i l,qnb,List.length_take,Nat.min_eq_left h]
theorem qcb {l:List Int} {i:Nat} {x:Int} (e:l[i]? =some x):V B (l.drop i)=x+B*V B (l.drop (i+1)):=by
 obtain⟨h,rfl⟩:=List.getElem?_eq_some_iff.1 e
 rw [List.drop_eq_getElem_cons h]
 rfl
end
theorem qI {l:List Int} {i:Nat} (h:i<l.length):∃x,l[i]? =some x:=⟨l[i],List.getElem?_eq_getElem h⟩
theorem qml (l:List Int) (i:Nat) (x:Int) (h:i<l.length):(l.set i x).take (i+1)=l.take i++ [x]:=by
 rw [List.take_add_one,List.take_set_of_le (Nat.le_refl i),List.getElem?_set_self h]
 rfl

structure Nm (B:Int) (s:Bool) (l:List Int) (z:Int):Prop where
 c:Cn B l
 sg:s=true→l≠ []
 z:(if s then -(V B l)else V B l)=z
theorem Nm.cast {B:Int} {s:Bool} {l:List Int} {z z':Int} (h:Nm B s l z) (e:z=z'):Nm B s l z':=e▸h
theorem Nm.ext {B:Int} (hB:0<B) {s t:Bool} {l m:List Int} {z:Int} (h1:Nm B s l z) (h2:Nm B t m z):s=t∧l=m:=by
 have p1:=qr (B:=B) (by omega) h1.c.1
 have p2:=qr (B:=B) (by omega) h2.c.1
 have q1:=h1.c.nil_iff hB
 have q2:=h2.c.nil_iff hB
 have e1:=h1.z
 have e2:=h2.z
 have s1:=h1.sg
 have s2:=h2.sg
 cases s<;>cases t
 ·refine⟨rfl,Cn.ext hB h1.c h2.c ?_⟩
  simp at e1 e2;omega
 ·have:=s2 rfl
  simp at e1 e2
  exact absurd (q2.2 (by omega)) this
 ·have:=s1 rfl
  simp at e1 e2
  exact absurd (q1.2 (by omega)) this
 ·refine⟨rfl,Cn.ext hB h1.c h2.c ?_⟩
  simp at e1 e2;omega
theorem Nm.abs {B:Int} (hB:0<B) {s:Bool} {l:List Int} {z:Int} (h:Nm B s l z):V B l=z.natAbs:=by
 have p:=qr (B:=B) (by omega) h.c.1
 have:=h.z
 cases s<;>simp at this<;>omega
theorem Nm.neg {B:Int} (hB:0<B) {s:Bool} {l:List Int} {z:Int} (h:Nm B s l z):s=decide (z<0):=by
 have p:=qr (B:=B) (by omega) h.c.1
 have e:=h.z
 cases s
 ·simp at e
  rw [eq_comm,decide_eq_false_iff_not];omega
 ·have:=h.sg rfl
  have q:=mt (h.c.nil_iff hB).2 this
  simp at e
  rw [eq_comm,decide_eq_true_eq];omega
theorem Nm.of {B:Int} (hB:0<B) {l:List Int} (h:Cn B l) {z:Int} (e:V B l=z.natAbs):Nm B (decide (z<0)) l z:=by
 have p:=qr (B:=B) (by omega) h.1
 refine⟨h,fun hs h0=> ?_,?_⟩
 ·have:=(h.nil_iff hB).1 h0
  simp at hs;omega
 ·by_cases hz:z<0
  ·simp [hz];omega
  ·simp [hz];omega
end Go.Proofs.YtlnailgfialgnaaGreatDoor.Am
set_option maxRecDepth 10000
namespace Go.Proofs.YtlnailgfialgnaaGreatDoor.Am
open Go

abbrev W:Int:=4294967296
theorem qBW (i:Nat):(0:Int)<W^i:=Int.pow_pos (by decide)
theorem qrC (k:Nat) (w:List Int) (hl:w.length≤140737488355328):∀(i n:Nat),i≤w.length→i<n→qfJ k n w i=some (w,((tl (w.take i)).length:Int)):=by
 intro i
 induction i with
 | zero=>
  intro n hi hn
  obtain⟨n,rfl⟩:∃m,n=m+1:=⟨n-1,by omega⟩
  show qeZ k (qfJ k n) w _=_
  unfold qeZ
  simp -implicitDefEqProofs (maxSteps:=2000000) (disch:=omega) only [ps,↓reduceIte,reduceCtorEq,Int.reduceLT,Int.reduceLE,Int.reduceEq,Nat.reduceLT,Nat.reduceLeDiff,Nat.reduceEqDiff,Int.reduceNeg,qc]
  rfl
 | succ i ih=>
  intro n hi hn
  obtain⟨n,rfl⟩:∃m,n=m+1:=⟨n-1,by omega⟩
  show qeZ k (qfJ k n) w _=_
  unfold qeZ
  obtain⟨x,hx⟩:=qI (show i<w.length by omega)
  have h1:(((i+1:Nat):Int)-1)=(i:Int):=by omega
  have ht:w.take (i+1)=w.take i++ [x]:=by rw [List.take_add_one,hx];rfl
  simp -implicitDefEqProofs (maxSteps:=2000000) (disch:=omega) only [ps,↓reduceIte,reduceCtorEq,Int.reduceLT,Int.reduceLE,Int.reduceEq,Nat.reduceLT,Nat.reduceLeDiff,Nat.reduceEqDiff,Int.reduceNeg,qc,h1,hx]
  by_cases h:x=0
  ·simp -implicitDefEqProofs (maxSteps:=2000000) (disch:=omega) only [ps,↓reduceIte,reduceCtorEq,Int.reduceLT,Int.reduceLE,Int.reduceEq,Nat.reduceLT,Nat.reduceLeDiff,Nat.reduceEqDiff,Int.reduceNeg,qc,h]
   rw [ih n (by omega) (by omega),ht,qim,if_pos h]
  ·simp -implicitDefEqProofs (maxSteps:=2000000) (disch:=omega) only [ps,↓reduceIte,reduceCtorEq,Int.reduceLT,Int.reduceLE,Int.reduceEq,Nat.reduceLT,Nat.reduceLeDiff,Nat.reduceEqDiff,Int.reduceNeg,qc,h]
   rw [ht,qim,if_neg h]
   simp
   omega
theorem qir (w:List Int) (hl:w.length≤140737488355328):Rn (fun k=>qdM k w) (tl w):=by
 refine Rn.eq (w.length+2) fun k hk=> ?_
 obtain⟨k,rfl⟩:∃m,k=m+1:=⟨k-1,by omega⟩
 show qjo k w=_
 unfold qjo
 have:=qcw w
 rw [qrC k w hl w.length k (Nat.le_refl _) (by omega)]
 simp -implicitDefEqProofs (maxSteps:=2000000) (disch:=omega) only [ps,↓reduceIte,reduceCtorEq,Int.reduceLT,Int.reduceLE,Int.reduceEq,Nat.reduceLT,Nat.reduceLeDiff,Nat.reduceEqDiff,Int.reduceNeg,qc,List.take_length,qgF]

theorem qtb (k:Nat) (a b:List Int) (hl:a.length=b.length) (hla:a.length≤140737488355328) (ha:Dg W a) (hb:Dg W b):∀(i n:Nat),i≤a.length→i<n→V W (a.drop i)=V W (b.drop i)→
  ∃r,qej k n a b ((i:Int)-1)=some r∧(match r with | .inl c=>c | .inr _=>0)=(if V W a<V W b then -1 else if V W a=V W b then 0 else 1):=by
 intro i
 induction i with
 | zero=>
  intro n hi hn e
  obtain⟨n,rfl⟩:∃m,n=m+1:=⟨n-1,by omega⟩
  refine⟨.inr (),?_,?_⟩
  ·show qcP k (qej k n) a b _=_
   unfold qcP
   simp -implicitDefEqProofs (maxSteps:=2000000) (disch:=omega) only [ps,↓reduceIte,reduceCtorEq,Int.reduceLT,Int.reduceLE,Int.reduceEq,Nat.reduceLT,Nat.reduceLeDiff,Nat.reduceEqDiff,Int.reduceNeg,qc]
  ·simp only [List.drop_zero] at e
   simp [e]
 | succ i ih=>
  intro n hi hn e
  obtain⟨n,rfl⟩:∃m,n=m+1:=⟨n-1,by omega⟩
  obtain⟨x,hx⟩:=qI (show i<a.length by omega)
  obtain⟨y,hy⟩:=qI (show i<b.length by omega)
  have h1:(((i+1:Nat):Int)-1)=(i:Int):=by omega
  have hxb:=ha.get hx
  have hyb:=hb.get hy
  have sa:=qff (B:=W) a i (by omega)
  have sb:=qff (B:=W) b i (by omega)
  have la:V W (a.take i)<W^i:=by have:=qeH (B:=W) (by decide) (ha.take i);rwa [List.length_take,Nat.min_eq_left (by omega)] at this
  have lb:V W (b.take i)<W^i:=by have:=qeH (B:=W) (by decide) (hb.take i);rwa [List.length_take,Nat.min_eq_left (by omega)] at this
  have na:=qr (B:=W) (by decide) (ha.take i)
  have nb:=qr (B:=W) (by decide) (hb.take i)
  rw [qcb hx,e] at sa
  rw [qcb hy] at sb
  by_cases h:x=y
  ·subst h
   obtain⟨r,h2,h3⟩:=ih n (by omega) (by omega) (by rw [qcb hx,qcb hy,e])
   refine⟨r,?_,h3⟩
   show qcP k (qej k n) a b _=_
   unfold qcP
   simp -implicitDefEqProofs (maxSteps:=2000000) (disch:=omega) only [ps,↓reduceIte,reduceCtorEq,Int.reduceLT,Int.reduceLE,Int.reduceEq,Nat.reduceLT,Nat.reduceLeDiff,Nat.reduceEqDiff,Int.reduceNeg,qc,h1,hx,hy,h2]
  ·have hP:=qBW i
   by_cases h2:x<y
   ·have hlt:V W a<V W b:=by
     have:W^i*(x+1)≤W^i*y:=Int.mul_le_mul_of_nonneg_left (by omega) (by omega)
     rw [sa,sb]
     grind
    refine⟨.inl (-1),?_,by rw [if_pos hlt]⟩
    show qcP k (qej k n) a b _=_
    unfold qcP
    simp -implicitDefEqProofs (maxSteps:=2000000) (disch:=omega) only [ps,↓reduceIte,reduceCtorEq,Int.reduceLT,Int.reduceLE,Int.reduceEq,Nat.reduceLT,Nat.reduceLeDiff,Nat.reduceEqDiff,Int.reduceNeg,qc,h1,hx,hy,h,h2]
   ·have hlt:V W b<V W a:=by
     have:W^i*(y+1)≤W^i*x:=Int.mul_le_mul_of_nonneg_left (by omega) (by omega)
     rw [sa,sb]
     grind
    refine⟨.inl 1,?_,by rw [if_neg (by omega),if_neg (by omega)]⟩
    show qcP k (qej k n) a b _=_
    unfold qcP
    simp -implicitDefEqProofs (maxSteps:=2000000) (disch:=omega) only [ps,↓reduceIte,reduceCtorEq,Int.reduceLT,Int.reduceLE,Int.reduceEq,Nat.reduceLT,Nat.reduceLeDiff,Nat.reduceEqDiff,Int.reduceNeg,qc,h1,hx,hy,h,h2]
theorem qrD (a b:List Int) (hla:a.length≤140737488355328) (hlb:b.length≤140737488355328) (ha:Cn W a) (hb:Cn W b):Rn (fun k=>qiS k a b) (if V W a<V W b then -1 else if V W a=V W b then 0 else 1):=by
 refine Rn.eq (a.length+2) fun k hk=> ?_
 obtain⟨k,rfl⟩:∃m,k=m+1:=⟨k-1,by omega⟩
 show qks k a b=_
 unfold qks
 by_cases h:a.length=b.length
 ·obtain⟨r,h1,h2⟩:=qtb k a b h hla ha.1 hb.1 a.length k (Nat.le_refl _) (by omega) (by rw [List.drop_length,h,List.drop_length])
  simp -implicitDefEqProofs (maxSteps:=2000000) (disch:=omega) only [ps,↓reduceIte,reduceCtorEq,Int.reduceLT,Int.reduceLE,Int.reduceEq,Nat.reduceLT,Nat.reduceLeDiff,Nat.reduceEqDiff,Int.reduceNeg,qc,h1]
  rw [←h2]
  cases r<;>simp [qc]
 ·by_cases h2:a.length<b.length
  ·have:=Cn.len_lt (by decide) ha hb h2
   simp -implicitDefEqProofs (maxSteps:=2000000) (disch:=omega) only [ps,↓reduceIte,reduceCtorEq,Int.reduceLT,Int.reduceLE,Int.reduceEq,Nat.reduceLT,Nat.reduceLeDiff,Nat.reduceEqDiff,Int.reduceNeg,qc,h,h2]
  ·have:=Cn.len_lt (by decide) hb ha (by omega)
   simp -implicitDefEqProofs (maxSteps:=2000000) (disch:=omega) only [ps,↓reduceIte,reduceCtorEq,Int.reduceLT,Int.reduceLE,Int.reduceEq,Nat.reduceLT,Nat.reduceLeDiff,Nat.reduceEqDiff,Int.reduceNeg,qc,h,h2]


theorem Dg.ext:∀ {l m:List Int},Dg W l→Dg W m→l.length=m.length→V W l=V W m→l=m:=by
 intro l
 induction l with
 | nil=>intro m _ _ hl _;cases m with
  | nil=>rfl
  | cons y m=>simp at hl
 | cons x l ih=>
  intro m d1 d2 hl e
  cases m with
  | nil=>simp at hl
  | cons y m=>
   have hx:=d1.head
   have hy:=d2.head
   simp only [V] at e
   have a1:(x+W*V W l) % W=x:=by rw [Int.add_mul_emod_self_left];exact Int.emod_eq_of_lt hx.1 hx.2
   have a2:(y+W*V W m) % W=y:=by rw [Int.add_mul_emod_self_left];exact Int.emod_eq_of_lt hy.1 hy.2
   have e1:x=y:=by rw [←a1,←a2,e]
   subst e1
   have e2:W*V W l=W*V W m:=by omega
   have e3:V W l=V W m:=Int.eq_of_mul_eq_mul_left (by decide) e2
   rw [ih d1.tail d2.tail (by simpa using hl) e3]

def sgn (neg:Bool) (w:List Int):Bool:=if neg then decide (0<(tl w).length)else false
theorem qlg {neg:Bool} {w:List Int} {v:Int} (h:Dg W w) (e:V W w=v):Nm W (sgn neg w) (tl w) (if neg then -v else v):=by
 refine⟨Cn.of h,fun hs h0=> ?_,?_⟩
 ·unfold sgn at hs;split at hs
  ·rw [h0] at hs;simp at hs
  ·cases hs
 ·rw [qhc,e]
  unfold sgn
  cases neg
  ·simp
  ·by_cases h0:tl w= []
   ·have:=qhc (B:=W) w
    rw [h0,e] at this
    simp [h0,←this,V]
   ·have:0<(tl w).length:=by cases hq:tl w with
     | nil=>exact absurd hq h0
     | cons _ _=>simp
    simp [this]
theorem qjY (neg z:Bool) (w:List Int) (hl:w.length≤1000000001):Rn (fun k=>qbE k neg w z) (sgn neg w,tl w):=by
 refine Rn.up (f:=fun k=>qbE k neg w z) ?_
 show Rn (fun k=>qfX k neg w z) _
 unfold qfX
 refine Rn.bind (qir w (by omega)) ?_
 unfold sgn
 cases neg
 ·simp -implicitDefEqProofs (maxSteps:=2000000) (disch:=omega) only [ps,↓reduceIte,reduceCtorEq,Int.reduceLT,Int.reduceLE,Int.reduceEq,Nat.reduceLT,Nat.reduceLeDiff,Nat.reduceEqDiff,Int.reduceNeg,qc];exact Rn.pure _
 ·simp -implicitDefEqProofs (maxSteps:=2000000) (disch:=omega) only [ps,↓reduceIte,reduceCtorEq,Int.reduceLT,Int.reduceLE,Int.reduceEq,Nat.reduceLT,Nat.reduceLeDiff,Nat.reduceEqDiff,Int.reduceNeg,qc]
  have:(decide ((0:Int)<((tl w).length:Int)))=decide (0<(tl w).length):=by congr 1;simp
  rw [this];exact Rn.pure _
theorem qvd (neg z:Bool) (w zs:List Int) (hl:w.length≤1000000001):Rn (fun k=>qeh k neg w z zs) (sgn neg w,tl w):=by
 refine Rn.up (f:=fun k=>qeh k neg w z zs) ?_
 show Rn (fun k=>qfY k neg w z zs) _
 unfold qfY
 refine Rn.bind (qir w (by omega)) ?_
 unfold sgn
 cases neg
 ·simp -implicitDefEqProofs (maxSteps:=2000000) (disch:=omega) only [ps,↓reduceIte,reduceCtorEq,Int.reduceLT,Int.reduceLE,Int.reduceEq,Nat.reduceLT,Nat.reduceLeDiff,Nat.reduceEqDiff,Int.reduceNeg,qc];exact Rn.pure _
 ·simp -implicitDefEqProofs (maxSteps:=2000000) (disch:=omega) only [ps,↓reduceIte,reduceCtorEq,Int.reduceLT,Int.reduceLE,Int.reduceEq,Nat.reduceLT,Nat.reduceLeDiff,Nat.reduceEqDiff,Int.reduceNeg,qc]
  have:(decide ((0:Int)<((tl w).length:Int)))=decide (0<(tl w).length):=by congr 1;simp
  rw [this];exact Rn.pure _


def qfa (x y:Int):Int:=if x<y then -1 else if x=y then 0 else 1
theorem qfn (x y:Int):∃c,qfa x y=c∧(c= -1∧x<y∨c=0∧x=y∨c=1∧y<x):=by
 unfold qfa
 rcases Int.lt_trichotomy x y with h | h | h
 ·exact⟨-1,by rw [if_pos h],.inl ⟨rfl,h⟩⟩
 ·exact⟨0,by rw [if_neg (by omega),if_pos h],.inr (.inl ⟨rfl,h⟩)⟩
 ·exact⟨1,by rw [if_neg (by omega),if_neg (by omega)],.inr (.inr ⟨rfl,h⟩)⟩
theorem qzr (x0 y0:Bool) (x1 y1:List Int) {x y:Int} (nx:Nm W x0 x1 x) (ny:Nm W y0 y1 y) (hx:x1.length≤1000000000) (hy:y1.length≤1000000000):
  Rn (fun k=>qek k x0 x1 y0 y1) (qfa x y,x0,x1,y0,y1):=by
 refine Rn.up (f:=fun k=>qek k x0 x1 y0 y1) ?_
 show Rn (fun k=>qf1 k x0 x1 y0 y1) _
 unfold qf1
 have px:=qr (B:=W) (by decide) nx.c.1
 have py:=qr (B:=W) (by decide) ny.c.1
 have qx:=nx.c.nil_iff (B:=W) (by decide)
 have qy:=ny.c.nil_iff (B:=W) (by decide)
 have zx:=nx.z
 have zy:=ny.z
 have sx:=nx.sg
 have sy:=ny.sg
 have hc:=qrD x1 y1 (by omega) (by omega) nx.c ny.c
 unfold qfa
 cases x0<;>cases y0<;>simp only [Bool.false_eq_true,if_false,if_true] at zx zy
 ·simp -implicitDefEqProofs (maxSteps:=2000000) (disch:=omega) only [ps,↓reduceIte,reduceCtorEq,Int.reduceLT,Int.reduceLE,Int.reduceEq,Nat.reduceLT,Nat.reduceLeDiff,Nat.reduceEqDiff,Int.reduceNeg,qc]
  refine Rn.bind hc ?_
  rw [zx,zy];exact Rn.pure _
 ·have:=mt qy.2 (sy rfl)
  simp -implicitDefEqProofs (maxSteps:=2000000) (disch:=omega) only [ps,↓reduceIte,reduceCtorEq,Int.reduceLT,Int.reduceLE,Int.reduceEq,Nat.reduceLT,Nat.reduceLeDiff,Nat.reduceEqDiff,Int.reduceNeg,qc]
  exact Rn.pure _
 ·have:=mt qx.2 (sx rfl)
  simp -implicitDefEqProofs (maxSteps:=2000000) (disch:=omega) only [ps,↓reduceIte,reduceCtorEq,Int.reduceLT,Int.reduceLE,Int.reduceEq,Nat.reduceLT,Nat.reduceLeDiff,Nat.reduceEqDiff,Int.reduceNeg,qc]
  exact Rn.pure _
 ·simp -implicitDefEqProofs (maxSteps:=2000000) (disch:=omega) only [ps,↓reduceIte,reduceCtorEq,Int.reduceLT,Int.reduceLE,Int.reduceEq,Nat.reduceLT,Nat.reduceLeDiff,Nat.reduceEqDiff,Int.reduceNeg,qc]
  refine Rn.bind hc ?_
  have:IntKind.i64.wrap (0-(if V W x1<V W y1 then -1 else if V W x1=V W y1 then 0 else 1))=(if x<y then -1 else if x=y then 0 else 1):=by
   by_cases a:V W x1<V W y1
   ·simp -implicitDefEqProofs (maxSteps:=2000000) (disch:=omega) only [ps,↓reduceIte,reduceCtorEq,Int.reduceLT,Int.reduceLE,Int.reduceEq,Nat.reduceLT,Nat.reduceLeDiff,Nat.reduceEqDiff,Int.reduceNeg,qc]
   ·by_cases b:V W x1=V W y1
    ·simp -implicitDefEqProofs (maxSteps:=2000000) (disch:=omega) only [ps,↓reduceIte,reduceCtorEq,Int.reduceLT,Int.reduceLE,Int.reduceEq,Nat.reduceLT,Nat.reduceLeDiff,Nat.reduceEqDiff,Int.reduceNeg,qc]
    ·simp -implicitDefEqProofs (maxSteps:=2000000) (disch:=omega) only [ps,↓reduceIte,reduceCtorEq,Int.reduceLT,Int.reduceLE,Int.reduceEq,Nat.reduceLT,Nat.reduceLeDiff,Nat.reduceEqDiff,Int.reduceNeg,qc]
  rw [this];exact Rn.pure _

def Ri (a0:Bool) (a1:List Int):Prop:=a1.length≤72∧tl a1=a1∧(a0=true→a1≠ [])
instance (a0:Bool) (a1:List Int):Decidable (Ri a0 a1):=by unfold Ri;infer_instance
def Zv (B:Int) (a0:Bool) (a1:List Int):Int:=if a0 then -(V B a1)else V B a1
theorem Ri.nm {a0:Bool} {a1:List Int} (h:Ri a0 a1) (hd:Dg W a1):Nm W a0 a1 (Zv W a0 a1):=⟨⟨hd,h.2.1⟩,h.2.2,rfl⟩
theorem Nm.ri {a0:Bool} {a1:List Int} {z:Int} (h:Nm W a0 a1 z) (hl:a1.length≤72):Ri a0 a1:=⟨hl,h.c.2,h.sg⟩
theorem qA3 (neg:Bool) (w:List Int) (hl:w.length≤1000000000):Rn (fun k=>qip k neg w) (sgn neg w,tl w):=by
 refine Rn.up (f:=fun k=>qip k neg w) ?_
 show Rn (fun k=>qlH k neg w) _
 unfold qlH
 simp -implicitDefEqProofs (maxSteps:=2000000) (disch:=omega) only [ps,↓reduceIte,reduceCtorEq,Int.reduceLT,Int.reduceLE,Int.reduceEq,Nat.reduceLT,Nat.reduceLeDiff,Nat.reduceEqDiff,Int.reduceNeg,qc,List.take_length]
 refine Rn.bind (qir w (by omega)) ?_
 unfold sgn
 cases neg
 ·simp -implicitDefEqProofs (maxSteps:=2000000) (disch:=omega) only [ps,↓reduceIte,reduceCtorEq,Int.reduceLT,Int.reduceLE,Int.reduceEq,Nat.reduceLT,Nat.reduceLeDiff,Nat.reduceEqDiff,Int.reduceNeg,qc];exact Rn.pure _
 ·simp -implicitDefEqProofs (maxSteps:=2000000) (disch:=omega) only [ps,↓reduceIte,reduceCtorEq,Int.reduceLT,Int.reduceLE,Int.reduceEq,Nat.reduceLT,Nat.reduceLeDiff,Nat.reduceEqDiff,Int.reduceNeg,qc]
  have:(decide ((0:Int)<((tl w).length:Int)))=decide (0<(tl w).length):=by congr 1;simp
  rw [this];exact Rn.pure _

theorem qhZ {B:Int}:∀ {l:List Int} {p:Nat} {o:Int} (v:Int),l[p]? =some o→V B (l.set p v)=V B l+B^p*(v-o):=by
 intro l
 induction l with
 | nil=>intro p o v h;simp at h
 | cons x l ih=>
  intro p o v h
  cases p with
  | zero=>simp at h;subst h;simp [V];omega
  | succ p=>
   simp only [List.getElem?_cons_succ] at h
   simp only [List.set_cons_succ,V,ih v h,Int.pow_succ]
   grind
theorem qnL {x y:Int} (hx:0≤x∧x<4294967296) (hy:0≤y∧y<4294967296):0≤x*y∧x*y≤18446744065119617025:=by
 refine⟨Int.mul_nonneg hx.1 hy.1,?_⟩
 have h1:x*y≤4294967295*y:=Int.mul_le_mul_of_nonneg_right (by omega) hy.1
 omega

theorem qrE (k:Nat) (x y1 x11:List Int) (x1 x2:Int) (z x0 y0:Bool) (hy:Dg W y1) (i:Nat) (a:Int) (ha:0≤a∧a<W) (n12:Nat) (hn12:n12≤2000000000) (hi:i+y1.length<n12):
  ∀(d j n:Nat) (carry:Int) (outs:List Int),j+d=y1.length→d<n→0≤carry∧carry<W→outs.length=n12→Dg W outs→
  ∃carry' outs',qac k n n12 i a carry x x1 x2 y1 y1.length j z x0 x11 y0 y1 outs=some (n12,(i:Int),carry',x,x1,x2,z,x0,x11,y0,y1,outs')∧(0≤carry'∧carry'<W)∧outs'.length=n12∧Dg W outs'∧
   V W outs'+carry'*W^(i+y1.length)=V W outs+carry*W^(i+j)+a*W^(i+j)*V W (y1.drop j)∧∀p,i+y1.length≤p→outs'[p]? =outs[p]? :=by
 intro d
 induction d with
 | zero=>
  intro j n carry outs hj hn hc hl hd
  obtain⟨n,rfl⟩:∃m,n=m+1:=⟨n-1,by omega⟩
  have:j=y1.length:=by omega
  subst this
  refine⟨carry,outs,?_,hc,hl,hd,?_,fun p _=>rfl⟩
  ·show qah k (qac k n) _ _ _ _ _ _ _ _ _ _ _ _ _ _ _ _=_
   unfold qah
   simp -implicitDefEqProofs (maxSteps:=2000000) (disch:=omega) only [ps,↓reduceIte,reduceCtorEq,Int.reduceLT,Int.reduceLE,Int.reduceEq,Nat.reduceLT,Nat.reduceLeDiff,Nat.reduceEqDiff,Int.reduceNeg,qc]
  ·rw [List.drop_length];simp [V]
 | succ d ih=>
  intro j n carry outs hj hn hc hl hd
  obtain⟨n,rfl⟩:∃m,n=m+1:=⟨n-1,by omega⟩
  obtain⟨b,hb⟩:=qI (show j<y1.length by omega)
  obtain⟨o,ho⟩:=qI (show i+j<outs.length by omega)
  have hbb:=hy.get hb
  have hob:=hd.get ho
  have h1:((j:Int)+1)=((j+1:Nat):Int):=rfl
  have h2:((i:Int)+(j:Int))=((i+j:Nat):Int):=rfl
  unfold W at ha hbb hob hc
  have hm:=qnL ha hbb
  have hdm:=Int.emod_add_mul_ediv (a*b+o+carry) W
  obtain⟨c',o',q1,q2,q3,q4,q5,q6⟩:=ih (j+1) n ((a*b+o+carry) / W) (outs.set (i+j) ((a*b+o+carry) % W)) (by omega) (by omega) (by unfold W;omega) (by simpa using hl) (hd.set _ (by unfold W;omega))
  refine⟨c',o',?_,q2,q3,q4,?_,fun p hp=> ?_⟩
  ·rw [←q1]
   show qah k (qac k n) _ _ _ _ _ _ _ _ _ _ _ _ _ _ _ _=_
   unfold qah
   simp -implicitDefEqProofs (maxSteps:=2000000) (disch:=omega) only [ps,↓reduceIte,reduceCtorEq,Int.reduceLT,Int.reduceLE,Int.reduceEq,Nat.reduceLT,Nat.reduceLeDiff,Nat.reduceEqDiff,Int.reduceNeg,qc,hb,h1,h2,ho,qcy,qeX]
  ·rw [q5,qhZ _ ho,qcb hb,←Nat.add_assoc,Int.pow_succ]
   grind
  ·rw [q6 p hp,List.getElem?_set_ne (by omega)]
theorem qlZ (k:Nat) (x1 y1:List Int) (z x0 y0:Bool) (hx:Dg W x1) (hy:Dg W y1) (hlx:x1.length≤1000000000) (hly:y1.length≤1000000000) (hk:y1.length<k):
  ∀(d i n:Nat) (outs:List Int),i+d=x1.length→d<n→outs.length=x1.length+y1.length→Dg W outs→V W outs=V W (x1.take i)*V W y1→(∀p,i+y1.length≤p→p<outs.length→outs[p]? =some 0)→
  ∃outs',qQ k n (x1.length+y1.length) x1 x1.length i z x0 x1 y0 y1 outs=some (x1.length+y1.length,z,x0,x1,y0,y1,outs')∧outs'.length=x1.length+y1.length∧Dg W outs'∧V W outs'=V W x1*V W y1:=by
 intro d
 induction d with
 | zero=>
  intro i n outs hi hn hl hd e h0
  obtain⟨n,rfl⟩:∃m,n=m+1:=⟨n-1,by omega⟩
  have:i=x1.length:=by omega
  subst this
  refine⟨outs,?_,hl,hd,by rw [e,List.take_length]⟩
  show qai k (qQ k n) _ _ _ _ _ _ _ _ _ _=_
  unfold qai
  simp -implicitDefEqProofs (maxSteps:=2000000) (disch:=omega) only [ps,↓reduceIte,reduceCtorEq,Int.reduceLT,Int.reduceLE,Int.reduceEq,Nat.reduceLT,Nat.reduceLeDiff,Nat.reduceEqDiff,Int.reduceNeg,qc]
 | succ d ih=>
  intro i n outs hi hn hl hd e h0
  obtain⟨n,rfl⟩:∃m,n=m+1:=⟨n-1,by omega⟩
  obtain⟨a,ha⟩:=qI (show i<x1.length by omega)
  have hab:=hx.get ha
  obtain⟨c',o',q1,q2,q3,q4,q5,q6⟩:=qrE k x1 y1 x1 x1.length i z x0 y0 hy i a hab (x1.length+y1.length) (by omega) (by omega) y1.length 0 k 0 outs (by omega) (by omega) (by decide) hl hd
  have hz:o'[i+y1.length]? =some 0:=by rw [q6 _ (Nat.le_refl _)];exact h0 _ (Nat.le_refl _) (by omega)
  have h1:((i:Int)+1)=((i+1:Nat):Int):=rfl
  have h2:((i:Int)+(y1.length:Int))=((i+y1.length:Nat):Int):=rfl
  have e2:V W (o'.set (i+y1.length) c')=V W (x1.take (i+1))*V W y1:=by
   rw [qhZ _ hz,qdU ha,Int.sub_zero]
   simp only [Nat.add_zero,List.drop_zero,Int.zero_mul,Int.add_zero] at q5
   rw [e] at q5
   rw [Int.add_mul,Int.mul_comm (W^i) a,←q5,Int.mul_comm c']
  have e3:∀p,(i+1)+y1.length≤p→p<(o'.set (i+y1.length) c').length→(o'.set (i+y1.length) c')[p]? =some 0:=by
   intro p hp hpl
   rw [List.getElem?_set_ne (by omega),q6 p (by omega)]
   exact h0 p (by omega) (by simp at hpl;omega)
  obtain⟨o2,r1,r2⟩:=ih (i+1) n (o'.set (i+y1.length) c') (by omega) (by omega) (by simpa using q3) (q4.set _ q2) e2 e3
  refine⟨o2,?_,r2⟩
  rw [←r1]
  show qai k (qQ k n) _ _ _ _ _ _ _ _ _ _=_
  unfold qai
  have q1':qac k k (x1.length+y1.length) i a 0 x1 x1.length i y1 y1.length 0 z x0 x1 y0 y1 outs=_:=q1
  unfold W at q2
  simp -implicitDefEqProofs (maxSteps:=2000000) (disch:=omega) only [ps,↓reduceIte,reduceCtorEq,Int.reduceLT,Int.reduceLE,Int.reduceEq,Nat.reduceLT,Nat.reduceLeDiff,Nat.reduceEqDiff,Int.reduceNeg,qc,ha,q1',h1,h2,hz]
theorem qve (z x0 y0:Bool) (x1 y1:List Int) {x y:Int} (nx:Nm W x0 x1 x) (ny:Nm W y0 y1 y) (hx:x1.length≤1000000) (hy:y1.length≤1000000):
  ∃s l,Rn (fun k=>qeg k z x0 x1 y0 y1) (s,l,x0,x1,y0,y1)∧Nm W s l (x*y)∧l.length≤x1.length+y1.length:=by
 have hW:(0:Int)<W:=by decide
 have main:∀k,x1.length+y1.length<k→∃outs',qQ k k (x1.length+y1.length) x1 x1.length (0:Int) z x0 x1 y0 y1 (List.replicate (x1.length+y1.length) 0)=some (x1.length+y1.length,z,x0,x1,y0,y1,outs')∧outs'.length=x1.length+y1.length∧Dg W outs'∧V W outs'=V W x1*V W y1:=by
  intro k hk
  refine qlZ k x1 y1 z x0 y0 nx.c.1 ny.c.1 (by omega) (by omega) (by omega) x1.length 0 k _ (by omega) (by omega) (by simp) (Dg.rep _ hW) (by rw [qmv];simp [V]) ?_
  intro p _ hp
  rw [List.getElem?_replicate_of_lt (by simpa using hp)]
 obtain⟨o,q1,q2,q3,q4⟩:=main (x1.length+y1.length+1) (by omega)
 refine⟨sgn (!(x0 == y0)) o,tl o,?_,?_,by have:=qcw o;omega⟩
 ·obtain⟨K,hK⟩:=qjY (!(x0 == y0)) z o (by omega)
  refine Rn.up (f:=fun k=>qeg k z x0 x1 y0 y1) (Rn.eq (max K (x1.length+y1.length+1)) fun k hk=> ?_)
  show qdt k z x0 x1 y0 y1=_
  unfold qdt
  obtain⟨o',r1,r2,r3,r4⟩:=main k (by omega)
  have ho:o'=o:=Dg.ext r3 q3 (by omega) (by omega)
  subst ho
  have h2:((x1.length:Int)+(y1.length:Int))=((x1.length+y1.length:Nat):Int):=rfl
  have hs:=hK k (by omega)
  have ht:List.take (x1.length+y1.length) o'=o':=List.take_of_length_le (by omega)
  simp -implicitDefEqProofs (maxSteps:=2000000) (disch:=omega) only [ps,↓reduceIte,reduceCtorEq,Int.reduceLT,Int.reduceLE,Int.reduceEq,Nat.reduceLT,Nat.reduceLeDiff,Nat.reduceEqDiff,Int.reduceNeg,qc,h2,r1,r2,ht,hs]
 ·refine(qlg (neg:= !(x0 == y0)) q3 q4).cast ?_
  rw [←nx.z,←ny.z]
  cases x0<;>cases y0<;>simp [Int.neg_mul,Int.mul_neg]

section
variable {α β γ : Type}
theorem qnM {c:Prop} [Decidable c] (f:α→β) (a b:Option α):Option.map f (if c then a else b)=if c then Option.map f a else Option.map f b:=by split<;>rfl
theorem qnN (f:β→γ) (o:Option α) (g:α→Option β):Option.map f (Option.bind o g)=Option.bind o fun x=>Option.map f (g x):=by cases o<;>rfl
theorem qqe (f:α→β) (o:Option α) (g:β→Option γ):Option.bind (Option.map f o) g=Option.bind o fun x=>g (f x):=by cases o<;>rfl
theorem Rn.map {f:Nat→Option α} {r:α} (h:Rn f r) (g:α→β):Rn (fun k=>Option.map g (f k)) (g r):=by
 obtain⟨K,h⟩:=h
 exact⟨K,fun k hk=>by show Option.map g (f k)=_;rw [h k hk];rfl⟩
theorem Rn.congr {f g:Nat→Option α} {r:α} (h:∀k,f k=g k) (hg:Rn g r):Rn f r:=by
 obtain⟨K,hg⟩:=hg
 exact⟨K,fun k hk=>by rw [h k];exact hg k hk⟩
end
abbrev T12:=Nat×Int×Int×List Int×Int×Int×Bool×Bool×List Int×Bool×List Int×List Int
abbrev T7:=Nat×Bool×Bool×List Int×Bool×List Int×List Int
abbrev T6:=Bool×List Int×Bool×List Int×Bool×List Int

/- Both words in one block with another: the first factor. -/
def uo2 (a:Bool) (b:List Int) (r:T12):Nat×Int×Int×List Int×Int×Int×Bool×Bool×List Int×Bool×List Int×Bool×List Int×List Int:=
 (r.1,r.2.1,r.2.2.1,r.2.2.2.1,r.2.2.2.2.1,r.2.2.2.2.2.1,r.2.2.2.2.2.2.1,r.2.2.2.2.2.2.2.1,r.2.2.2.2.2.2.2.2.1,a,b,r.2.2.2.2.2.2.2.2.2)
theorem quB (k:Nat):∀(n o:Nat) (i a c:Int) (x:List Int) (x1 x2:Int) (x3:List Int) (x4 x5:Int) (z x0:Bool) (x11:List Int) (p:Bool) (q:List Int) (y0:Bool) (y1 outs:List Int),
  qdP k n o i a c x x1 x2 x3 x4 x5 z x0 x11 p q y0 y1 outs=Option.map (uo2 p q) (qac k n o i a c x x1 x2 x3 x4 x5 z x0 x11 y0 y1 outs)
 | 0=>fun o i a c x x1 x2 x3 x4 x5 z x0 x11 p q y0 y1 outs=>rfl
 | n+1=>fun o i a c x x1 x2 x3 x4 x5 z x0 x11 p q y0 y1 outs=>by
  show qeN k (qdP k n) _ _ _ _ _ _ _ _ _ _ _ _ _ _ _ _ _ _=Option.map (uo2 p q) (qah k (qac k n) _ _ _ _ _ _ _ _ _ _ _ _ _ _ _ _)
  unfold qeN qah
  simp only [qnM,qnN,Option.map_some,Option.map_none,quB k n,uo2]
def uo0 (a:Bool) (b:List Int) (r:T7):Nat×Bool×Bool×List Int×Bool×List Int×Bool×List Int×List Int:=
 (r.1,r.2.1,r.2.2.1,r.2.2.2.1,a,b,r.2.2.2.2)
theorem quC (k:Nat):∀(n o:Nat) (x:List Int) (x1 x2:Int) (z x0:Bool) (x11:List Int) (p:Bool) (q:List Int) (y0:Bool) (y1 outs:List Int),
  qdQ k n o x x1 x2 z x0 x11 p q y0 y1 outs=Option.map (uo0 p q) (qQ k n o x x1 x2 z x0 x11 y0 y1 outs)
 | 0=>fun o x x1 x2 z x0 x11 p q y0 y1 outs=>rfl
 | n+1=>fun o x x1 x2 z x0 x11 p q y0 y1 outs=>by
  show qeO k (qdQ k n) _ _ _ _ _ _ _ _ _ _ _ _=Option.map (uo0 p q) (qai k (qQ k n) _ _ _ _ _ _ _ _ _ _)
  unfold qeO qai
  simp only [qnM,qnN,qqe,Option.map_some,Option.map_none,quB k k,quC k n,uo2,uo0]
  rfl
theorem qA4 (k:Nat) (z x0:Bool) (x1:List Int) (p:Bool) (q:List Int) (y0:Bool) (y1:List Int):
  qdv k z x0 x1 p q y0 y1=Option.map (fun r:T6=>(r.1,r.2.1,r.2.2.1,r.2.2.2.1,p,q,r.2.2.2.2)) (qeg k z x0 x1 y0 y1):=by
 cases k with
 | zero=>rfl
 | succ k=>
  show qf0 k z x0 x1 p q y0 y1=Option.map _ (qdt k z x0 x1 y0 y1)
  unfold qf0 qdt
  simp only [qnM,qnN,qqe,Option.map_some,Option.map_none,quC k k,uo0]
  rfl
theorem qo3 (z x0 y0 p:Bool) (x1 y1 q:List Int) {x y:Int} (nx:Nm W x0 x1 x) (ny:Nm W y0 y1 y) (hx:x1.length≤1000000) (hy:y1.length≤1000000):
  ∃s l,Rn (fun k=>qdv k z x0 x1 p q y0 y1) (s,l,x0,x1,p,q,y0,y1)∧Nm W s l (x*y)∧l.length≤x1.length+y1.length:=by
 obtain⟨s,l,h1,h2,h3⟩:=qve z x0 y0 x1 y1 nx ny hx hy
 exact⟨s,l,Rn.congr (fun k=>qA4 k z x0 x1 p q y0 y1) (h1.map _),h2,h3⟩

/- Both factors in blocks with another. -/
/- The second factor in a block with another. -/
/- The product laid where the first factor lay. -/
def jo2 (r:T12):Nat×Int×Int×List Int×Int×Int×Bool×List Int×Bool×List Int×List Int:=
 (r.1,r.2.1,r.2.2.1,r.2.2.2.1,r.2.2.2.2.1,r.2.2.2.2.2.1,r.2.2.2.2.2.2.2)
theorem quD (k:Nat):∀(n o:Nat) (i a c:Int) (x:List Int) (x1 x2:Int) (x3:List Int) (x4 x5:Int) (z x0:Bool) (x11:List Int) (y0:Bool) (y1 outs:List Int),
  qdN k n o i a c x x1 x2 x3 x4 x5 x0 x11 y0 y1 outs=Option.map jo2 (qac k n o i a c x x1 x2 x3 x4 x5 z x0 x11 y0 y1 outs)
 | 0=>fun o i a c x x1 x2 x3 x4 x5 z x0 x11 y0 y1 outs=>rfl
 | n+1=>fun o i a c x x1 x2 x3 x4 x5 z x0 x11 y0 y1 outs=>by
  show qeK k (qdN k n) _ _ _ _ _ _ _ _ _ _ _ _ _ _ _=Option.map jo2 (qah k (qac k n) _ _ _ _ _ _ _ _ _ _ _ _ _ _ _ _)
  unfold qeK qah
  simp only [qnM,qnN,Option.map_some,Option.map_none,fun o i a c x x1 x2 x3 x4 x5 x0 x11 y0 y1 outs=>quD k n o i a c x x1 x2 x3 x4 x5 z x0 x11 y0 y1 outs,jo2]
def jo0 (r:T7):Nat×Bool×List Int×Bool×List Int×List Int:=(r.1,r.2.2)
theorem quE (k:Nat):∀(n o:Nat) (x:List Int) (x1 x2:Int) (z x0:Bool) (x11:List Int) (y0:Bool) (y1 outs:List Int),
  Option.map jo0 (qQ k n o x x1 x2 z x0 x11 y0 y1 outs)=qcT k n o x x1 x2 x0 x11 y0 y1 outs
 | 0=>fun o x x1 x2 z x0 x11 y0 y1 outs=>rfl
 | n+1=>fun o x x1 x2 z x0 x11 y0 y1 outs=>by
  show Option.map jo0 (qai k (qQ k n) _ _ _ _ _ _ _ _ _ _)=qeL k (qcT k n) _ _ _ _ _ _ _ _ _
  unfold qeL qai
  simp only [qnM,qnN,qqe,Option.map_some,Option.map_none,fun o i a c x x1 x2 x3 x4 x5 x0 x11 y0 y1 outs=>quD k k o i a c x x1 x2 x3 x4 x5 z x0 x11 y0 y1 outs,jo2,quE k n]
  rfl
theorem qo4 (x0 y0:Bool) (x1 y1:List Int) {x y:Int} (nx:Nm W x0 x1 x) (ny:Nm W y0 y1 y) (hx:x1.length≤1000000) (hy:y1.length≤1000000):
  ∃s l,Rn (fun k=>qdu k x0 x1 y0 y1) (s,l,y0,y1)∧Nm W s l (x*y)∧l.length≤x1.length+y1.length:=by
 have hW:(0:Int)<W:=by decide
 have main:∀k,x1.length+y1.length<k→∃outs',qcT k k (x1.length+y1.length) x1 x1.length (0:Int) x0 x1 y0 y1 (List.replicate (x1.length+y1.length) 0)=some (x1.length+y1.length,x0,x1,y0,y1,outs')∧outs'.length=x1.length+y1.length∧Dg W outs'∧V W outs'=V W x1*V W y1:=by
  intro k hk
  obtain⟨o,h1,h2⟩:=qlZ k x1 y1 false x0 y0 nx.c.1 ny.c.1 (by omega) (by omega) (by omega) x1.length 0 k (List.replicate (x1.length+y1.length) 0) (by omega) (by omega) (by simp) (Dg.rep _ hW) (by rw [qmv];simp [V]) (by
   intro p _ hp
   rw [List.getElem?_replicate_of_lt (by simpa using hp)])
  have h1':qQ k k (x1.length+y1.length) x1 x1.length (0:Int) false x0 x1 y0 y1 (List.replicate (x1.length+y1.length) 0)=_:=h1
  refine⟨o,?_,h2⟩
  rw [←quE k k _ _ _ _ false,h1']
  rfl
 obtain⟨o,q1,q2,q3,q4⟩:=main (x1.length+y1.length+1) (by omega)
 refine⟨sgn (!(x0 == y0)) o,tl o,?_,?_,by have:=qcw o;omega⟩
 ·obtain⟨K,hK⟩:=qvd (!(x0 == y0)) x0 o x1 (by omega)
  refine Rn.up (f:=fun k=>qdu k x0 x1 y0 y1) (Rn.eq (max K (x1.length+y1.length+1)) fun k hk=> ?_)
  show qfZ k x0 x1 y0 y1=_
  unfold qfZ
  obtain⟨o',r1,r2,r3,r4⟩:=main k (by omega)
  have ho:o'=o:=Dg.ext r3 q3 (by omega) (by omega)
  subst ho
  have h2:((x1.length:Int)+(y1.length:Int))=((x1.length+y1.length:Nat):Int):=rfl
  have hs:=hK k (by omega)
  have ht:List.take (x1.length+y1.length) o'=o':=List.take_of_length_le (by omega)
  simp -implicitDefEqProofs (maxSteps:=2000000) (disch:=omega) only [ps,↓reduceIte,reduceCtorEq,Int.reduceLT,Int.reduceLE,Int.reduceEq,Nat.reduceLT,Nat.reduceLeDiff,Nat.reduceEqDiff,Int.reduceNeg,qc,h2,r1,r2,ht,hs]
 ·refine(qlg (neg:= !(x0 == y0)) q3 q4).cast ?_
  rw [←nx.z,←ny.z]
  cases x0<;>cases y0<;>simp [Int.neg_mul,Int.mul_neg]

theorem qqf (k:Nat) (a:List Int) (dd:Int) (hla:a.length≤1000000000) (ha:Dg W a) (hd:0<dd∧dd<W):
  ∀(m n:Nat) (r:Int) (qs:List Int),m≤a.length→m<n→0≤r∧r<dd→qs.length=a.length→Dg W qs→V W (a.drop m)=dd*V W (qs.drop m)+r→
  ∃r' qs',qd8 k n a dd a.length r ((m:Int)-1) qs=some (a.length,r',qs')∧(0≤r'∧r'<dd)∧qs'.length=a.length∧Dg W qs'∧V W a=dd*V W qs'+r':=by
 intro m
 induction m with
 | zero=>
  intro n r qs hm hn hr hl hq e
  obtain⟨n,rfl⟩:∃m,n=m+1:=⟨n-1,by omega⟩
  refine⟨r,qs,?_,hr,hl,hq,e⟩
  show qet k (qd8 k n) _ _ _ _ _ _=_
  unfold qet
  simp -implicitDefEqProofs (maxSteps:=2000000) (disch:=omega) only [ps,↓reduceIte,reduceCtorEq,Int.reduceLT,Int.reduceLE,Int.reduceEq,Nat.reduceLT,Nat.reduceLeDiff,Nat.reduceEqDiff,Int.reduceNeg,qc]
 | succ i ih=>
  intro n r qs hm hn hr hl hq e
  obtain⟨n,rfl⟩:∃m,n=m+1:=⟨n-1,by omega⟩
  obtain⟨x,hx⟩:=qI (show i<a.length by omega)
  obtain⟨o,ho⟩:=qI (show i<qs.length by omega)
  have hxb:=ha.get hx
  have h1:(((i+1:Nat):Int)-1)=(i:Int):=by omega
  unfold W at hxb hd
  have hdm:=Int.emod_add_mul_ediv (r*4294967296+x) dd
  have hr1:0≤(r*4294967296+x) % dd∧(r*4294967296+x) % dd<dd:=⟨Int.emod_nonneg _ (by omega),Int.emod_lt_of_pos _ (by omega)⟩
  have hq1:0≤(r*4294967296+x) / dd:=Int.ediv_nonneg (by omega) (by omega)
  have hq2:(r*4294967296+x) / dd<4294967296:=by
   refine Int.ediv_lt_of_lt_mul (by omega) ?_
   have:r*4294967296+4294967296≤dd*4294967296:=by omega
   rw [Int.mul_comm];omega
  have hdrop:(qs.set i ((r*4294967296+x) / dd)).drop i=((r*4294967296+x) / dd)::qs.drop (i+1):=by
   rw [List.drop_eq_getElem_cons (by simp;omega),List.getElem_set_self,List.drop_set_of_lt (by omega)]
  obtain⟨r',qs',q1,q2⟩:=ih n ((r*4294967296+x) % dd) (qs.set i ((r*4294967296+x) / dd)) (by omega) (by omega) hr1 (by simpa using hl) (hq.set _ (by unfold W;omega)) (by
   rw [qcb hx,e,hdrop]
   simp only [V]
   unfold W
   grind)
  refine⟨r',qs',?_,q2⟩
  rw [←q1]
  show qet k (qd8 k n) _ _ _ _ _ _=_
  unfold qet
  have e0:IntKind.u64.wrap (r*4294967296)=r*4294967296:=qbM (by omega)
  have e2:IntKind.u64.wrap x=x:=qbM (by omega)
  have e1:=qna (x:=r) (y:=x) (by omega) (by omega)
  have e3:IntKind.u64.wrap (r*4294967296+x)=r*4294967296+x:=qbM (by omega)
  have e4:IntKind.u64.wrap dd=dd:=qbM (by omega)
  have e5:Int.tdiv (r*4294967296+x) dd=(r*4294967296+x) / dd:=qc6 (by omega)
  have e6:Int.tmod (r*4294967296+x) dd=(r*4294967296+x) % dd:=qc7 (by omega)
  simp -implicitDefEqProofs (maxSteps:=2000000) (disch:=omega) only [ps,↓reduceIte,reduceCtorEq,Int.reduceLT,Int.reduceLE,Int.reduceEq,Nat.reduceLT,Nat.reduceLeDiff,Nat.reduceEqDiff,Int.reduceNeg,qc,hx,ho,h1,e0,e2,e1,e3,e4,e5,e6]
theorem qtc (a:List Int) (dd:Int) (hla:a.length≤1000000000) (ha:Dg W a) (hd:0<dd∧dd<W):
  ∃q r,(∀k,a.length+2≤k→qiU k a dd=some (q,r))∧(0≤r∧r<dd)∧q.length=a.length∧Dg W q∧V W a=dd*V W q+r:=by
 have main:∀k,a.length<k→∃r' qs',qd8 k k a dd a.length 0 ((a.length:Int)-1) (List.replicate a.length 0)=some (a.length,r',qs')∧(0≤r'∧r'<dd)∧qs'.length=a.length∧Dg W qs'∧V W a=dd*V W qs'+r':=by
  intro k hk
  exact qqf k a dd hla ha hd a.length k 0 _ (Nat.le_refl _) hk (by omega) (by simp) (Dg.rep _ (by decide)) (by rw [List.drop_length,List.drop_of_length_le (by simp)];simp [V])
 obtain⟨r,q,h1,h2,h3,h4,h5⟩:=main (a.length+1) (by omega)
 refine⟨q,r,fun k hk=> ?_,h2,h3,h4,h5⟩
 obtain⟨k,rfl⟩:∃m,k=m+1:=⟨k-1,by omega⟩
 obtain⟨r',q',g1,g2,g3,g4,g5⟩:=main k (by omega)
 have hq:V W q'=V W q∧r'=r:=by
  have a1:(dd*V W q'+r') % dd=r':=by rw [Int.add_comm,Int.add_mul_emod_self_left];exact Int.emod_eq_of_lt g2.1 g2.2
  have a2:(dd*V W q+r) % dd=r:=by rw [Int.add_comm,Int.add_mul_emod_self_left];exact Int.emod_eq_of_lt h2.1 h2.2
  have er:r'=r:=by rw [←a1,←a2,←g5,←h5]
  subst er
  have:dd*V W q'=dd*V W q:=by omega
  exact⟨Int.eq_of_mul_eq_mul_left (by omega) this,rfl⟩
 have hqq:q'=q:=Dg.ext g4 h4 (by omega) hq.1
 show qiT k a dd=_
 unfold qiT
 unfold W at hd
 rw [←hqq,←hq.2]
 simp -implicitDefEqProofs (maxSteps:=2000000) (disch:=omega) only [ps,↓reduceIte,reduceCtorEq,Int.reduceLT,Int.reduceLE,Int.reduceEq,Nat.reduceLT,Nat.reduceLeDiff,Nat.reduceEqDiff,Int.reduceNeg,qc,g1,g3]
 rw [List.take_of_length_le (by omega)]

def bytesOf (l:List Int):ByteArray:=ByteArray.mk (List.toArray (List.map (fun n:Int=>n.toNat.toUInt8) l))
def dec (neg:Bool) (l:List Int):List Int:=(if neg then [45] else [])++(l.map fun x=>48+x).reverse
theorem qh0 (v:Int) (hv: -9223372036854775808≤v∧v≤9223372036854775807):∃l,Rn (fun k=>qci k v) (decide (v<0),l)∧Nm W (decide (v<0)) l v∧l.length≤2:=by
 have main:∀u:Int,0≤u∧u<18446744073709551616→u=v.natAbs→∃l,Rn (fun k=>qdM k (List.take 2 [u % 4294967296,u / 4294967296])) l∧Cn W l∧V W l=v.natAbs∧l.length≤2:=by
  intro u hu e
  have hdm:=Int.emod_add_mul_ediv u 4294967296
  have hdg:Dg W [u % 4294967296,u / 4294967296]:=Dg.cons (by unfold W;omega) (Dg.cons (by unfold W;omega) Dg.nil)
  have:=qcw [u % 4294967296,u / 4294967296]
  refine⟨tl [u % 4294967296,u / 4294967296],qir _ (by simp),Cn.of hdg,?_,by simpa using this⟩
  rw [qhc]
  simp only [V]
  unfold W
  omega
 by_cases h:v<0
 ·obtain⟨l,h1,h2,h3,h4⟩:=main (-v) (by omega) (by omega)
  refine⟨l,?_,Nm.of (by decide) h2 h3,h4⟩
  refine Rn.up (f:=fun k=>qci k v) ?_
  show Rn (fun k=>qfL k v) _
  unfold qfL
  have e1:IntKind.u64.wrap (0-IntKind.u64.wrap v)= -v:=by rw [qgE,qgE];omega
  have e2:IntKind.u32.wrap (-v)=(-v) % 4294967296:=qeX _
  have e3:IntKind.u32.wrap ((-v) / 4294967296)=(-v) / 4294967296:=qfH (by omega)
  (first | (refine Rn.t ?hc ?_;case hc=>simp -implicitDefEqProofs (maxSteps:=2000000) (disch:=omega) only [ps,↓reduceIte,reduceCtorEq,Int.reduceLT,Int.reduceLE,Int.reduceEq,Nat.reduceLT,Nat.reduceLeDiff,Nat.reduceEqDiff,Int.reduceNeg,qc]) | (refine Rn.f ?hc ?_;case hc=>simp -implicitDefEqProofs (maxSteps:=2000000) (disch:=omega) only [ps,↓reduceIte,reduceCtorEq,Int.reduceLT,Int.reduceLE,Int.reduceEq,Nat.reduceLT,Nat.reduceLeDiff,Nat.reduceEqDiff,Int.reduceNeg,qc]))
  simp only [e1,e2,qcy (-v) (show(0:Int)≤4294967296 by decide),e3]
  exact Rn.bind h1 (Rn.pure _)
 ·obtain⟨l,h1,h2,h3,h4⟩:=main v (by omega) (by omega)
  refine⟨l,?_,Nm.of (by decide) h2 h3,h4⟩
  refine Rn.up (f:=fun k=>qci k v) ?_
  show Rn (fun k=>qfL k v) _
  unfold qfL
  have e1:IntKind.u64.wrap v=v:=qbM (by omega)
  have e2:IntKind.u32.wrap v=v % 4294967296:=qeX _
  have e3:IntKind.u32.wrap (v / 4294967296)=v / 4294967296:=qfH (by omega)
  (first | (refine Rn.t ?hc ?_;case hc=>simp -implicitDefEqProofs (maxSteps:=2000000) (disch:=omega) only [ps,↓reduceIte,reduceCtorEq,Int.reduceLT,Int.reduceLE,Int.reduceEq,Nat.reduceLT,Nat.reduceLeDiff,Nat.reduceEqDiff,Int.reduceNeg,qc]) | (refine Rn.f ?hc ?_;case hc=>simp -implicitDefEqProofs (maxSteps:=2000000) (disch:=omega) only [ps,↓reduceIte,reduceCtorEq,Int.reduceLT,Int.reduceLE,Int.reduceEq,Nat.reduceLT,Nat.reduceLeDiff,Nat.reduceEqDiff,Int.reduceNeg,qc]))
  simp only [e1,e2,qcy v (show(0:Int)≤4294967296 by decide),e3]
  exact Rn.bind h1 (Rn.pure _)
def sg (l:List Int):List Int:=l.map fun x=>48+x

theorem qzs {x y:Int} (b:Nat) (hb:b≤32) (hx:0≤x∧x<2^b) (hy:0≤y∧y<4294967296) (m:Int) (hm:y=2^b*m):
  ((BitVec.toNat ((BitVec.ofInt 32 x) ||| (BitVec.ofInt 32 y)):Nat):Int)=x+y:=by
 have hp:(0:Int)<2^b:=Int.pow_pos (by decide)
 have hm0:0≤m:=by
  rcases Int.lt_or_le m 0 with h | h
  ·have:=Int.mul_neg_of_pos_of_neg hp h
   omega
  ·exact h
 obtain⟨c,rfl⟩:=Int.eq_ofNat_of_zero_le hx.1
 obtain⟨e,rfl⟩:=Int.eq_ofNat_of_zero_le hy.1
 obtain⟨m,rfl⟩:=Int.eq_ofNat_of_zero_le hm0
 have hc:c<2^b:=by
  have:=hx.2
  exact_mod_cast this
 have he:e=2^b*m:=by exact_mod_cast hm
 have hb2:(2:Nat)^b≤2^32:=Nat.pow_le_pow_right (by decide) hb
 have h1:(BitVec.ofInt 32 (c:Int)).toNat=c:=by
  rw [BitVec.toNat_ofInt]
  omega
 have h2:(BitVec.ofInt 32 (e:Int)).toNat=e:=by
  rw [BitVec.toNat_ofInt]
  omega
 rw [BitVec.toNat_or,h1,h2,he,Nat.or_comm,←Nat.two_pow_add_eq_or_of_lt hc]
 omega
theorem qqg (k:Nat) (a:List Int) (s:Nat) (hs:s≤31) (ha:Dg W a) (hla:a.length≤1000000000):∀(d i n:Nat) (outs:List Int),i+d=a.length→d<n→outs.length=a.length+1→Dg W outs→
  (∀o,outs[i]? =some o→o<2^s)→V W outs=V W (a.take i)*2^s→(∀p,i<p→p<outs.length→outs[p]? =some 0)→
  ∃outs',qd9 k n s (a.length+1) a a.length i outs=some (a.length+1,outs')∧outs'.length=a.length+1∧Dg W outs'∧V W outs'=V W a*2^s:=by
 intro d
 induction d with
 | zero=>
  intro i n outs hi hn hl hd ho e h0
  obtain⟨n,rfl⟩:∃m,n=m+1:=⟨n-1,by omega⟩
  have:i=a.length:=by omega
  subst this
  refine⟨outs,?_,hl,hd,by rw [e,List.take_length]⟩
  show qeu k (qd9 k n) _ _ _ _ _ _=_
  unfold qeu
  simp -implicitDefEqProofs (maxSteps:=2000000) (disch:=omega) only [ps,↓reduceIte,reduceCtorEq,Int.reduceLT,Int.reduceLE,Int.reduceEq,Nat.reduceLT,Nat.reduceLeDiff,Nat.reduceEqDiff,Int.reduceNeg,qc]
 | succ d ih=>
  intro i n outs hi hn hl hd ho e h0
  obtain⟨n,rfl⟩:∃m,n=m+1:=⟨n-1,by omega⟩
  obtain⟨x,hx⟩:=qI (show i<a.length by omega)
  obtain⟨o,hoo⟩:=qI (show i<outs.length by omega)
  have hxb:=ha.get hx
  have hob:=hd.get hoo
  have ho2:=ho o hoo
  have hz:=h0 (i+1) (by omega) (by omega)
  have hp:(0:Int)<2^s:=Int.pow_pos (by decide)
  have hq:(0:Int)<2^(32-s):=Int.pow_pos (by decide)
  have hpq:(2:Int)^s*2^(32-s)=4294967296:=by rw [←Int.pow_add,show s+(32-s)=32 by omega];rfl
  have hp31:(2:Int)^s≤2147483648:=by
   have:(2:Int)^s≤2^31:=by exact_mod_cast Nat.pow_le_pow_right (by decide:0<2) hs
   have e:(2:Int)^31=2147483648:=by decide
   omega
  unfold W at hxb hob
  have hw:0≤x*2^s∧x*2^s<4294967296*2^s:=⟨Int.mul_nonneg hxb.1 (by omega),Int.mul_lt_mul_of_pos_right hxb.2 hp⟩
  have hmod:(x*2^s) % 4294967296=2^s*(x % 2^(32-s)):=by
   rw [←hpq,Int.mul_comm x,Int.mul_emod_mul_of_pos _ _ hp]
  have hdiv:(x*2^s) / 4294967296<2^s:=by
   have h1:=Int.emod_add_mul_ediv (x*2^s) 4294967296
   have h2:=Int.emod_nonneg (x*2^s) (show(4294967296:Int)≠0 by decide)
   omega
  have hdm:=Int.emod_add_mul_ediv (x*2^s) 4294967296
  have hmb:(x*2^s) % 4294967296≤4294967296-2^s:=by
   have h1:=Int.emod_lt_of_pos x hq
   have h2:2^s*(x % 2^(32-s))≤2^s*(2^(32-s)-1):=Int.mul_le_mul_of_nonneg_left (by omega) (by omega)
   rw [Int.mul_sub,hpq] at h2
   omega
  have hmn:=Int.emod_nonneg (x*2^s) (show(4294967296:Int)≠0 by decide)
  have hor:=qzs s (by omega) ⟨hob.1,ho2⟩ (y:=(x*2^s) % 4294967296) ⟨hmn,by omega⟩ _ hmod
  have hdd:(x*2^s) / 4294967296 % 4294967296=(x*2^s) / 4294967296:=Int.emod_eq_of_lt (by omega) (by omega)
  have hz2:(outs.set i (o+(x*2^s) % 4294967296))[i+1]? =some 0:=by rw [List.getElem?_set_ne (by omega)];exact hz
  have dg1:Dg W (outs.set i (o+(x*2^s) % 4294967296)):=hd.set _ (by unfold W;omega)
  obtain⟨o',q1,q2⟩:=ih (i+1) n ((outs.set i (o+(x*2^s) % 4294967296)).set (i+1) ((x*2^s) / 4294967296)) (by omega) (by omega) (by simpa using hl) (dg1.set _ (by unfold W;omega)) (by
   intro o2 h2
   rw [List.getElem?_set_self (by simp;omega)] at h2
   cases h2
   exact hdiv) (by
   rw [qhZ _ hz2,qhZ _ hoo,e,qdU hx,Int.pow_succ]
   have hWW:W=4294967296:=rfl
   rw [hWW]
   grind) (by
   intro p h1 h2
   rw [List.getElem?_set_ne (by omega),List.getElem?_set_ne (by omega)]
   exact h0 p (by omega) (by simpa using h2))
  refine⟨o',?_,q2⟩
  have h1:((i:Int)+1)=((i+1:Nat):Int):=rfl
  have hmin:min s 64=s:=by omega
  rw [←q1]
  show qeu k (qd9 k n) _ _ _ _ _ _=_
  unfold qeu
  simp -implicitDefEqProofs (maxSteps:=2000000) (disch:=omega) only [ps,↓reduceIte,reduceCtorEq,Int.reduceLT,Int.reduceLE,Int.reduceEq,Nat.reduceLT,Nat.reduceLeDiff,Nat.reduceEqDiff,Int.reduceNeg,qc,hx,hoo,h1,hmin,hor,hz2,qcy,qeX,hdd]
theorem qnO (a:List Int) (s:Nat) (hs:s≤31) (ha:Dg W a) (hla:a.length≤1000000000):
  ∃outs,Rn (fun k=>qgu k a s) (a.length+1,outs)∧outs.length=a.length+1∧Dg W outs∧V W outs=V W a*2^s:=by
 have hp:(0:Int)<2^s:=Int.pow_pos (by decide)
 have main:∀k,a.length<k→∃outs',qd9 k k s (a.length+1) a a.length (0:Int) (List.replicate (a.length+1) 0)=some (a.length+1,outs')∧outs'.length=a.length+1∧Dg W outs'∧V W outs'=V W a*2^s:=by
  intro k hk
  refine qqg k a s hs ha hla a.length 0 k _ (by omega) hk (by simp) (Dg.rep _ (by decide)) ?_ (by rw [qmv];simp [V]) ?_
  ·intro o h
   rw [List.getElem?_replicate_of_lt (by omega)] at h
   cases h
   exact hp
  ·intro p _ h
   rw [List.getElem?_replicate_of_lt (by simpa using h)]
 obtain⟨o,q1,q2,q3,q4⟩:=main (a.length+1) (by omega)
 refine⟨o,?_,q2,q3,q4⟩
 refine Rn.up (f:=fun k=>qgu k a s) (Rn.eq (a.length+1) fun k hk=> ?_)
 show qiV k a s=_
 unfold qiV
 obtain⟨o',r1,r2,r3,r4⟩:=main k (by omega)
 have ho:o'=o:=Dg.ext r3 q3 (by omega) (by omega)
 subst ho
 have h1:((a.length:Int)+1)=((a.length+1:Nat):Int):=rfl
 simp -implicitDefEqProofs (maxSteps:=2000000) (disch:=omega) only [ps,↓reduceIte,reduceCtorEq,Int.reduceLT,Int.reduceLE,Int.reduceEq,Nat.reduceLT,Nat.reduceLeDiff,Nat.reduceEqDiff,Int.reduceNeg,qc,h1,r1]

theorem qgz (z:Int):IntKind.u32.wrap (IntKind.u64.wrap z)=z % 4294967296:=by rw [qeX,qgE];omega
theorem qrF (k:Nat) (vs:List Int) (hvs:Dg W vs) (u0 n:Nat) (hnv:n≤vs.length) (dd:Int) (hdd:0≤dd∧dd<W):
  ∀(e i m:Nat) (carry borrow:Int) (us:List Int),i+e=n+1→e<m→(0≤carry∧carry<W)→(0≤borrow∧borrow≤1)→(i=n+1→carry=0)→u0+n+1≤us.length→us.length≤1000000000→Dg W us→
  ∃us' b',qaP k m u0 (n+1) n dd carry borrow ((n+1:Nat):Int) i us vs=some (u0,n+1,n,dd,b',us',vs)∧(0≤b'∧b'≤1)∧us'.length=us.length∧Dg W us'∧
   V W us'+dd*W^(u0+i)*V W ((vs.take n).drop i)+(carry+borrow)*W^(u0+i)=V W us+b'*W^(u0+n+1)∧∀p,p<u0+i∨u0+n+1≤p→us'[p]? =us[p]? :=by
 intro e
 induction e with
 | zero=>
  intro i m carry borrow us hi hm hc hb hc0 hl hlb hd
  obtain⟨m,rfl⟩:∃q,m=q+1:=⟨m-1,by omega⟩
  have:i=n+1:=by omega
  subst this
  have hcz:=hc0 rfl
  subst hcz
  refine⟨us,borrow,?_,hb,rfl,hd,?_,fun _ _=>rfl⟩
  ·show qaf k (qaP k m) _ _ _ _ _ _ _ _ _ _=_
   unfold qaf
   simp -implicitDefEqProofs (maxSteps:=2000000) (disch:=omega) only [ps,↓reduceIte,reduceCtorEq,Int.reduceLT,Int.reduceLE,Int.reduceEq,Nat.reduceLT,Nat.reduceLeDiff,Nat.reduceEqDiff,Int.reduceNeg,qc]
  ·rw [List.drop_of_length_le (by rw [List.length_take];omega),←Nat.add_assoc]
   simp [V]
 | succ e ih=>
  intro i m carry borrow us hi hm hc hb hc0 hl hlb hd
  obtain⟨m,rfl⟩:∃q,m=q+1:=⟨m-1,by omega⟩
  obtain⟨u,hu⟩:=qI (show u0+i<us.length by omega)
  have hub:=hd.get hu
  have h1:((i:Int)+1)=((i+1:Nat):Int):=rfl
  unfold W at hub hc hdd
  -- what one round does, whatever is taken away
  have step:∀cur:Int,0≤cur→cur<18446744073709551616→(i=n→cur=carry)→∀(b1 w:Int),(0≤b1∧b1≤1)→(0≤w∧w<4294967296)→w=u-cur % 4294967296-borrow+b1*4294967296→
    (W^(u0+i)*cur=carry*W^(u0+i)+dd*W^(u0+i)*(V W ((vs.take n).drop i)-W*V W ((vs.take n).drop (i+1))))→
    ∃us' b',qaP k m u0 (n+1) n dd (cur / 4294967296) b1 ((n+1:Nat):Int) ((i+1:Nat):Int) (us.set (u0+i) w) vs=some (u0,n+1,n,dd,b',us',vs)∧(0≤b'∧b'≤1)∧us'.length=us.length∧Dg W us'∧
     V W us'+dd*W^(u0+i)*V W ((vs.take n).drop i)+(carry+borrow)*W^(u0+i)=V W us+b'*W^(u0+n+1)∧∀p,p<u0+i∨u0+n+1≤p→us'[p]? =us[p]? :=by
   intro cur c0 c1 cn b1 w hb1 hw ew ecur
   have hdm:=Int.emod_add_mul_ediv cur 4294967296
   obtain⟨us',b',q1,q2,q3,q4,q5,q6⟩:=ih (i+1) m (cur / 4294967296) b1 (us.set (u0+i) w) (by omega) (by omega) (by unfold W;omega) hb1 (fun h=>by
    have:=cn (by omega)
    omega) (by simpa using hl) (by simpa using hlb) (hd.set _ (by unfold W;exact hw))
   refine⟨us',b',q1,q2,by simpa using q3,q4,?_,fun p hp=> ?_⟩
   ·rw [qhZ _ hu,←Nat.add_assoc u0 i 1,Int.pow_succ] at q5
    have hWW:W=4294967296:=rfl
    generalize V W (List.drop i (List.take n vs))=v0 at*
    generalize V W (List.drop (i+1) (List.take n vs))=v1 at*
    generalize W^(u0+i)=P at*
    rw [hWW] at q5 ecur
    grind
   ·rw [q6 p (by omega),List.getElem?_set_ne (by omega)]
  by_cases hin:i<n
  ·obtain⟨x,hx⟩:=qI (show i<vs.length by omega)
   have hxb:=hvs.get hx
   unfold W at hxb
   have hm2:=qnL hdd hxb
   have hx2:(vs.take n)[i]? =some x:=by rw [List.getElem?_take_of_lt hin];exact hx
   have hal:=qoU (x:=carry+dd*x) (by omega)
   have hml:=Int.emod_lt_of_pos (carry+dd*x) (show(0:Int)<4294967296 by decide)
   have hmn:=Int.emod_nonneg (carry+dd*x) (show(4294967296:Int)≠0 by decide)
   have ec:W^(u0+i)*(carry+dd*x)=carry*W^(u0+i)+dd*W^(u0+i)*(V W ((vs.take n).drop i)-W*V W ((vs.take n).drop (i+1))):=by
    rw [qcb hx2]
    grind
   by_cases hlt:u<(carry+dd*x) % 4294967296+borrow
   ·obtain⟨us',b',q1,q2⟩:=step (carry+dd*x) (by omega) (by omega) (fun h=>by omega) 1 ((u-((carry+dd*x) % 4294967296+borrow)) % 4294967296) (by omega) (by omega) (by omega) ec
    refine⟨us',b',?_,q2⟩
    rw [←q1]
    show qaf k (qaP k m) _ _ _ _ _ _ _ _ _ _=_
    unfold qaf
    simp -implicitDefEqProofs (maxSteps:=2000000) (disch:=omega) only [ps,↓reduceIte,reduceCtorEq,Int.reduceLT,Int.reduceLE,Int.reduceEq,Nat.reduceLT,Nat.reduceLeDiff,Nat.reduceEqDiff,Int.reduceNeg,qc,hx,hu,h1,hal,qcy,qgz]
   ·obtain⟨us',b',q1,q2⟩:=step (carry+dd*x) (by omega) (by omega) (fun h=>by omega) 0 (u-((carry+dd*x) % 4294967296+borrow)) (by omega) (by omega) (by omega) ec
    refine⟨us',b',?_,q2⟩
    rw [←q1]
    show qaf k (qaP k m) _ _ _ _ _ _ _ _ _ _=_
    unfold qaf
    simp -implicitDefEqProofs (maxSteps:=2000000) (disch:=omega) only [ps,↓reduceIte,reduceCtorEq,Int.reduceLT,Int.reduceLE,Int.reduceEq,Nat.reduceLT,Nat.reduceLeDiff,Nat.reduceEqDiff,Int.reduceNeg,qc,hx,hu,h1,hal,qcy]
  ·have hi2:i=n:=by omega
   have hal:=qoU (x:=carry) (by omega)
   have hml:=Int.emod_lt_of_pos carry (show(0:Int)<4294967296 by decide)
   have hmn:=Int.emod_nonneg carry (show(4294967296:Int)≠0 by decide)
   have ec:W^(u0+i)*carry=carry*W^(u0+i)+dd*W^(u0+i)*(V W ((vs.take n).drop i)-W*V W ((vs.take n).drop (i+1))):=by
    rw [List.drop_of_length_le (by rw [List.length_take];omega),List.drop_of_length_le (by rw [List.length_take];omega)]
    simp only [V]
    grind
   by_cases hlt:u<carry % 4294967296+borrow
   ·obtain⟨us',b',q1,q2⟩:=step carry (by omega) (by omega) (fun h=>rfl) 1 ((u-(carry % 4294967296+borrow)) % 4294967296) (by omega) (by omega) (by omega) ec
    refine⟨us',b',?_,q2⟩
    rw [←q1]
    show qaf k (qaP k m) _ _ _ _ _ _ _ _ _ _=_
    unfold qaf
    simp -implicitDefEqProofs (maxSteps:=2000000) (disch:=omega) only [ps,↓reduceIte,reduceCtorEq,Int.reduceLT,Int.reduceLE,Int.reduceEq,Nat.reduceLT,Nat.reduceLeDiff,Nat.reduceEqDiff,Int.reduceNeg,qc,hu,h1,hal,qcy,qgz]
   ·obtain⟨us',b',q1,q2⟩:=step carry (by omega) (by omega) (fun h=>rfl) 0 (u-(carry % 4294967296+borrow)) (by omega) (by omega) (by omega) ec
    refine⟨us',b',?_,q2⟩
    rw [←q1]
    show qaf k (qaP k m) _ _ _ _ _ _ _ _ _ _=_
    unfold qaf
    simp -implicitDefEqProofs (maxSteps:=2000000) (disch:=omega) only [ps,↓reduceIte,reduceCtorEq,Int.reduceLT,Int.reduceLE,Int.reduceEq,Nat.reduceLT,Nat.reduceLeDiff,Nat.reduceEqDiff,Int.reduceNeg,qc,hu,h1,hal,qcy]

theorem qtd (P B a b s u carry v0 v1 Vu:Int) (hdm:a+B*b=s) (ecur:P*s=P*(u+carry)+P*(v0-B*v1)):
  Vu+P*(a-u)+P*B*v1+b*(P*B)=Vu+P*v0+carry*P:=by
 subst hdm
 rw [Int.mul_add,Int.mul_add,Int.mul_sub] at ecur
 rw [Int.mul_sub]
 grind
theorem qrG (k:Nat) (vs:List Int) (hvs:Dg W vs) (u0 n:Nat) (hnv:n≤vs.length) (dd:Int):
  ∀(e i m:Nat) (carry:Int) (us:List Int),i+e=n+1→e<m→(0≤carry∧carry≤1)→u0+n+1≤us.length→us.length≤1000000000→Dg W us→
  ∃us' c',qb0 k m u0 (n+1) n dd carry ((n+1:Nat):Int) i us vs=some (dd,us',vs)∧(0≤c'∧c'≤1)∧us'.length=us.length∧Dg W us'∧
   V W us'+c'*W^(u0+n+1)=V W us+W^(u0+i)*V W ((vs.take n).drop i)+carry*W^(u0+i)∧∀p,p<u0+i∨u0+n+1≤p→us'[p]? =us[p]? :=by
 intro e
 induction e with
 | zero=>
  intro i m carry us hi hm hc hl hlb hd
  obtain⟨m,rfl⟩:∃q,m=q+1:=⟨m-1,by omega⟩
  have:i=n+1:=by omega
  subst this
  refine⟨us,carry,?_,hc,rfl,hd,?_,fun _ _=>rfl⟩
  ·show qb7 k (qb0 k m) _ _ _ _ _ _ _ _ _=_
   unfold qb7
   simp -implicitDefEqProofs (maxSteps:=2000000) (disch:=omega) only [ps,↓reduceIte,reduceCtorEq,Int.reduceLT,Int.reduceLE,Int.reduceEq,Nat.reduceLT,Nat.reduceLeDiff,Nat.reduceEqDiff,Int.reduceNeg,qc]
  ·rw [List.drop_of_length_le (by rw [List.length_take];omega),←Nat.add_assoc]
   simp [V]
 | succ e ih=>
  intro i m carry us hi hm hc hl hlb hd
  obtain⟨m,rfl⟩:∃q,m=q+1:=⟨m-1,by omega⟩
  obtain⟨u,hu⟩:=qI (show u0+i<us.length by omega)
  have hub:=hd.get hu
  have h1:((i:Int)+1)=((i+1:Nat):Int):=rfl
  unfold W at hub
  have step:∀s:Int,0≤s→s<8589934592→(W^(u0+i)*s=W^(u0+i)*(u+carry)+W^(u0+i)*(V W ((vs.take n).drop i)-W*V W ((vs.take n).drop (i+1))))→
    ∃us' c',qb0 k m u0 (n+1) n dd (s / 4294967296) ((n+1:Nat):Int) ((i+1:Nat):Int) (us.set (u0+i) (s % 4294967296)) vs=some (dd,us',vs)∧(0≤c'∧c'≤1)∧us'.length=us.length∧Dg W us'∧
     V W us'+c'*W^(u0+n+1)=V W us+W^(u0+i)*V W ((vs.take n).drop i)+carry*W^(u0+i)∧∀p,p<u0+i∨u0+n+1≤p→us'[p]? =us[p]? :=by
   intro s c0 c1 ecur
   have hdm:=Int.emod_add_mul_ediv s 4294967296
   obtain⟨us',b',q1,q2,q3,q4,q5,q6⟩:=ih (i+1) m (s / 4294967296) (us.set (u0+i) (s % 4294967296)) (by omega) (by omega) (by omega) (by simpa using hl) (by simpa using hlb) (hd.set _ (by unfold W;omega))
   refine⟨us',b',q1,q2,by simpa using q3,q4,?_,fun p hp=> ?_⟩
   ·rw [qhZ _ hu,←Nat.add_assoc u0 i 1,show W^(u0+i+1)=W^(u0+i)*W from Int.pow_succ ..] at q5
    rw [q5]
    exact qtd _ _ _ _ _ _ _ _ _ _ hdm ecur
   ·rw [q6 p (by omega),List.getElem?_set_ne (by omega)]
  by_cases hin:i<n
  ·obtain⟨x,hx⟩:=qI (show i<vs.length by omega)
   have hxb:=hvs.get hx
   unfold W at hxb
   have hx2:(vs.take n)[i]? =some x:=by rw [List.getElem?_take_of_lt hin];exact hx
   have ec:W^(u0+i)*(u+carry+x)=W^(u0+i)*(u+carry)+W^(u0+i)*(V W ((vs.take n).drop i)-W*V W ((vs.take n).drop (i+1))):=by
    rw [qcb hx2,Int.add_sub_cancel,Int.mul_add]
   obtain⟨us',b',q1,q2⟩:=step (u+carry+x) (by omega) (by omega) ec
   refine⟨us',b',?_,q2⟩
   rw [←q1]
   show qb7 k (qb0 k m) _ _ _ _ _ _ _ _ _=_
   unfold qb7
   have ew:IntKind.u32.wrap (u+carry+x)=(u+carry+x) % 4294967296:=qeX _
   simp -implicitDefEqProofs (maxSteps:=2000000) (disch:=omega) only [↓ew,ps,↓reduceIte,reduceCtorEq,Int.reduceLT,Int.reduceLE,Int.reduceEq,Nat.reduceLT,Nat.reduceLeDiff,Nat.reduceEqDiff,Int.reduceNeg,qc,hx,hu,h1,qcy,ew,qgz]
  ·have ec:W^(u0+i)*(u+carry)=W^(u0+i)*(u+carry)+W^(u0+i)*(V W ((vs.take n).drop i)-W*V W ((vs.take n).drop (i+1))):=by
    rw [List.drop_of_length_le (by rw [List.length_take];omega),List.drop_of_length_le (by rw [List.length_take];omega)]
    simp [V]
   obtain⟨us',b',q1,q2⟩:=step (u+carry) (by omega) (by omega) ec
   refine⟨us',b',?_,q2⟩
   rw [←q1]
   show qb7 k (qb0 k m) _ _ _ _ _ _ _ _ _=_
   unfold qb7
   have ew:IntKind.u32.wrap (u+carry)=(u+carry) % 4294967296:=qeX _
   simp -implicitDefEqProofs (maxSteps:=2000000) (disch:=omega) only [ps,↓reduceIte,reduceCtorEq,Int.reduceLT,Int.reduceLE,Int.reduceEq,Nat.reduceLT,Nat.reduceLeDiff,Nat.reduceEqDiff,Int.reduceNeg,qc,hu,h1,qcy,ew,qgz]
theorem qmM (l:List Int) (u0 n:Nat) (h:u0+n≤l.length):V W l=V W (l.take u0)+W^u0*(V W ((l.drop u0).take n)+W^n*V W (l.drop (u0+n))):=by
 rw [qff l u0 (by omega),qff (l.drop u0) n (by rw [List.length_drop];omega),List.drop_drop]
theorem qnP {l m:List Int} {u0 n:Nat} (h:∀p,p<u0∨u0+n≤p→l[p]? =m[p]?):l.take u0=m.take u0∧l.drop (u0+n)=m.drop (u0+n):=by
 constructor
 ·refine List.ext_getElem? fun p=> ?_
  by_cases hp:p<u0
  ·rw [List.getElem?_take_of_lt hp,List.getElem?_take_of_lt hp];exact h p (.inl hp)
  ·rw [List.getElem?_eq_none (by rw [List.length_take];omega),List.getElem?_eq_none (by rw [List.length_take];omega)]
 ·refine List.ext_getElem? fun p=> ?_
  rw [List.getElem?_drop,List.getElem?_drop]
  exact h _ (.inr (by omega))
theorem qnQ {l m:List Int} {u0 n:Nat} (hl:u0+n≤l.length) (hm:u0+n≤m.length) (h:∀p,p<u0∨u0+n≤p→l[p]? =m[p]?) {x y:Int} (e:V W l+W^u0*x=V W m+W^u0*y):
  V W ((l.drop u0).take n)+x=V W ((m.drop u0).take n)+y:=by
 obtain⟨h1,h2⟩:=qnP h
 rw [qmM l u0 n hl,qmM m u0 n hm,h1,h2] at e
 have hp:(0:Int)<W^u0:=Int.pow_pos (by decide)
 generalize V W ((l.drop u0).take n)=a at*
 generalize V W ((m.drop u0).take n)=b at*
 generalize W^u0=P at*
 have e2:P*(a+x)=P*(b+y):=by grind
 exact Int.eq_of_mul_eq_mul_left (by omega) e2

theorem qte {a b P Y d c X:Int} (h:a+d*P*Y+(0+0)*P=b+c*(P*X)):a+P*(d*Y)=b+P*(c*X):=by
 have h1:d*P*Y=P*(d*Y):=by rw [Int.mul_comm d P,Int.mul_assoc]
 have h2:c*(P*X)=P*(c*X):=Int.mul_left_comm ..
 rw [h1,h2,Int.add_zero,Int.zero_mul] at h
 omega
theorem qzt {a b P Y c X:Int} (h:a+c*(P*X)=b+P*Y+0*P):a+P*(c*X)=b+P*Y:=by
 have h2:c*(P*X)=P*(c*X):=Int.mul_left_comm ..
 rw [h2,Int.zero_mul] at h
 omega
theorem qBX {a b c P Y q X:Int} (h1:a+P*((q+1)*Y)=b+P*(1*X)) (h2:c+P*(1*X)=a+P*Y):c+P*(q*Y)=b:=by
 rw [Int.add_mul,Int.one_mul,Int.mul_add] at h1
 omega
theorem qvf (us vs:List Int) (u0 n:Nat) (dd q:Int) (hvs:Dg W vs) (hd:Dg W us) (hnv:n≤vs.length) (hl:u0+n+1≤us.length) (hlb:us.length≤1000000000) (hdd:0≤dd∧dd<W) (hq0:0≤q)
  (hq1:q*V W (vs.take n)≤V W ((us.drop u0).take (n+1))) (hq2:V W ((us.drop u0).take (n+1))<(q+1)*V W (vs.take n)) (hdq:dd=q∨dd=q+1):
  ∃us',Rn (fun k=>qfS k u0 (n+1) n dd us vs) (q,us',vs)∧us'.length=us.length∧Dg W us'∧V W us'+W^u0*(q*V W (vs.take n))=V W us∧∀p,p<u0∨u0+(n+1)≤p→us'[p]? =us[p]? :=by
 have hY:=qeH (B:=W) (by decide) (hvs.take n)
 have hY0:=qr (B:=W) (by decide) (hvs.take n)
 have hYl:(vs.take n).length=n:=by rw [List.length_take];omega
 rw [hYl] at hY
 have hP:(0:Int)<W^u0:=Int.pow_pos (by decide)
 have hWn:(0:Int)<W^n:=Int.pow_pos (by decide)
 have hWn1:W^(n+1)=W^n*4294967296:=Int.pow_succ ..
 have hpw:W^(u0+n+1)=W^u0*W^(n+1):=by rw [Nat.add_assoc,Int.pow_add]
 have main:∀k,n+2≤k→∃us',qfR k u0 (n+1) n dd us vs=some (q,us',vs)∧us'.length=us.length∧Dg W us'∧V W us'+W^u0*(q*V W (vs.take n))=V W us∧∀p,p<u0∨u0+(n+1)≤p→us'[p]? =us[p]? :=by
  intro k hk
  obtain⟨us1,b1,q1,hb1,l1,d1,e1,o1⟩:=qrF k vs hvs u0 n hnv dd hdd (n+1) 0 k 0 0 us (by omega) (by omega) (by decide) (by decide) (by omega) hl hlb hd
  have q1':qaP k k u0 (n+1) n dd 0 0 ((n+1:Nat):Int) 0 us vs=_:=q1
  have w1:=qnQ (l:=us1) (m:=us) (u0:=u0) (n:=n+1) (by omega) (by omega) (fun p hp=>o1 p (by omega)) (x:=dd*V W (vs.take n)) (y:=b1*W^(n+1)) (by
   rw [hpw,Nat.add_zero,List.drop_zero] at e1
   exact qte e1)
  have t1:=qr (B:=W) (by decide) ((d1.drop u0).take (n+1))
  have t2:=qeH (B:=W) (by decide) ((d1.drop u0).take (n+1))
  have t3:((us1.drop u0).take (n+1)).length=n+1:=by rw [List.length_take,List.length_drop];omega
  rw [t3] at t2
  rw [Int.add_mul,Int.one_mul] at hq2
  rcases hdq with rfl | rfl
  ·have hb0:b1=0:=by
    rcases(by omega:b1=0∨b1=1)with h | h
    ·exact h
    ·subst h
     rw [Int.one_mul] at w1
     omega
   subst hb0
   refine⟨us1,?_,l1,d1,?_,fun p hp=>o1 p (by omega)⟩
   ·unfold qfR
    unfold W at hdd
    simp -implicitDefEqProofs (maxSteps:=2000000) (disch:=omega) only [ps,↓reduceIte,reduceCtorEq,Int.reduceLT,Int.reduceLE,Int.reduceEq,Nat.reduceLT,Nat.reduceLeDiff,Nat.reduceEqDiff,Int.reduceNeg,qc,q1']
   ·rw [hpw,Nat.add_zero,List.drop_zero] at e1
    have:=qte e1
    rw [Int.zero_mul,Int.mul_zero,Int.add_zero] at this
    exact this
  ·have hb0:b1=1:=by
    rcases(by omega:b1=0∨b1=1)with h | h
    ·subst h
     rw [Int.zero_mul,Int.add_mul,Int.one_mul] at w1
     omega
    ·exact h
   subst hb0
   obtain⟨us2,c2,q2,hc2,l2,d2,e2,o2⟩:=qrG k vs hvs u0 n hnv (q+1) (n+1) 0 k 0 us1 (by omega) (by omega) (by decide) (by omega) (by omega) d1
   have q2':qb0 k k u0 (n+1) n (q+1) 0 ((n+1:Nat):Int) 0 us1 vs=_:=q2
   have w2:=qnQ (l:=us2) (m:=us1) (u0:=u0) (n:=n+1) (by omega) (by omega) (fun p hp=>o2 p (by omega)) (x:=c2*W^(n+1)) (y:=V W (vs.take n)) (by
    rw [hpw,Nat.add_zero,List.drop_zero] at e2
    exact qzt e2)
   have s1:=qr (B:=W) (by decide) ((d2.drop u0).take (n+1))
   have s2:=qeH (B:=W) (by decide) ((d2.drop u0).take (n+1))
   have s3:((us2.drop u0).take (n+1)).length=n+1:=by rw [List.length_take,List.length_drop];omega
   rw [s3] at s2
   rw [Int.add_mul,Int.one_mul,Int.one_mul] at w1
   have hc1:c2=1:=by
    rcases(by omega:c2=0∨c2=1)with h | h
    ·subst h
     rw [Int.zero_mul] at w2
     omega
    ·exact h
   subst hc1
   refine⟨us2,?_,by omega,d2,?_,fun p hp=>(o2 p (by omega)).trans (o1 p (by omega))⟩
   ·unfold qfR
    unfold W at hdd
    have e0:q+1-1=q:=by omega
    simp -implicitDefEqProofs (maxSteps:=2000000) (disch:=omega) only [ps,↓reduceIte,reduceCtorEq,Int.reduceLT,Int.reduceLE,Int.reduceEq,Nat.reduceLT,Nat.reduceLeDiff,Nat.reduceEqDiff,Int.reduceNeg,qc,q1',q2',e0]
   ·rw [hpw,Nat.add_zero,List.drop_zero] at e1 e2
    exact qBX (qte e1) (qzt e2)
 obtain⟨us',q1,q2,q3,q4,q5⟩:=main (n+2) (by omega)
 refine⟨us',?_,q2,q3,q4,q5⟩
 refine Rn.up (f:=fun k=>qfS k u0 (n+1) n dd us vs) (Rn.eq (n+2) fun k hk=> ?_)
 obtain⟨us2,r1,r2,r3,r4,r5⟩:=main k hk
 have:us2=us':=Dg.ext r3 q3 (by omega) (by omega)
 subst this
 exact r1

theorem qqh {T Y P v1 v2 y top u2 t d rest:Int} (hP:0<P) (hY:Y=(v1*W+v2)*P+y) (hT:T=(top*W+u2)*P+t) (hy:0≤y) (ht:t<P)
  (hd:0≤d) (htop:d*v1+rest=top) (h:rest*W+u2<d*v2):T<d*Y:=by
 have h1:(rest*W+u2+1)*P≤d*v2*P:=Int.mul_le_mul_of_nonneg_right (by omega) (by omega)
 have h2:0≤d*y:=Int.mul_nonneg hd hy
 have e1:d*Y=d*v1*W*P+d*v2*P+d*y:=by rw [hY];grind
 have e2:T=d*v1*W*P+(rest*W+u2)*P+t:=by rw [hT,←htop];grind
 rw [Int.add_mul,Int.one_mul] at h1
 omega
theorem qqi {T Y P v1 v2 y top u2 t d rest:Int} (hP:0<P) (hY:Y=(v1*W+v2)*P+y) (hT:T=(top*W+u2)*P+t) (hy:0≤y) (hyP:y<P) (ht:0≤t) (hv:0≤v2∧v2<W) (hu:0≤u2)
  (hd:0≤d∧d≤W) (htop:d*v1+rest=top) (h:W≤rest):d*Y≤T:=by
 have e1:d*Y=d*v1*W*P+d*(v2*P+y):=by rw [hY];grind
 have e2:T=d*v1*W*P+rest*(W*P)+u2*P+t:=by rw [hT,←htop];grind
 have h0:(v2+1)*P≤W*P:=Int.mul_le_mul_of_nonneg_right (by omega) (by omega)
 rw [Int.add_mul,Int.one_mul] at h0
 have hWP:0≤W*P:=Int.mul_nonneg (by decide) (by omega)
 have h1:d*(v2*P+y)≤d*(W*P):=Int.mul_le_mul_of_nonneg_left (by omega) hd.1
 have h2:d*(W*P)≤rest*(W*P):=Int.mul_le_mul_of_nonneg_right (by omega) hWP
 have h3:0≤u2*P:=Int.mul_nonneg hu (by omega)
 omega
theorem qqj {T Y P v1 v2 y top u2 t d rest:Int} (hP:0<P) (hY:Y=(v1*W+v2)*P+y) (hT:T=(top*W+u2)*P+t) (hy:0≤y) (hyP:y<P) (ht:0≤t) (hv:0≤v2) (hv1:1≤v1)
  (hd:0≤d∧d≤W) (htop:d*v1+rest=top) (h:d*v2≤rest*W+u2):(d-1)*Y≤T:=by
 have e1:d*Y=d*v1*W*P+d*v2*P+d*y:=by rw [hY];grind
 have e2:T=d*v1*W*P+(rest*W+u2)*P+t:=by rw [hT,←htop];grind
 have h1:d*v2*P≤(rest*W+u2)*P:=Int.mul_le_mul_of_nonneg_right h (by omega)
 have h2:d*y≤W*y:=Int.mul_le_mul_of_nonneg_right hd.2 hy
 have h3:W*y≤W*P:=Int.mul_le_mul_of_nonneg_left (by omega) (by decide)
 have h4:1*(W*P)≤v1*(W*P):=Int.mul_le_mul_of_nonneg_right hv1 (Int.mul_nonneg (by decide) (by omega))
 have h5:0≤v2*P:=Int.mul_nonneg hv (by omega)
 have e3:Y=v1*(W*P)+v2*P+y:=by rw [hY];grind
 rw [Int.sub_mul,Int.one_mul]
 omega

theorem qqk (q u v j n:Nat) (bits:Int) (qs us vs:List Int) {T Y P v1 v2 y top u2 t:Int} (hP:0<P) (hY:Y=(v1*W+v2)*P+y) (hT:T=(top*W+u2)*P+t) (hy:0≤y∧y<P) (ht:0≤t∧t<P)
  (hv1:2147483648≤v1∧v1<W) (hv2:0≤v2∧v2<W) (hu2:0≤u2∧u2<W) (hTY:T<W*Y) (htb:top<v1*W+W) (hn:2≤n) (hnv:n≤v) (hju:j+n≤u) (hub:u≤1000000000)
  (g1:vs[n-1]? =some v1) (g2:vs[n-2]? =some v2) (g3:us[j+n-2]? =some u2):
  ∀(r:Nat) (d rest:Int),W≤rest+r*2147483648→(0≤d∧d≤W+1)→(0≤rest∧rest<W)→d*v1+rest=top→T<(d+1)*Y→
  ∃d',(∀k m,r<m→qcQ k m q bits (n:Int) u v (j:Int) d rest qs us vs=some (q,bits,(n:Int),u,v,(j:Int),d',qs,us,vs))∧(0≤d'∧d'<W)∧T<(d'+1)*Y∧(d'-1)*Y≤T:=by
 have i1:((n:Int)-1)=((n-1:Nat):Int):=by omega
 have i2:((n:Int)-2)=((n-2:Nat):Int):=by omega
 have i3:((j:Int)+(n:Int)-2)=((j+n-2:Nat):Int):=by omega
 have hWW:W=4294967296:=rfl
 intro r
 induction r with
 | zero=>intro d rest hr hd hrest;omega
 | succ r ih=>
  intro d rest hr hd hrest htop hq
  have down:T<d*Y→(∃d',(∀k m,r<m→qcQ k m q bits (n:Int) u v (j:Int) (d-1) (rest+v1) qs us vs=some (q,bits,(n:Int),u,v,(j:Int),d',qs,us,vs))∧((0≤d'∧d'<W)∧T<(d'+1)*Y∧(d'-1)*Y≤T))∧rest+v1<W∨W≤rest+v1:=by
   intro h
   by_cases hw:W≤rest+v1
   ·exact .inr hw
   ·have hd0:d≠0:=by
     rintro rfl
     have h1:0≤(top*W+u2)*P:=Int.mul_nonneg (Int.add_nonneg (Int.mul_nonneg (by omega) (by omega)) hu2.1) (by omega)
     omega
    exact .inl ⟨ih (d-1) (rest+v1) (by omega) (by omega) (by omega) (by rw [Int.sub_mul];omega) (by rw [Int.sub_add_cancel];exact h),by omega⟩
  have hPW:0≤W*P:=Int.mul_nonneg (by decide) (by omega)
  have hY0:0≤Y:=by
   have:0≤(v1*W+v2)*P:=Int.mul_nonneg (Int.add_nonneg (Int.mul_nonneg (by omega) (by decide)) hv2.1) (by omega)
   omega
  have out:T<d*Y→W≤rest+v1→d≤W+1→(0≤d-1∧d-1<W)∧T<(d-1+1)*Y∧(d-1-1)*Y≤T:=by
   intro h1 h2 _
   have hd0:d≠0:=by
    rintro rfl
    have h1:0≤(top*W+u2)*P:=Int.mul_nonneg (Int.add_nonneg (Int.mul_nonneg (by omega) (by omega)) hu2.1) (by omega)
    omega
   have hdl:d≠W+1:=by
    rintro rfl
    rw [Int.add_mul,Int.one_mul,Int.mul_comm W v1] at htop
    omega
   have:=qqi hP hY hT hy.1 hy.2 ht.1 hv2 hu2.1 (d:=d-1) (rest:=rest+v1) (by omega) (by rw [Int.sub_mul];omega) h2
   refine⟨by omega,by rw [Int.sub_add_cancel];exact h1,?_⟩
   rw [Int.sub_mul (d-1)]
   omega
  unfold W at hv1 hv2 hu2 hd hrest
  by_cases hdW:d≤4294967295
  ·have hm2:=qnL (x:=d) (y:=v2) (by omega) hv2
   have hor:=qna (x:=rest) (y:=u2) hrest hu2
   by_cases ht2:rest*4294967296+u2<d*v2
   ·have hdn:=qqh hP hY hT hy.1 ht.2 hd.1 htop ht2
    rcases down hdn with ⟨⟨d',q1,q2⟩,hw⟩ | hw
    ·refine⟨d',fun k m hm=> ?_,q2⟩
     have hd0:d≠0:=by
      rintro rfl
      rw [Int.zero_mul] at ht2
      omega
     unfold W at hw
     obtain⟨m,rfl⟩:∃q,m=q+1:=⟨m-1,by omega⟩
     rw [←q1 k m (by omega)]
     show qbG k (qcQ k m) _ _ _ _ _ _ _ _ _ _ _=_
     unfold qbG
     simp -implicitDefEqProofs (maxSteps:=2000000) (disch:=omega) only [ps,↓reduceIte,reduceCtorEq,Int.reduceLT,Int.reduceLE,Int.reduceEq,Nat.reduceLT,Nat.reduceLeDiff,Nat.reduceEqDiff,Int.reduceNeg,qc,i1,i2,i3,g1,g2,g3,hor]
    ·refine⟨d-1,fun k m hm=> ?_,out hdn hw (by unfold W;omega)⟩
     unfold W at hw
     have hd0:d≠0:=by
      rintro rfl
      rw [Int.zero_mul] at ht2
      omega
     obtain⟨m,rfl⟩:∃q,m=q+1:=⟨m-1,by omega⟩
     show qbG k (qcQ k m) _ _ _ _ _ _ _ _ _ _ _=_
     unfold qbG
     simp -implicitDefEqProofs (maxSteps:=2000000) (disch:=omega) only [ps,↓reduceIte,reduceCtorEq,Int.reduceLT,Int.reduceLE,Int.reduceEq,Nat.reduceLT,Nat.reduceLeDiff,Nat.reduceEqDiff,Int.reduceNeg,qc,i1,i2,i3,g1,g2,g3,hor]
   ·refine⟨d,fun k m hm=> ?_,⟨hd.1,by unfold W;omega⟩,hq,qqj hP hY hT hy.1 hy.2 ht.1 hv2.1 (by omega) ⟨hd.1,by unfold W;omega⟩ htop (by rw [hWW];omega)⟩
    obtain⟨m,rfl⟩:∃q,m=q+1:=⟨m-1,by omega⟩
    show qbG k (qcQ k m) _ _ _ _ _ _ _ _ _ _ _=_
    unfold qbG
    simp -implicitDefEqProofs (maxSteps:=2000000) (disch:=omega) only [ps,↓reduceIte,reduceCtorEq,Int.reduceLT,Int.reduceLE,Int.reduceEq,Nat.reduceLT,Nat.reduceLeDiff,Nat.reduceEqDiff,Int.reduceNeg,qc,i1,i2,i3,g1,g2,g3,hor]
  ·have hdn:T<d*Y:=by
    have:=Int.mul_le_mul_of_nonneg_right (show W≤d by unfold W;omega) hY0
    omega
   rcases down hdn with ⟨⟨d',q1,q2⟩,hw⟩ | hw
   ·refine⟨d',fun k m hm=> ?_,q2⟩
    unfold W at hw
    obtain⟨m,rfl⟩:∃q,m=q+1:=⟨m-1,by omega⟩
    rw [←q1 k m (by omega)]
    show qbG k (qcQ k m) _ _ _ _ _ _ _ _ _ _ _=_
    unfold qbG
    simp -implicitDefEqProofs (maxSteps:=2000000) (disch:=omega) only [ps,↓reduceIte,reduceCtorEq,Int.reduceLT,Int.reduceLE,Int.reduceEq,Nat.reduceLT,Nat.reduceLeDiff,Nat.reduceEqDiff,Int.reduceNeg,qc,i1,i2,i3,g1,g2,g3]
   ·refine⟨d-1,fun k m hm=> ?_,out hdn hw (by unfold W;omega)⟩
    unfold W at hw
    obtain⟨m,rfl⟩:∃q,m=q+1:=⟨m-1,by omega⟩
    show qbG k (qcQ k m) _ _ _ _ _ _ _ _ _ _ _=_
    unfold qbG
    simp -implicitDefEqProofs (maxSteps:=2000000) (disch:=omega) only [ps,↓reduceIte,reduceCtorEq,Int.reduceLT,Int.reduceLE,Int.reduceEq,Nat.reduceLT,Nat.reduceLeDiff,Nat.reduceEqDiff,Int.reduceNeg,qc,i1,i2,i3,g1,g2,g3]

theorem qzu {l:List Int} {n:Nat} {a b:Int} (hl:l.length=n+2) (ha:l[n]? =some a) (hb:l[n+1]? =some b):V W l=(b*W+a)*W^n+V W (l.take n):=by
 rw [qff l n (by omega),qcb ha,qcb hb,List.drop_of_length_le (by omega)]
 simp only [V]
 grind
theorem qtf {T Y d:Int} (hY:0<Y) (h1:T<(d+1)*Y) (h2:(d-1)*Y≤T):d=T / Y∨d=T / Y+1:=by
 have a:=Int.emod_add_mul_ediv T Y
 have b:=Int.emod_nonneg T (show Y≠0 by omega)
 have c:=Int.emod_lt_of_pos T hY
 have h3:T / Y<d+1:=by
  rcases Int.lt_or_le (T / Y) (d+1)with h | h
  ·exact h
  ·have:=Int.mul_le_mul_of_nonneg_right h (show 0≤Y by omega)
   rw [Int.mul_comm (T / Y)] at this
   omega
 have h4:d-1<T / Y+1:=by
  rcases Int.lt_or_le (d-1) (T / Y+1)with h | h
  ·exact h
  ·have:=Int.mul_le_mul_of_nonneg_right h (show 0≤Y by omega)
   rw [Int.add_mul,Int.mul_comm (T / Y),Int.one_mul] at this
   omega
 omega

theorem qrH (us vs:List Int) (n i:Nat) (hn:2≤n) (hnv:n≤vs.length) (dv:Dg W vs) (du:Dg W us) (hi:i+n+1≤us.length) (hlt:V W us<V W (vs.take n)*W^(i+1))
  {v1 v2 u2 x1 x0:Int} (g1:vs[n-1]? =some v1) (g2:vs[n-2]? =some v2) (g3:us[i+n-2]? =some u2) (g4:us[i+n-1]? =some x1) (g5:us[i+n]? =some x0):
  ∃P y t,0<P∧V W (vs.take n)=(v1*W+v2)*P+y∧V W ((us.drop i).take (n+1))=((x0*W+x1)*W+u2)*P+t∧(0≤y∧y<P)∧(0≤t∧t<P)∧
   V W ((us.drop i).take (n+1))<W*V W (vs.take n)∧x0*W+x1<v1*W+W∧
   (∀us' q,us'.length=us.length→Dg W us'→V W us'+W^i*(q*V W (vs.take n))=V W us→(∀p,p<i∨i+(n+1)≤p→us'[p]? =us[p]?)→V W ((us.drop i).take (n+1))<(q+1)*V W (vs.take n)→V W us'<V W (vs.take n)*W^i):=by
 have hP:(0:Int)<W^(n-2):=Int.pow_pos (by decide)
 have hPi:(0:Int)<W^i:=Int.pow_pos (by decide)
 have lv:(vs.take n).length=n:=by rw [List.length_take];omega
 have lw:((us.drop i).take (n+1)).length=n+1:=by rw [List.length_take,List.length_drop];omega
 have gv2:(vs.take n)[n-2]? =some v2:=by rw [List.getElem?_take_of_lt (by omega)];exact g2
 have gv1:(vs.take n)[n-2+1]? =some v1:=by rw [List.getElem?_take_of_lt (by omega),show n-2+1=n-1 by omega];exact g1
 have hY:=qzu (l:=vs.take n) (n:=n-2) (by omega) gv2 gv1
 have gw:∀p,p<n+1→((us.drop i).take (n+1))[p]? =us[i+p]? :=fun p hp=>by rw [List.getElem?_take_of_lt hp,List.getElem?_drop]
 have w2:((us.drop i).take (n+1))[n-2]? =some u2:=by rw [gw _ (by omega),show i+(n-2)=i+n-2 by omega];exact g3
 have w1:((us.drop i).take (n+1))[n-2+1]? =some x1:=by rw [gw _ (by omega),show i+(n-2+1)=i+n-1 by omega];exact g4
 have w0:((us.drop i).take (n+1))[n-2+1+1]? =some x0:=by rw [gw _ (by omega),show i+(n-2+1+1)=i+n by omega];exact g5
 have hT:V W ((us.drop i).take (n+1))=((x0*W+x1)*W+u2)*W^(n-2)+V W (((us.drop i).take (n+1)).take (n-2)):=by
  rw [qff ((us.drop i).take (n+1)) (n-2) (by omega),qcb w2,qcb w1,qcb w0,List.drop_of_length_le (show((us.drop i).take (n+1)).length≤n-2+1+1+1 by omega)]
  simp only [V]
  grind
 have dw:Dg W ((us.drop i).take (n+1)):=(du.drop i).take _
 have y0:=qr (B:=W) (by decide) ((dv.take n).take (n-2))
 have y1:=qeH (B:=W) (by decide) ((dv.take n).take (n-2))
 have t0:=qr (B:=W) (by decide) (dw.take (n-2))
 have t1:=qeH (B:=W) (by decide) (dw.take (n-2))
 rw [List.length_take,lv,Nat.min_eq_left (by omega)] at y1
 rw [List.length_take,lw,Nat.min_eq_left (by omega)] at t1
 have hY1:=qeH (B:=W) (by decide) (dv.take n)
 rw [lv] at hY1
 have hY0:=qr (B:=W) (by decide) (dv.take n)
 have T0:=qr (B:=W) (by decide) dw
 have hwin:=qmM us i (n+1) (by omega)
 have lo0:=qr (B:=W) (by decide) (du.take i)
 have lo1:=qeH (B:=W) (by decide) (du.take i)
 rw [List.length_take,Nat.min_eq_left (by omega)] at lo1
 have hi0:=qr (B:=W) (by decide) (du.drop (i+(n+1)))
 have hpi:W^(i+1)=W^i*W:=Int.pow_succ ..
 have hpn:W^(n+1)=W^n*W:=Int.pow_succ ..
 have hPn:(0:Int)<W^n:=Int.pow_pos (by decide)
 generalize hYY:V W (vs.take n)=Y at*
 generalize hTT:V W ((us.drop i).take (n+1))=T at*
 generalize hhi:V W (us.drop (i+(n+1)))=hi at*
 have hin:T+W^(n+1)*hi<W*Y:=by
  have h1:W^i*(T+W^(n+1)*hi)<W^i*(W*Y):=by
   rw [hpi,Int.mul_comm Y,Int.mul_assoc] at hlt
   omega
  exact Int.lt_of_mul_lt_mul_left h1 (by omega)
 have hh0:hi=0:=by
  rcases(by omega:hi=0∨1≤hi)with h | h
  ·exact h
  ·have h1:W^(n+1)*1≤W^(n+1)*hi:=Int.mul_le_mul_of_nonneg_left h (by rw [hpn];exact Int.mul_nonneg (by omega) (by decide))
   have h2:Y*W<W^n*W:=Int.mul_lt_mul_of_pos_right hY1 (by decide)
   rw [Int.mul_comm Y] at h2
   omega
 subst hh0
 rw [Int.mul_zero,Int.add_zero] at hin hwin
 refine⟨W^(n-2),_,_,hP,hY,hT,⟨y0,y1⟩,⟨t0,t1⟩,hin,?_,?_⟩
 ·have b2:=dv.get g2
  have b3:=du.get g3
  have h1:(v1*W+v2+1)*W^(n-2)=(v1*W+v2)*W^(n-2)+W^(n-2):=by rw [Int.add_mul,Int.one_mul]
  have h2:Y≤(v1*W+v2+1)*W^(n-2):=by omega
  have h3:W*Y≤W*((v1*W+v2+1)*W^(n-2)):=Int.mul_le_mul_of_nonneg_left h2 (by decide)
  have h4:0≤u2*W^(n-2):=Int.mul_nonneg b3.1 (by omega)
  have h5:(W*W^(n-2))*(x0*W+x1)<(W*W^(n-2))*(v1*W+v2+1):=by
   have e1:((x0*W+x1)*W+u2)*W^(n-2)=(W*W^(n-2))*(x0*W+x1)+u2*W^(n-2):=by grind
   have e2:W*((v1*W+v2+1)*W^(n-2))=(W*W^(n-2))*(v1*W+v2+1):=by grind
   omega
  have:=Int.lt_of_mul_lt_mul_left h5 (Int.mul_nonneg (by decide) (by omega))
  omega
 ·intro us' q hl' d' e' ho hq
  have hw:=qnQ (l:=us') (m:=us) (u0:=i) (n:=n+1) (by omega) (by omega) ho (x:=q*Y) (y:=0) (by rw [Int.mul_zero,Int.add_zero];exact e')
  rw [hTT,Int.add_zero] at hw
  have hwin':=qmM us' i (n+1) (by omega)
  obtain⟨s1,s2⟩:=qnP ho
  rw [s1,s2,hhi,Int.mul_zero,Int.add_zero] at hwin'
  rw [Int.add_mul,Int.one_mul] at hq
  have h1:W^i*(V W ((us'.drop i).take (n+1))+1)≤W^i*Y:=Int.mul_le_mul_of_nonneg_left (by omega) (by omega)
  rw [Int.mul_add,Int.mul_one] at h1
  rw [Int.mul_comm Y]
  omega

theorem qtg {a b Pj Y d q0 Vq A:Int} (h:a+Pj*(d*Y)=b) (e:b+Y*(Pj*W)*Vq=A):a+Y*Pj*(d+W*Vq)=A:=by
 subst e;rw [←h];grind
set_option maxHeartbeats 1000000 in
theorem qrI (vs:List Int) (n:Nat) (bits:Int) (hn:2≤n) (hvl:n≤vs.length) (dv:Dg W vs) {v1 v2:Int} (g1:vs[n-1]? =some v1) (g2:vs[n-2]? =some v2) (hv1:2147483648≤v1) (q u:Nat) (hub:u≤1000000000) (A:Int):
  ∀(e:Nat) (qs us:List Int),e+n≤u→us.length=u→qs.length=q→e≤q→Dg W us→Dg W qs→V W us<V W (vs.take n)*W^e→V W us+V W (vs.take n)*W^e*V W (qs.drop e)=A→
  ∃qs' us',(∃K,∀k m,K≤k→e<m→qfN k m q bits (n:Int) u n ((e:Int)-1) qs us vs=some (q,bits,(n:Int),u,qs',us',vs))∧qs'.length=q∧us'.length=u∧Dg W qs'∧Dg W us'∧
   V W us'<V W (vs.take n)∧V W us'+V W (vs.take n)*V W qs'=A:=by
 intro e
 induction e with
 | zero=>
  intro qs us he hul hql heq du dq hlt hA
  refine⟨qs,us,⟨0,fun k m hk hm=> ?_⟩,hql,hul,dq,du,by simpa using hlt,by simpa using hA⟩
  obtain⟨m,rfl⟩:∃q,m=q+1:=⟨m-1,by omega⟩
  show qe1 k (qfN k m) _ _ _ _ _ _ _ _ _=_
  unfold qe1
  simp -implicitDefEqProofs (maxSteps:=2000000) (disch:=omega) only [ps,↓reduceIte,reduceCtorEq,Int.reduceLT,Int.reduceLE,Int.reduceEq,Nat.reduceLT,Nat.reduceLeDiff,Nat.reduceEqDiff,Int.reduceNeg,qc,Int.zero_sub,Int.natCast_zero]
 | succ j ih=>
  intro qs us he hul hql heq du dq hlt hA
  obtain⟨u2,g3⟩:=qI (show j+n-2<us.length by omega)
  obtain⟨x1,g4⟩:=qI (show j+n-1<us.length by omega)
  obtain⟨x0,g5⟩:=qI (show j+n<us.length by omega)
  obtain⟨P,y,t,hP,hY,hT,hy,ht,hTY,htb,hend⟩:=qrH us vs n j hn hvl dv du (by omega) hlt g1 g2 g3 g4 g5
  have b1:=dv.get g1
  have b2:=dv.get g2
  have b3:=du.get g3
  have b4:=du.get g4
  have b5:=du.get g5
  have hY0:0<V W (vs.take n):=by
   rw [hY]
   have:0<(v1*W+v2)*P:=Int.mul_pos (by unfold W;omega) hP
   omega
  have hT0:=qr (B:=W) (by decide) ((du.drop j).take (n+1))
  obtain⟨d0,hd0⟩:∃d0,(x0*W+x1) / v1=d0:=⟨_,rfl⟩
  obtain⟨r0,hr0⟩:∃r0,(x0*W+x1) % v1=r0:=⟨_,rfl⟩
  have hdm:=Int.emod_add_mul_ediv (x0*W+x1) v1
  have hm0:=Int.emod_nonneg (x0*W+x1) (show v1≠0 by omega)
  have hm1:=Int.emod_lt_of_pos (x0*W+x1) (show 0<v1 by omega)
  rw [hr0,hd0] at hdm
  rw [hr0] at hm0 hm1
  have htop0:0≤x0*W+x1:=by unfold W at *;omega
  have hd00:0≤d0:=by rw [←hd0];exact Int.ediv_nonneg htop0 (by omega)
  have hd01:d0≤W+1:=by
   have h1:d0<W+2:=by
    rw [←hd0]
    refine Int.ediv_lt_of_lt_mul (by omega) ?_
    rw [Int.add_mul,Int.mul_comm W v1]
    unfold W at*
    omega
   omega
  have hTd:V W ((us.drop j).take (n+1))<(d0+1)*V W (vs.take n):=by
   have h1:(x0*W+x1+1)≤(d0+1)*v1:=by rw [Int.add_mul,Int.one_mul,Int.mul_comm d0];omega
   have h2:(x0*W+x1+1)*(W*P)≤(d0+1)*v1*(W*P):=Int.mul_le_mul_of_nonneg_right h1 (Int.mul_nonneg (by decide) (by omega))
   have h3:(u2+1)*P≤W*P:=Int.mul_le_mul_of_nonneg_right (by omega) (by omega)
   have h4:0≤(d0+1)*(v2*P+y):=Int.mul_nonneg (by omega) (Int.add_nonneg (Int.mul_nonneg (by omega) (by omega)) hy.1)
   rw [hY,hT]
   have e1:(d0+1)*((v1*W+v2)*P+y)=(d0+1)*v1*(W*P)+(d0+1)*(v2*P+y):=by grind
   have e2:((x0*W+x1)*W+u2)*P+t=(x0*W+x1+1)*(W*P)-W*P+u2*P+t:=by grind
   have e3:(u2+1)*P=u2*P+P:=by grind
   omega
  obtain⟨d',hg,hd',hq1,hq2⟩:=qqk q u n j n bits qs us vs hP hY hT hy ht ⟨hv1,b1.2⟩ b2 b3 hTY htb hn (Nat.le_refl n) (by omega) hub g1 g2 g3 2 d0 r0 (by unfold W;omega) ⟨hd00,hd01⟩ ⟨hm0,by omega⟩ (by rw [Int.mul_comm];omega) hTd
  have hdig:=qtf hY0 hq1 hq2
  have q0:0≤V W ((us.drop j).take (n+1)) / V W (vs.take n):=Int.ediv_nonneg hT0 (by omega)
  have qm:=Int.emod_add_mul_ediv (V W ((us.drop j).take (n+1))) (V W (vs.take n))
  have qa:=Int.emod_nonneg (V W ((us.drop j).take (n+1))) (show V W (vs.take n)≠0 by omega)
  have qb:=Int.emod_lt_of_pos (V W ((us.drop j).take (n+1))) hY0
  have ql:V W ((us.drop j).take (n+1)) / V W (vs.take n)<W:=Int.ediv_lt_of_lt_mul hY0 hTY
  obtain⟨dq0,hdq0⟩:∃x,V W ((us.drop j).take (n+1)) / V W (vs.take n)=x:=⟨_,rfl⟩
  rw [hdq0] at hdig q0 qm ql
  rw [Int.mul_comm] at qm
  have hq4:V W ((us.drop j).take (n+1))<(dq0+1)*V W (vs.take n):=by rw [Int.add_mul,Int.one_mul];omega
  obtain⟨us',⟨K,ht'⟩,l',du',e',o'⟩:=qvf us vs j n d' dq0 dv du hvl (by omega) (by omega) hd' q0 (by omega) hq4 hdig
  have hfin:=hend us' dq0 l' du' e' o' hq4
  obtain⟨xq,gq⟩:=qI (show j<qs.length by omega)
  have hdrop:(qs.set j dq0).drop j=dq0::qs.drop (j+1):=by
   rw [List.drop_eq_getElem_cons (by simp;omega)]
   simp [List.drop_set_of_lt]
  obtain⟨qs'',us'',⟨K2,hr⟩,r1,r2,r3,r4,r5,r6⟩:=ih (qs.set j dq0) us' (by omega) (by omega) (by simpa using hql) (by omega) du' (dq.set j ⟨q0,ql⟩) hfin (by
   rw [hdrop]
   simp only [V]
   rw [show W^(j+1)=W^j*W from Int.pow_succ ..] at hA
   exact qtg (q0:=0) e' hA)
  refine⟨qs'',us'',⟨max K K2+3,fun k m hk hm=> ?_⟩,r1,r2,r3,r4,r5,r6⟩
  obtain⟨m,rfl⟩:∃q,m=q+1:=⟨m-1,by omega⟩
  rw [←hr k m (by omega) (by omega)]
  have hg':=hg k k (by omega)
  have ht2:=ht' k (by omega)
  unfold W at b1 b2 b3 b4 b5 hd'
  have hor:=qna (x:=x0) (y:=x1) b5 b4
  have hjj:((j+1:Nat):Int)-1=(j:Int):=by omega
  have i1:((n:Int)-1)=((n-1:Nat):Int):=by omega
  have i4:((j:Int)+(n:Int))=((j+n:Nat):Int):=by omega
  have i5:(((j+n:Nat):Int)-1)=((j+n-1:Nat):Int):=by omega
  have i6:(((j+n:Nat):Int)+1)=((j+n+1:Nat):Int):=by omega
  have i7:j+n+1-j=n+1:=by omega
  have dd:(x0*4294967296+x1).tdiv v1=d0:=by rw [qc6 htop0];exact hd0
  have rr:(x0*4294967296+x1).tmod v1=r0:=by rw [qc7 htop0];exact hr0
  unfold W at hd01
  show qe1 k (qfN k m) _ _ _ _ _ _ _ _ _=_
  unfold qe1
  simp -implicitDefEqProofs (maxSteps:=2000000) (disch:=omega) only [ps,↓reduceIte,reduceCtorEq,Int.reduceLT,Int.reduceLE,Int.reduceEq,Nat.reduceLT,Nat.reduceLeDiff,Nat.reduceEqDiff,Int.reduceNeg,qc,hjj,i1,i4,i5,i6,i7,g1,g4,g5,hor,dd,rr,hg',ht2,gq]

theorem qrJ (a b:List Int) (hb:b.length≤1000000000) {x:Int} (g:b[b.length-1]? =some x) (hx:1≤x):
  ∀(e s:Nat),s+e=32→x*2^s<4294967296→∃s':Nat,(∀k m,e<m→qeC k m a b (s:Int)=some (a,b,(s':Int)))∧s'≤31∧x*2^s'<4294967296∧2147483648≤x*2^s':=by
 have hb1:0<b.length:=by have:=(List.getElem?_eq_some_iff.1 g).1;omega
 intro e
 induction e with
 | zero=>
  intro s hs hlt
  have:s=32:=by omega
  subst this
  omega
 | succ e ih=>
  intro s hs hlt
  have hp:(0:Int)<2^s:=Int.pow_pos (by decide)
  have h0:0≤x*2^s:=Int.mul_nonneg (by omega) (by omega)
  have hmin:min s 32=s:=by omega
  have i1:((b.length:Int)-1)=((b.length-1:Nat):Int):=by omega
  have i2:((s:Int)+1)=((s+1:Nat):Int):=rfl
  by_cases h:x*2^s<2147483648
  ·obtain⟨s',q1,q2⟩:=ih (s+1) (by omega) (by rw [Int.pow_succ,←Int.mul_assoc];omega)
   refine⟨s',fun k m hm=> ?_,q2⟩
   obtain⟨m,rfl⟩:∃q,m=q+1:=⟨m-1,by omega⟩
   rw [←q1 k m (by omega)]
   have hz:(x*2^s).fdiv 2147483648=0:=by rw [qcy _ (by decide)];omega
   show qe0 k (qeC k m) _ _ _=_
   unfold qe0
   simp -implicitDefEqProofs (maxSteps:=2000000) (disch:=omega) only [ps,↓reduceIte,reduceCtorEq,Int.reduceLT,Int.reduceLE,Int.reduceEq,Nat.reduceLT,Nat.reduceLeDiff,Nat.reduceEqDiff,Int.reduceNeg,qc,i1,i2,g,hmin,hz]
  ·refine⟨s,fun k m hm=> ?_,by omega,hlt,by omega⟩
   obtain⟨m,rfl⟩:∃q,m=q+1:=⟨m-1,by omega⟩
   have hz:¬((x*2^s).fdiv 2147483648=0):=by rw [qcy _ (by decide)];omega
   show qe0 k (qeC k m) _ _ _=_
   unfold qe0
   simp -implicitDefEqProofs (maxSteps:=2000000) (disch:=omega) only [ps,↓reduceIte,reduceCtorEq,Int.reduceLT,Int.reduceLE,Int.reduceEq,Nat.reduceLT,Nat.reduceLeDiff,Nat.reduceEqDiff,Int.reduceNeg,qc,i1,i2,g,hmin,hz]
theorem qox {S T W' u u1 d m d1 m1 Pj Vr Vu m0:Int} (hu:u=m+S*d) (hST:S*T=W') (e:S*Vr+m0=Vu+m*Pj):
  S*(Vr+Pj*(d+m1*T))+m0=Vu+Pj*u+m1*(Pj*W'):=by
 subst hu;subst hST;grind
theorem qnR {s:Nat} (hs:s≤31) {x x1:Int} (hx:0≤x∧x<W) (hx1:0≤x1∧x1<W):
  IntKind.u32.wrap (((BitVec.toNat ((BitVec.ofInt 32 (Int.fdiv x ((2:Int)^(min (Int.toNat ((s:Nat):Int)) 32)))) ||| (BitVec.ofInt 32 (IntKind.u32.wrap (IntKind.u64.wrap ((IntKind.u64.wrap x1)*((2:Int)^(min (Int.toNat (IntKind.u64.wrap ((32:Int)-((s:Nat):Int)))) 64)))))))):Nat):Int)
   =x / 2^s+x1 % 2^s*2^(32-s)∧0≤x / 2^s+x1 % 2^s*2^(32-s)∧x / 2^s+x1 % 2^s*2^(32-s)<4294967296:=by
 unfold W at hx hx1
 have hp:(0:Int)<2^s:=Int.pow_pos (by decide)
 have hq:(0:Int)<2^(32-s):=Int.pow_pos (by decide)
 have hpq:(2:Int)^s*2^(32-s)=4294967296:=by rw [←Int.pow_add,show s+(32-s)=32 by omega];rfl
 have hq32:(2:Int)^(32-s)≤4294967296:=by
  have:(2:Int)^(32-s)≤2^32:=by exact_mod_cast Nat.pow_le_pow_right (by decide:0<2) (by omega:32-s≤32)
  simpa using this
 have e1:min (Int.toNat ((s:Nat):Int)) 32=s:=by omega
 have e2:IntKind.u64.wrap ((32:Int)-((s:Nat):Int))=((32-s:Nat):Int):=by rw [qbM (by omega)];omega
 have e3:min (Int.toNat ((32-s:Nat):Int)) 64=32-s:=by omega
 rw [e1,e2,e3,qbM (x:=x1) (by omega),qgz,qcy _ (by omega)]
 have hd0:0≤x / 2^s:=Int.ediv_nonneg hx.1 (by omega)
 have hd1:x / 2^s<2^(32-s):=Int.ediv_lt_of_lt_mul hp (by rw [Int.mul_comm,hpq];exact hx.2)
 have hm0:=Int.emod_nonneg x1 (show(2:Int)^s≠0 by omega)
 have hm1:=Int.emod_lt_of_pos x1 hp
 have hmod:x1*2^(32-s) % 4294967296=2^(32-s)*(x1 % 2^s):=by
  rw [←hpq,Int.mul_comm x1,Int.mul_comm (2^s),Int.mul_emod_mul_of_pos _ _ hq]
 have hb:2^(32-s)*(x1 % 2^s+1)≤2^(32-s)*2^s:=Int.mul_le_mul_of_nonneg_left (by omega) (by omega)
 rw [Int.mul_comm (2^(32-s)) (2^s),hpq,Int.mul_add,Int.mul_one] at hb
 have hb0:0≤2^(32-s)*(x1 % 2^s):=Int.mul_nonneg (by omega) hm0
 rw [hmod,qzs (32-s) (by omega) ⟨hd0,hd1⟩ ⟨hb0,by omega⟩ _ rfl,Int.mul_comm (x1 % 2^s),qfH (by omega)]
 exact⟨rfl,by omega,by omega⟩
theorem qnS (q u n s:Nat) (hs:s≤31) (qs us:List Int) (du:Dg W us) (hul:us.length=u) (hnu:n+1≤u) (hu:u≤1000000000):
  ∀(d i:Nat) (rs:List Int),i+d=n→rs.length=n→Dg W rs→2^s*V W (rs.take i)+us[0]?.getD 0 % 2^s=V W (us.take i)+us[i]?.getD 0 % 2^s*W^i→
  ∃rs',(∀k m,d<m→qeD k m q n (s:Int) u (n:Int) (i:Int) qs rs us=some (q,n,qs,rs',us))∧rs'.length=n∧Dg W rs'∧2^s*V W rs'+us[0]?.getD 0 % 2^s=V W (us.take n)+us[n]?.getD 0 % 2^s*W^n:=by
 intro d
 induction d with
 | zero=>
  intro i rs hi hl hd e
  have:i=n:=by omega
  subst this
  rw [List.take_of_length_le (l:=rs) (by omega)] at e
  refine⟨rs,fun k m hm=> ?_,hl,hd,e⟩
  obtain⟨m,rfl⟩:∃q,m=q+1:=⟨m-1,by omega⟩
  show qe2 k (qeD k m) _ _ _ _ _ _ _ _ _=_
  unfold qe2
  simp -implicitDefEqProofs (maxSteps:=2000000) (disch:=omega) only [ps,↓reduceIte,reduceCtorEq,Int.reduceLT,Int.reduceLE,Int.reduceEq,Nat.reduceLT,Nat.reduceLeDiff,Nat.reduceEqDiff,Int.reduceNeg,qc]
 | succ d ih=>
  intro i rs hi hl hd e
  obtain⟨x,hx⟩:=qI (show i<us.length by omega)
  obtain⟨x1,hx1⟩:=qI (show i+1<us.length by omega)
  obtain⟨x4,hx4⟩:=qI (show i<rs.length by omega)
  have b1:=du.get hx
  have b2:=du.get hx1
  obtain⟨w1,w2,w3⟩:=qnR hs b1 b2
  obtain⟨word,hword⟩:∃w,x / 2^s+x1 % 2^s*2^(32-s)=w:=⟨_,rfl⟩
  rw [hword] at w1 w2 w3
  have hpq:(2:Int)^s*2^(32-s)=W:=by rw [←Int.pow_add,show s+(32-s)=32 by omega];rfl
  obtain⟨rs',q1,q2,q3,q4⟩:=ih (i+1) (rs.set i word) (by omega) (by simpa using hl) (hd.set i ⟨w2,w3⟩) (by
   rw [qml _ _ _ (by omega),qg5,List.length_take,Nat.min_eq_left (by omega),qdU hx,hx1,Option.getD_some,show W^(i+1)=W^i*W from Int.pow_succ ..,←hword]
   rw [hx,Option.getD_some] at e
   exact qox (u1:=0) (d1:=0) (by rw [Int.emod_add_mul_ediv]) hpq e)
  refine⟨rs',fun k m hm=> ?_,q2,q3,q4⟩
  obtain⟨m,rfl⟩:∃q,m=q+1:=⟨m-1,by omega⟩
  rw [←q1 k m (by omega)]
  have i2:((i:Int)+1)=((i+1:Nat):Int):=rfl
  have e1:min (Int.toNat ((s:Nat):Int)) 32=min s 32:=by omega
  have w4:IntKind.u64.wrap ((32:Int)-((s:Nat):Int))=((32-s:Nat):Int):=by rw [qbM (by omega)];omega
  have w5:IntKind.u64.wrap ((32:Int)-((s:Nat):Int))=(32:Int)-((s:Nat):Int):=qbM (by omega)
  unfold W at b1 b2
  rw [e1,w5,qbM (x:=x1) (by omega)] at w1
  rw [qfH (by omega)] at w1
  show qe2 k (qeD k m) _ _ _ _ _ _ _ _ _=_
  unfold qe2
  simp -implicitDefEqProofs (maxSteps:=2000000) (disch:=omega) only [ps,↓reduceIte,reduceCtorEq,Int.reduceLT,Int.reduceLE,Int.reduceEq,Nat.reduceLT,Nat.reduceLeDiff,Nat.reduceEqDiff,Int.reduceNeg,qc,i2,hx,hx1,hx4,w1]

theorem qkc:∀ {l:List Int} {n:Nat},Dg W l→V W l<W^n→n≤l.length→V W (l.take n)=V W l∧∀p x,n≤p→l[p]? =some x→x=0:=by
 intro l n d h hl
 have e:=qff (B:=W) l n hl
 have h1:=qr (B:=W) (by decide) (d.take n)
 have h2:=qr (B:=W) (by decide) (d.drop n)
 have hp:(0:Int)<W^n:=Int.pow_pos (by decide)
 have hz:V W (l.drop n)=0:=by
  rcases(by omega:V W (l.drop n)=0∨1≤V W (l.drop n))with h0 | h0
  ·exact h0
  ·have:=Int.mul_le_mul_of_nonneg_left h0 (Int.le_of_lt hp)
   omega
 rw [hz,Int.mul_zero,Int.add_zero] at e
 refine⟨e.symm,fun p x hp hx=> ?_⟩
 have hx2:(l.drop n)[p-n]? =some x:=by rw [List.getElem?_drop,show n+(p-n)=p by omega];exact hx
 have key:∀(m:List Int),Dg W m→V W m=0→∀(i:Nat) (x:Int),m[i]? =some x→x=0:=by
  intro m
  induction m with
  | nil=>intro _ _ i x h;simp at h
  | cons y m ih=>
   intro dm hm i x h
   have hh:=dm.head
   have ht:=qr (B:=W) (by decide) dm.tail
   simp only [V] at hm
   unfold W at*
   cases i with
   | zero=>simp at h;omega
   | succ i=>exact ih dm.tail (by omega) i x (by simpa using h)
 exact key _ (d.drop n) hz _ _ hx2
theorem ql0 {b:List Int} (cb:Cn W b) (h:1≤b.length):∃x,b[b.length-1]? =some x∧1≤x∧x<W∧V W b=V W (b.take (b.length-1))+W^(b.length-1)*x:=by
 rcases(Cn.last cb.1).1 cb.2 with e | ⟨m,x,rfl,hx⟩
 ·rw [e] at h;simp at h
 ·have h1:=cb.1 x (by simp)
  refine⟨x,by simp,by omega,h1.2,?_⟩
  simp [qg5]
set_option maxHeartbeats 1000000 in
theorem qql (a b:List Int) (ca:Cn W a) (cb:Cn W b) (hb:2≤b.length) (hba:b.length≤a.length) (hla:a.length≤10000000):
  ∃q r,Rn (fun k=>qhW k a b) (q,r)∧Dg W q∧Dg W r∧V W b*V W q+V W r=V W a∧V W r<V W b∧q.length≤a.length∧r.length≤b.length:=by
 obtain⟨x,gx,hx1,hxW,hVb⟩:=ql0 cb (by omega)
 obtain⟨s,hs,hs31,hs1,hs2⟩:=qrJ a b (by omega) gx hx1 32 0 (by omega) (by unfold W at hxW;omega)
 obtain⟨us,hus,lus,dus,eus⟩:=qnO a s hs31 ca.1 (by omega)
 obtain⟨vs,hvs,lvs,dvs,evs⟩:=qnO b s hs31 cb.1 (by omega)
 have hS:(0:Int)<2^s:=Int.pow_pos (by decide)
 have hWp:(0:Int)<W^(b.length-1):=Int.pow_pos (by decide)
 have hWn:W^b.length=W^(b.length-1)*W:=by
  obtain⟨c,hc⟩:∃c,b.length=c+1:=⟨b.length-1,by omega⟩
  rw [hc]
  exact Int.pow_succ ..
 have lo0:=qr (B:=W) (by decide) (cb.1.take (b.length-1))
 have lo1:=qeH (B:=W) (by decide) (cb.1.take (b.length-1))
 rw [List.length_take,Nat.min_eq_left (by omega)] at lo1
 have hvlt:V W vs<W^b.length:=by
  rw [evs,hWn]
  have h1:V W b<W^(b.length-1)*(x+1):=by rw [Int.mul_add,Int.mul_one];omega
  have h2:(V W b)*2^s≤(W^(b.length-1)*(x+1)-1)*2^s:=Int.mul_le_mul_of_nonneg_right (by omega) (by omega)
  have hm:(x*2^s+2^s)≤W:=by
   have hpq:(2:Int)^s*2^(32-s)=W:=by rw [←Int.pow_add,show s+(32-s)=32 by omega];rfl
   have h4:2^s*x<2^s*2^(32-s):=by rw [hpq,Int.mul_comm];exact hs1
   have h5:=Int.lt_of_mul_lt_mul_left h4 (by omega)
   have h6:2^s*(x+1)≤2^s*2^(32-s):=Int.mul_le_mul_of_nonneg_left (by omega) (by omega)
   rw [hpq,Int.mul_add,Int.mul_one,Int.mul_comm] at h6
   exact h6
  have h3:W^(b.length-1)*(x*2^s+2^s)≤W^(b.length-1)*W:=Int.mul_le_mul_of_nonneg_left hm (by omega)
  have e1:(W^(b.length-1)*(x+1)-1)*2^s=W^(b.length-1)*(x*2^s+2^s)-2^s:=by grind
  omega
 obtain⟨hvt,hvz⟩:=qkc dvs hvlt (by omega)
 obtain⟨v1,g1⟩:=qI (show b.length-1<vs.length by omega)
 obtain⟨v2,g2⟩:=qI (show b.length-2<vs.length by omega)
 have bv1:=dvs.get g1
 have hv1:2147483648≤v1:=by
  have e1:=qdU (B:=W) g1
  rw [show b.length-1+1=b.length by omega,hvt,evs] at e1
  have t1:=qeH (B:=W) (by decide) (dvs.take (b.length-1))
  rw [List.length_take,Nat.min_eq_left (by omega)] at t1
  have h1:(W^(b.length-1)*x)*2^s≤V W b*2^s:=Int.mul_le_mul_of_nonneg_right (by omega) (by omega)
  have h2:W^(b.length-1)*(x*2^s)<W^(b.length-1)*(v1+1):=by
   rw [Int.mul_add,Int.mul_one,←Int.mul_assoc]
   omega
  have h3:=Int.lt_of_mul_lt_mul_left h2 (by omega)
  omega
 have hY0:0<V W b:=by
  have:W^(b.length-1)*1≤W^(b.length-1)*x:=Int.mul_le_mul_of_nonneg_left hx1 (by omega)
  omega
 have hulen:us.length=a.length+1:=lus
 obtain⟨m,hm⟩:∃m,m=a.length+1-b.length:=⟨_,rfl⟩
 have hm1:m+b.length=a.length+1:=by omega
 have hVbge:W^(b.length-1)≤V W b:=by
  have:W^(b.length-1)*1≤W^(b.length-1)*x:=Int.mul_le_mul_of_nonneg_left hx1 (by omega)
  omega
 have hult:V W us<V W (vs.take b.length)*W^m:=by
  rw [hvt,evs,eus]
  have h1:=qeH (B:=W) (by decide) ca.1
  have h2:W^(b.length-1)*W^m=W^a.length:=by rw [←Int.pow_add,show b.length-1+m=a.length by omega]
  have h3:W^(b.length-1)*W^m≤V W b*W^m:=Int.mul_le_mul_of_nonneg_right hVbge (Int.le_of_lt (Int.pow_pos (by decide)))
  have h4:V W a*2^s<V W b*W^m*2^s:=Int.mul_lt_mul_of_pos_right (by omega) hS
  have e1:V W b*W^m*2^s=V W b*2^s*W^m:=by grind
  omega
 obtain⟨qs,us',⟨K,hmain⟩,lq,lu,dq,du,hur,hA⟩:=qrI vs b.length (s:Int) hb (by omega) dvs g1 g2 hv1 m (a.length+1) (by omega) (V W a*2^s) m (List.replicate m 0) us (by omega) lus (by simp) (Nat.le_refl m) dus (Dg.rep _ (by decide)) hult (by
  rw [List.drop_of_length_le (by simp)];simp [V,eus])
 rw [hvt,evs] at hur hA
 have hlt2:V W us'<W^b.length:=by rw [evs] at hvlt;omega
 obtain⟨hut,huz⟩:=qkc du hlt2 (by omega)
 obtain⟨rs,hback,lr,dr,er⟩:=qnS m (a.length+1) b.length s hs31 qs us' du lu (by omega) (by omega) b.length 0 (List.replicate b.length 0) (by omega) (by simp) (Dg.rep _ (by decide)) (by simp [V])
 obtain⟨xt,hxt⟩:=qI (show b.length<us'.length by omega)
 obtain⟨xl,hxl⟩:=qI (show 0<us'.length by omega)
 have hxt0:=huz b.length xt (Nat.le_refl _) hxt
 rw [hxt,Option.getD_some,hxt0,Int.zero_emod,Int.zero_mul,Int.add_zero,hut,hxl,Option.getD_some] at er
 have hdvd:xl % 2^s=0:=by
  have hpq:(2:Int)^s*2^(32-s)=W:=by rw [←Int.pow_add,show s+(32-s)=32 by omega];rfl
  have e1:V W us'=xl+W*V W (us'.drop 1):=by
   have:=qcb (B:=W) hxl
   simpa using this
  have e2:V W us'=2^s*(V W a-V W b*V W qs):=by
   rw [Int.mul_sub]
   have:V W b*2^s*V W qs=2^s*(V W b*V W qs):=by grind
   rw [Int.mul_comm (2^s) (V W a)]
   omega
  have e3:xl=2^s*(V W a-V W b*V W qs-2^(32-s)*V W (us'.drop 1)):=by
   rw [Int.mul_sub,←e2,←Int.mul_assoc,hpq];omega
  rw [e3];exact Int.mul_emod_right ..
 rw [hdvd,Int.add_zero] at er
 have hfin:V W b*V W qs+V W rs=V W a:=by
  have e1:2^s*(V W b*V W qs+V W rs)=2^s*V W a:=by
   rw [Int.mul_add,er,Int.mul_comm (2^s) (V W a),←hA]
   have:V W b*2^s*V W qs=2^s*(V W b*V W qs):=by grind
   omega
  exact Int.eq_of_mul_eq_mul_left (by omega) e1
 have hrb:V W rs<V W b:=by
  rw [←er,Int.mul_comm] at hur
  exact Int.lt_of_mul_lt_mul_right hur (by omega)
 refine⟨qs,rs,?_,dq,dr,hfin,hrb,by omega,by omega⟩
 obtain⟨K1,hus⟩:=hus
 obtain⟨K2,hvs⟩:=hvs
 refine Rn.up (f:=fun k=>qhW k a b) (Rn.eq (max K (max K1 K2)+a.length+40) fun k hk=> ?_)
 show qjr k a b=_
 have c1:qeC k k a b 0=_:=hs k k (by omega)
 have c2:=hus k (by omega)
 have c3:=hvs k (by omega)
 have c4:=hmain k k (by omega) (by omega)
 have c5:qeD k k m b.length (s:Int) (a.length+1) (b.length:Int) 0 qs _ us'=_:=hback k k (by omega)
 have n1:(((a.length+1:Nat):Int)-(b.length:Int))=(m:Int):=by omega
 have n2:List.take m qs=qs:=List.take_of_length_le (by omega)
 have n3:List.take b.length rs=rs:=List.take_of_length_le (by omega)
 unfold qjr
 simp -implicitDefEqProofs (maxSteps:=2000000) (disch:=omega) only [ps,↓reduceIte,reduceCtorEq,Int.reduceLT,Int.reduceLE,Int.reduceEq,Nat.reduceLT,Nat.reduceLeDiff,Nat.reduceEqDiff,Int.reduceNeg,qc,c1,c2,c3,c4,c5,n1,n2,n3]

theorem qkA {X Y Q R:Int} (h:Y*Q+R=X) (h0:0≤R) (h1:R<Y):Q=X / Y∧R=X % Y:=by
 subst h
 have hY:Y≠0:=by omega
 constructor
 ·rw [Int.add_comm,Int.add_mul_ediv_left _ _ hY,Int.ediv_eq_zero_of_lt h0 h1];omega
 ·rw [Int.add_comm,Int.add_mul_emod_self_left,Int.emod_eq_of_lt h0 h1]
theorem qvg (sx sy:Bool) {X Y:Int} (hX:0≤X):(if sx then -X else X).tdiv (if sy then -Y else Y)=if(!(sx == sy))then -(X / Y)else X / Y:=by
 have h:X.tdiv Y=X / Y:=qc6 hX
 cases sx<;>cases sy<;>simp [Int.neg_tdiv,Int.tdiv_neg,h]
theorem qvh (sx sy:Bool) {X Y:Int} (hX:0≤X):(if sx then -X else X).tmod (if sy then -Y else Y)=if sx then -(X % Y)else X % Y:=by
 have h:X.tmod Y=X % Y:=qc7 hX
 cases sx<;>cases sy<;>simp [Int.neg_tmod,Int.tmod_neg,h]
theorem ql1 (a b:List Int) (ca:Cn W a) (cb:Cn W b) (hb:b≠ []) (hla:a.length≤10000000) (hlb:b.length≤10000000):
  ∃q r,Rn (fun k=>qdW k a b) (q,r)∧Dg W q∧Dg W r∧V W q=V W a / V W b∧V W r=V W a % V W b∧q.length≤a.length∧r.length≤a.length:=by
 have hc:=qrD a b (by omega) (by omega) ca cb
 have hb1:1≤b.length:=by
  cases b with
  | nil=>exact absurd rfl hb
  | cons _ _=>simp
 have pa:=qr (B:=W) (by decide) ca.1
 by_cases hlt:V W a<V W b
 ·have:=qkA (X:=V W a) (Y:=V W b) (Q:=0) (R:=V W a) (by omega) pa hlt
  refine⟨[],a,Rn.up (f:=fun k=>qdW k a b) ?_,Dg.nil,ca.1,this.1,this.2,by simp,by omega⟩
  show Rn (fun k=>qdV k a b) _
  unfold qdV
  refine Rn.bind hc ?_
  rw [if_pos hlt]
  (first | (refine Rn.t ?hc ?_;case hc=>simp -implicitDefEqProofs (maxSteps:=2000000) (disch:=omega) only [ps,↓reduceIte,reduceCtorEq,Int.reduceLT,Int.reduceLE,Int.reduceEq,Nat.reduceLT,Nat.reduceLeDiff,Nat.reduceEqDiff,Int.reduceNeg,qc]) | (refine Rn.f ?hc ?_;case hc=>simp -implicitDefEqProofs (maxSteps:=2000000) (disch:=omega) only [ps,↓reduceIte,reduceCtorEq,Int.reduceLT,Int.reduceLE,Int.reduceEq,Nat.reduceLT,Nat.reduceLeDiff,Nat.reduceEqDiff,Int.reduceNeg,qc]))
  exact Rn.pure _
 ·have hge:b.length≤a.length:=by
   refine Nat.le_of_not_lt fun h=>hlt ?_
   exact Cn.len_lt (by decide) ca cb h
  have hcn:¬((if V W a<V W b then -1 else if V W a=V W b then 0 else 1:Int)<0):=by
   rw [if_neg hlt]
   by_cases h:V W a=V W b
   ·rw [if_pos h];decide
   ·rw [if_neg h];decide
  obtain⟨x,gx,hx1,hxW,hVb⟩:=ql0 cb hb1
  by_cases h1:b.length=1
  ·have gx0:b[0]? =some x:=by rw [h1] at gx;exact gx
   have eb:V W b=x:=by rw [hVb,h1];simp [V]
   obtain⟨q,r,s1,s2,s3,s4,s5⟩:=qtc a x (by omega) ca.1 ⟨by omega,hxW⟩
   rw [←eb] at s5
   have:=qkA (X:=V W a) (Y:=V W b) (Q:=V W q) (R:=r) s5.symm s2.1 (by omega)
   refine⟨q,[r],Rn.up (f:=fun k=>qdW k a b) ?_,s4,Dg.cons ⟨s2.1,by omega⟩ Dg.nil,this.1,by simp [V,this.2],by omega,by simp;omega⟩
   show Rn (fun k=>qdV k a b) _
   unfold qdV
   refine Rn.bind hc ?_
   (first | (refine Rn.t ?hc ?_;case hc=>simp -implicitDefEqProofs (maxSteps:=2000000) (disch:=omega) only [ps,↓reduceIte,reduceCtorEq,Int.reduceLT,Int.reduceLE,Int.reduceEq,Nat.reduceLT,Nat.reduceLeDiff,Nat.reduceEqDiff,Int.reduceNeg,qc,hcn]) | (refine Rn.f ?hc ?_;case hc=>simp -implicitDefEqProofs (maxSteps:=2000000) (disch:=omega) only [ps,↓reduceIte,reduceCtorEq,Int.reduceLT,Int.reduceLE,Int.reduceEq,Nat.reduceLT,Nat.reduceLeDiff,Nat.reduceEqDiff,Int.reduceNeg,qc,hcn]))
   (first | (refine Rn.t ?hc ?_;case hc=>simp -implicitDefEqProofs (maxSteps:=2000000) (disch:=omega) only [ps,↓reduceIte,reduceCtorEq,Int.reduceLT,Int.reduceLE,Int.reduceEq,Nat.reduceLT,Nat.reduceLeDiff,Nat.reduceEqDiff,Int.reduceNeg,qc,h1,Int.natCast_one]) | (refine Rn.f ?hc ?_;case hc=>simp -implicitDefEqProofs (maxSteps:=2000000) (disch:=omega) only [ps,↓reduceIte,reduceCtorEq,Int.reduceLT,Int.reduceLE,Int.reduceEq,Nat.reduceLT,Nat.reduceLeDiff,Nat.reduceEqDiff,Int.reduceNeg,qc,h1,Int.natCast_one]))
   refine Rn.at gx0 ?_
   exact Rn.bind (Rn.eq _ s1) (Rn.pure _)
  ·obtain⟨q,r,s1,s2,s3,s4,s5,s6,s7⟩:=qql a b ca cb (by omega) hge hla
   have p:=qr (B:=W) (by decide) s3
   have:=qkA s4 p s5
   refine⟨q,r,Rn.up (f:=fun k=>qdW k a b) ?_,s2,s3,this.1,this.2,by omega,by omega⟩
   show Rn (fun k=>qdV k a b) _
   unfold qdV
   refine Rn.bind hc ?_
   (first | (refine Rn.t ?hc ?_;case hc=>simp -implicitDefEqProofs (maxSteps:=2000000) (disch:=omega) only [ps,↓reduceIte,reduceCtorEq,Int.reduceLT,Int.reduceLE,Int.reduceEq,Nat.reduceLT,Nat.reduceLeDiff,Nat.reduceEqDiff,Int.reduceNeg,qc,hcn]) | (refine Rn.f ?hc ?_;case hc=>simp -implicitDefEqProofs (maxSteps:=2000000) (disch:=omega) only [ps,↓reduceIte,reduceCtorEq,Int.reduceLT,Int.reduceLE,Int.reduceEq,Nat.reduceLT,Nat.reduceLeDiff,Nat.reduceEqDiff,Int.reduceNeg,qc,hcn]))
   (first | (refine Rn.t ?hc ?_;case hc=>simp -implicitDefEqProofs (maxSteps:=2000000) (disch:=omega) only [ps,↓reduceIte,reduceCtorEq,Int.reduceLT,Int.reduceLE,Int.reduceEq,Nat.reduceLT,Nat.reduceLeDiff,Nat.reduceEqDiff,Int.reduceNeg,qc]) | (refine Rn.f ?hc ?_;case hc=>simp -implicitDefEqProofs (maxSteps:=2000000) (disch:=omega) only [ps,↓reduceIte,reduceCtorEq,Int.reduceLT,Int.reduceLE,Int.reduceEq,Nat.reduceLT,Nat.reduceLeDiff,Nat.reduceEqDiff,Int.reduceNeg,qc]))
   exact Rn.bind s1 (Rn.pure _)
theorem qrK (z x0 y0 r0:Bool) (x1 y1:List Int) {x y:Int} (nx:Nm W x0 x1 x) (ny:Nm W y0 y1 y) (hx:x1.length≤10000000) (hy:y1.length≤10000000) (hy0:y1≠ []):
  ∃s q t r,Rn (fun k=>qdH k z x0 x1 y0 y1 r0) (s,q,x0,x1,y0,y1,t,r)∧Nm W s q (x.tdiv y)∧Nm W t r (x.tmod y)∧q.length≤x1.length∧r.length≤x1.length:=by
 obtain⟨q,r,h1,h2,h3,h4,h5,h6,h7⟩:=ql1 x1 y1 nx.c ny.c hy0 hx hy
 have px:=qr (B:=W) (by decide) nx.c.1
 have e1:=qvg x0 y0 (Y:=V W y1) px
 have e2:=qvh x0 y0 (Y:=V W y1) px
 rw [nx.z,ny.z] at e1 e2
 refine⟨sgn (!(x0 == y0)) q,tl q,sgn x0 r,tl r,Rn.up (f:=fun k=>qdH k z x0 x1 y0 y1 r0) ?_,?_,?_,?_,?_⟩
 ·show Rn (fun k=>qeM k z x0 x1 y0 y1 r0) _
  unfold qeM
  exact Rn.bind h1 (Rn.bind (qjY x0 r0 r (by omega)) (Rn.bind (qjY (!(x0 == y0)) z q (by omega)) (Rn.pure _)))
 ·rw [e1];exact qlg h2 h4
 ·rw [e2];exact qlg h3 h5
 ·have:=qcw q;omega
 ·have:=qcw r;omega
theorem qth (m0 m01:Bool) (m1 m11:List Int) (M:Nat) (hM:M≤10000000):∀(N:Nat) (a b:List Int),V W b≤N→Cn W a→Cn W b→a.length≤M→b.length≤M→
  ∃l,(∃K,∀k n,K≤k→N<n→qea k n a b m0 m1 m01 m11=some (l,m0,m1,m01,m11))∧Cn W l∧V W l=Int.gcd (V W a) (V W b)∧l.length≤M:=by
 intro N
 induction N using Nat.strongRecOn with
 | ind N ih=>
  intro a b hN ca cb ha hb
  have pa:=qr (B:=W) (by decide) ca.1
  by_cases h0:b= []
  ·subst h0
   refine⟨a,⟨0,fun k n _ hn=> ?_⟩,ca,by simp [V];omega,ha⟩
   obtain⟨n,rfl⟩:∃m,n=m+1:=⟨n-1,by omega⟩
   show qdO k (qea k n) _ _ _ _ _ _=_
   unfold qdO
   simp -implicitDefEqProofs (maxSteps:=2000000) (disch:=omega) only [ps,↓reduceIte,reduceCtorEq,Int.reduceLT,Int.reduceLE,Int.reduceEq,Nat.reduceLT,Nat.reduceLeDiff,Nat.reduceEqDiff,Int.reduceNeg,qc]
  ·have pb:0<V W b:=by
    have p:=qr (B:=W) (by decide) cb.1
    have:=mt (cb.nil_iff (B:=W) (by decide)).2 h0
    omega
   obtain⟨q,r,⟨K1,h1⟩,h2,h3,h4,h5,h6,h7⟩:=ql1 a b ca cb h0 (by omega) (by omega)
   have hr0:=Int.emod_nonneg (V W a) (show V W b≠0 by omega)
   have hr1:=Int.emod_lt_of_pos (V W a) pb
   obtain⟨R,hR⟩:=Int.eq_ofNat_of_zero_le hr0
   have hcr:Cn W (tl r):=Cn.of h3
   have hvr:V W (tl r)=R:=by rw [qhc,h5,hR]
   obtain⟨l,⟨K2,i1⟩,i2,i3,i4⟩:=ih R (by omega) b (tl r) (by omega) cb hcr hb (by have:=qcw r;omega)
   obtain⟨K3,h8⟩:=qir r (by omega)
   refine⟨l,⟨max K1 (max K2 K3),fun k n hk hn=> ?_⟩,i2,?_,i4⟩
   ·obtain⟨n,rfl⟩:∃m,n=m+1:=⟨n-1,by omega⟩
    rw [←i1 k n (by omega) (by omega)]
    have c1:=h1 k (by omega)
    have c2:=h8 k (by omega)
    have lb:0<b.length:=by
     cases b with
     | nil=>exact absurd rfl h0
     | cons _ _=>simp
    show qdO k (qea k n) _ _ _ _ _ _=_
    unfold qdO
    simp -implicitDefEqProofs (maxSteps:=2000000) (disch:=omega) only [ps,↓reduceIte,reduceCtorEq,Int.reduceLT,Int.reduceLE,Int.reduceEq,Nat.reduceLT,Nat.reduceLeDiff,Nat.reduceEqDiff,Int.reduceNeg,qc,c1,c2,List.take_length]
   ·rw [i3,hvr,←hR]
    obtain⟨A,hA⟩:=Int.eq_ofNat_of_zero_le pa
    obtain⟨B,hB⟩:=Int.eq_ofNat_of_zero_le (Int.le_of_lt pb)
    rw [hA,hB]
    show(((Int.gcd (B:Int) ((A % B:Nat):Int)):Nat):Int)=_
    rw [Int.gcd_natCast_natCast,Int.gcd_natCast_natCast,Nat.gcd_comm,←Nat.gcd_rec,Nat.gcd_comm]
theorem qzv (x0 y0:Bool) (x1 y1:List Int) {x y:Int} (nx:Nm W x0 x1 x) (ny:Nm W y0 y1 y) (hx:x1.length≤10000000) (hy:y1.length≤10000000):
  ∃l,Rn (fun k=>qgv k x0 x1 y0 y1) (x0,x1,y0,y1,false,l)∧Nm W false l (Int.gcd x y)∧l.length≤max x1.length y1.length:=by
 obtain⟨N,hN⟩:=Int.eq_ofNat_of_zero_le (qr (B:=W) (by decide) ny.c.1)
 obtain⟨l,⟨K,h1⟩,h2,h3,h4⟩:=qth x0 y0 x1 y1 (max x1.length y1.length) (by omega) N x1 y1 (by omega) nx.c ny.c (by omega) (by omega)
 have e:(Int.gcd (V W x1) (V W y1):Int)=Int.gcd x y:=by
  have e1:=nx.z
  have e2:=ny.z
  rw [←e1,←e2]
  cases x0<;>cases y0<;>simp
 refine⟨l,Rn.up (f:=fun k=>qgv k x0 x1 y0 y1) ?_,?_,h4⟩
 ·show Rn (fun k=>qhF k x0 x1 y0 y1) _
  unfold qhF
  have h5:=qjY false false l (by omega)
  rw [h2.2] at h5
  exact Rn.bind (x:=(l,x0,x1,y0,y1)) (Rn.eq (K+N+1) fun k hk=>h1 k k (by omega) (by omega)) (Rn.bind h5 (Rn.pure _))
 ·rw [←e,←h3]
  exact⟨h2,fun h=>(by cases h),rfl⟩
section
variable {a0 b0 : Bool} {a1 b1 : List Int} (la : a1.length ≤ 9223372036854775807) (lb : b1.length ≤ 9223372036854775807) (da : Dg W a1) (db : Dg W b1)
include la lb da db
end
end Go.Proofs.YtlnailgfialgnaaGreatDoor.Am
set_option linter.unusedSectionVars false
namespace Go.Proofs.YtlnailgfialgnaaGreatDoor.Am
open Go

def Fr (n0:Bool) (n1:List Int) (d0:Bool) (d1:List Int) (q:Rat):Prop:=Nm W n0 n1 q.num∧Nm W d0 d1 (q.den:Int)
theorem Fr.cast {n0:Bool} {n1:List Int} {d0:Bool} {d1:List Int} {q q':Rat} (h:Fr n0 n1 d0 d1 q) (e:q=q'):Fr n0 n1 d0 d1 q':=e▸h
theorem Rat.den_pos' (q:Rat):(0:Int)<q.den:=by have:=q.den_nz;omega
theorem Fr.d0 {n0:Bool} {n1:List Int} {d0:Bool} {d1:List Int} {q:Rat} (h:Fr n0 n1 d0 d1 q):d0=false:=by
 rw [h.2.neg (by decide)]
 have:=Rat.den_pos' q
 simp
theorem Fr.ne {n0:Bool} {n1:List Int} {d0:Bool} {d1:List Int} {q:Rat} (h:Fr n0 n1 d0 d1 q):d1≠ []:=by
 intro e
 have h1:=h.2.abs (by decide)
 have:=Rat.den_pos' q
 rw [e] at h1
 simp only [V] at h1
 omega
theorem Fr.ext {n0 n0':Bool} {n1 n1':List Int} {d0 d0':Bool} {d1 d1':List Int} {q:Rat} (h:Fr n0 n1 d0 d1 q) (h':Fr n0' n1' d0' d1' q):n0=n0'∧n1=n1'∧d0=d0'∧d1=d1':=by
 obtain⟨e1,e2⟩:=Nm.ext (B:=W) (by decide) h.1 h'.1
 obtain⟨e3,e4⟩:=Nm.ext (B:=W) (by decide) h.2 h'.2
 exact⟨e1,e2,e3,e4⟩
theorem Fr.inj {n0:Bool} {n1:List Int} {d0:Bool} {d1:List Int} {q q':Rat} (h:Fr n0 n1 d0 d1 q) (h':Fr n0 n1 d0 d1 q'):q=q':=by
 have a:=h.1.z.symm.trans h'.1.z
 have b:=h.2.z.symm.trans h'.2.z
 exact Rat.ext a (by omega)
theorem qo5 {a0:Bool} {a1:List Int} {x:Int} (h:Nm W a0 a1 x):sgn a0 a1=a0∧tl a1=a1:=by
 have e:=h.c.2
 refine⟨?_,e⟩
 unfold sgn
 rw [e]
 cases a0
 ·rfl
 ·have:=h.sg rfl
  cases a1 with
  | nil=>exact absurd rfl this
  | cons _ _=>simp
theorem qA5 {a0:Bool} {a1:List Int} {x:Int} (h:Nm W a0 a1 x) (hl:a1.length≤1000000000):Rn (fun k=>qip k a0 a1) (a0,a1):=by
 have:=qA3 a0 a1 hl
 rwa [(qo5 h).1,(qo5 h).2] at this
theorem qlh (z x0 y0:Bool) (x1 y1:List Int) {x y:Int} (nx:Nm W x0 x1 x) (ny:Nm W y0 y1 y) (hx:x1.length≤10000000) (hy:y1.length≤10000000) (hy0:y≠0):
  ∃s q,Rn (fun k=>qb8 k z x0 x1 y0 y1) (s,q,x0,x1,y0,y1)∧Nm W s q (x.tdiv y)∧q.length≤x1.length:=by
 have hn:y1≠ []:=by
  intro e
  rw [e] at ny
  have:=ny.z
  cases y0<;>simp [V] at this<;>omega
 obtain⟨s,q,t,r,h1,h2,h3,h4,h5⟩:=qrK z x0 y0 false x1 y1 nx ny hx hy hn
 exact⟨s,q,Rn.up (f:=fun k=>qb8 k z x0 x1 y0 y1) (Rn.bind h1 (Rn.pure _)),h2,h4⟩
theorem qnT (x:Int) {y:Int} (h:y≠0):(Rat.divInt x y).num=x.tdiv (if y<0 then -(Int.gcd x y:Int)else(Int.gcd x y:Int)):=by
 have hd:=Int.gcd_dvd_left x y
 rw [Rat.num_divInt,Int.gcd_comm y x]
 by_cases hy:y<0
 ·rw [if_pos hy,Int.sign_eq_neg_one_of_neg hy,Int.tdiv_neg,Int.tdiv_eq_ediv_of_dvd hd,Int.neg_one_mul,Int.neg_ediv_of_dvd hd]
 ·rw [if_neg hy,Int.sign_eq_one_of_pos (by omega),Int.tdiv_eq_ediv_of_dvd hd,Int.one_mul]
theorem qnU (x:Int) {y:Int} (h:y≠0):((Rat.divInt x y).den:Int)=y.tdiv (if y<0 then -(Int.gcd x y:Int)else(Int.gcd x y:Int)):=by
 have hd:=Int.gcd_dvd_right x y
 rw [Rat.den_divInt,if_neg h,Int.gcd_comm y x,Int.natCast_ediv]
 by_cases hy:y<0
 ·rw [if_pos hy,Int.tdiv_neg,Int.tdiv_eq_ediv_of_dvd hd,←Int.neg_ediv_of_dvd hd]
  congr 1;omega
 ·rw [if_neg hy,Int.tdiv_eq_ediv_of_dvd hd]
  congr 1;omega
theorem qvi (z0 z1 n0 d0:Bool) (n1 d1:List Int) {x y:Int} (nx:Nm W n0 n1 x) (ny:Nm W d0 d1 y) (hx:n1.length≤1000000) (hy:d1.length≤1000000) (hy0:y≠0):
  ∃s p t r,Rn (fun k=>qde k z0 z1 n0 n1 d0 d1) (s,p,t,r,n0,n1,d0,d1)∧Fr s p t r (Rat.divInt x y)∧p.length≤n1.length∧r.length≤d1.length:=by
 obtain⟨g,g1,g2,g3⟩:=qzv n0 d0 n1 d1 nx ny (by omega) (by omega)
 have hg:(0:Int)<Int.gcd x y:=by
  have:=Int.gcd_pos_of_ne_zero_right x hy0
  omega
 have hd:=ny.neg (B:=W) (by decide)
 have hgn:g≠ []:=by
  intro e
  rw [e] at g2
  have:=g2.z
  simp [V] at this
  omega
 have ex:=qnT x hy0
 have ey:=qnU x hy0
 cases d0
 ·have hyp:¬y<0:=by simpa using hd
  rw [if_neg hyp] at ex ey
  obtain⟨s,p,a1,a2,a3⟩:=qlh false n0 false n1 g nx g2 (by omega) (by omega) (by omega)
  obtain⟨t,r,b1,b2,b3⟩:=qlh false false false d1 g ny g2 (by omega) (by omega) (by omega)
  rw [←ex] at a2
  rw [←ey] at b2
  refine⟨s,p,t,r,Rn.up (f:=fun k=>qde k z0 z1 n0 n1 false d1) ?_,⟨a2,b2⟩,a3,b3⟩
  show Rn (fun k=>qdd k z0 z1 n0 n1 false d1) _
  unfold qdd
  refine Rn.bind g1 ?_
  (first | (refine Rn.t ?hc ?_;case hc=>simp -implicitDefEqProofs (maxSteps:=2000000) (disch:=omega) only [ps,↓reduceIte,reduceCtorEq,Int.reduceLT,Int.reduceLE,Int.reduceEq,Nat.reduceLT,Nat.reduceLeDiff,Nat.reduceEqDiff,Int.reduceNeg,qc]) | (refine Rn.f ?hc ?_;case hc=>simp -implicitDefEqProofs (maxSteps:=2000000) (disch:=omega) only [ps,↓reduceIte,reduceCtorEq,Int.reduceLT,Int.reduceLE,Int.reduceEq,Nat.reduceLT,Nat.reduceLeDiff,Nat.reduceEqDiff,Int.reduceNeg,qc]))
  exact Rn.bind a1 (Rn.bind b1 (Rn.pure _))
 ·have hyp:y<0:=by simpa using hd
  rw [if_pos hyp] at ex ey
  have g2':Nm W true g (-(Int.gcd x y:Int)):=⟨g2.c,fun _=>hgn,by have:=g2.z;simp at this ⊢;omega⟩
  obtain⟨s,p,a1,a2,a3⟩:=qlh false n0 true n1 g nx g2' (by omega) (by omega) (by omega)
  obtain⟨t,r,b1,b2,b3⟩:=qlh false true true d1 g ny g2' (by omega) (by omega) (by omega)
  rw [←ex] at a2
  rw [←ey] at b2
  refine⟨s,p,t,r,Rn.up (f:=fun k=>qde k z0 z1 n0 n1 true d1) ?_,⟨a2,b2⟩,a3,b3⟩
  show Rn (fun k=>qdd k z0 z1 n0 n1 true d1) _
  unfold qdd
  refine Rn.bind g1 ?_
  (first | (refine Rn.t ?hc ?_;case hc=>simp -implicitDefEqProofs (maxSteps:=2000000) (disch:=omega) only [ps,↓reduceIte,reduceCtorEq,Int.reduceLT,Int.reduceLE,Int.reduceEq,Nat.reduceLT,Nat.reduceLeDiff,Nat.reduceEqDiff,Int.reduceNeg,qc]) | (refine Rn.f ?hc ?_;case hc=>simp -implicitDefEqProofs (maxSteps:=2000000) (disch:=omega) only [ps,↓reduceIte,reduceCtorEq,Int.reduceLT,Int.reduceLE,Int.reduceEq,Nat.reduceLT,Nat.reduceLeDiff,Nat.reduceEqDiff,Int.reduceNeg,qc]))
  exact Rn.bind a1 (Rn.bind b1 (Rn.pure _))
theorem qo6 (n0 d0:Bool) (n1 d1:List Int) {x y:Int} (nx:Nm W n0 n1 x) (ny:Nm W d0 d1 y) (hx:n1.length≤1000000) (hy:d1.length≤1000000) (hy0:y≠0):
  ∃s p t r,Rn (fun k=>qev k n0 n1 d0 d1) (n0,n1,d0,d1,s,p,t,r)∧Fr s p t r (Rat.divInt x y)∧p.length≤n1.length∧r.length≤d1.length:=by
 obtain⟨s,p,t,r,h1,h2⟩:=qvi false false n0 d0 n1 d1 nx ny hx hy hy0
 exact⟨s,p,t,r,Rn.up (f:=fun k=>qev k n0 n1 d0 d1) (Rn.bind h1 (Rn.pure _)),h2⟩
section
variable {z0 z2 : Bool} {z1 z3 : List Int} {q : Rat} (h : Fr z0 z1 z2 z3 q) (h1 : z1.length ≤ 1000000) (h3 : z3.length ≤ 1000000)
include h h1 h3
theorem qnV:Rn (fun k=>qcU k z0 z1 z2 z3) (z0,z1,z2,z3,z2,z3):=by
 refine Rn.up (f:=fun k=>qcU k z0 z1 z2 z3) ?_
 show Rn (fun k=>qe3 k z0 z1 z2 z3) _
 unfold qe3
 have hn:=h.ne
 have hd:=h.d0
 subst hd
 have:0<z3.length:=by
  cases z3 with
  | nil=>exact absurd rfl hn
  | cons _ _=>simp
 (first | (refine Rn.t ?hc ?_;case hc=>simp -implicitDefEqProofs (maxSteps:=2000000) (disch:=omega) only [ps,↓reduceIte,reduceCtorEq,Int.reduceLT,Int.reduceLE,Int.reduceEq,Nat.reduceLT,Nat.reduceLeDiff,Nat.reduceEqDiff,Int.reduceNeg,qc]) | (refine Rn.f ?hc ?_;case hc=>simp -implicitDefEqProofs (maxSteps:=2000000) (disch:=omega) only [ps,↓reduceIte,reduceCtorEq,Int.reduceLT,Int.reduceLE,Int.reduceEq,Nat.reduceLT,Nat.reduceLeDiff,Nat.reduceEqDiff,Int.reduceNeg,qc]))
 exact Rn.bind (qA5 h.2 (by omega)) (Rn.pure _)
end

def qkB (a b:Rat):Int:=qfa (a.num*b.den) (b.num*a.den)
theorem qqm (a b:Rat):∃c,qkB a b=c∧(c= -1∧a<b∨c=0∧a=b∨c=1∧b<a):=by
 obtain⟨c,h1,h2⟩:=qfn (a.num*b.den) (b.num*a.den)
 refine⟨c,h1,?_⟩
 rcases h2 with ⟨h,h2⟩ | ⟨h,h2⟩ | ⟨h,h2⟩
 ·exact .inl ⟨h,(Rat.lt_iff a b).2 h2⟩
 ·refine .inr (.inl ⟨h,?_⟩)
  have hx:=Rat.den_pos' a
  have hy:=Rat.den_pos' b
  rw [←Rat.num_divInt_den a,←Rat.num_divInt_den b,Rat.divInt_eq_divInt_iff (by omega) (by omega)]
  exact h2
 ·exact .inr (.inr ⟨h,(Rat.lt_iff b a).2 h2⟩)
section
variable {x0 x2 y0 y2 : Bool} {x1 x3 y1 y3 : List Int} {x y : Rat} (hx : Fr x0 x1 x2 x3 x) (hy : Fr y0 y1 y2 y3 y) (l1 : x1.length ≤ 100000) (l3 : x3.length ≤ 100000) (m1 : y1.length ≤ 100000) (m3 : y3.length ≤ 100000)
include hx hy l1 l3 m1 m3
theorem qvj:Rn (fun k=>qel k x0 x1 x2 x3 y0 y1 y2 y3) (qkB x y,x0,x1,x2,x3,y0,y1,y2,y3):=by
 have dX:=qnV hx (by omega) (by omega)
 have dY:=qnV hy (by omega) (by omega)
 obtain⟨s1,p1,a1,a2,a3⟩:=qo3 false x0 y2 x2 x1 y3 x3 hx.1 hy.2 (by omega) (by omega)
 obtain⟨s2,p2,b1,b2,b3⟩:=qo3 false y0 x2 y2 y1 x3 y3 hy.1 hx.2 (by omega) (by omega)
 refine Rn.up (f:=fun k=>qel k x0 x1 x2 x3 y0 y1 y2 y3) ?_
 have cE:=qzr s1 s2 p1 p2 a2 b2 (by omega) (by omega)
 exact Rn.bind dY (Rn.bind a1 (Rn.bind dX (Rn.bind b1 (Rn.bind cE (Rn.pure _)))))
end

abbrev U:Int:=65536
theorem qBY (i:Nat):(0:Int)<U^i:=Int.pow_pos (by decide)
theorem qih {B:Int} (l:List Int) (i:Nat):V B (l.take (i+1))=V B (l.take i)+B^i*(l[i]?.getD 0):=by
 by_cases h:i<l.length
 ·obtain⟨x,hx⟩:=qI h
  rw [qdU hx,hx];rfl
 ·rw [List.take_of_length_le (by omega),List.take_of_length_le (by omega),List.getElem?_eq_none (by omega)];simp
theorem Dg.getD {B:Int} (hB:0<B) {l:List Int} (h:Dg B l) (i:Nat):0≤l[i]?.getD 0∧l[i]?.getD 0<B:=by
 cases e:l[i]? with
 | none=>simp [hB]
 | some x=>exact h.get e

theorem qiX (k:Nat) (ds:List Int) (hl:ds.length≤10000000000):∀(i n d:Nat),i≤d→d≤ds.length→i<n→qb5 k n d i ds=some (d,((tl (ds.take i)).length:Int),ds):=by
 intro i
 induction i with
 | zero=>
  intro n d hi hd hn
  obtain⟨n,rfl⟩:∃m,n=m+1:=⟨n-1,by omega⟩
  show qbU k (qb5 k n) _ _ _=_
  unfold qbU
  simp -implicitDefEqProofs (maxSteps:=2000000) (disch:=omega) only [ps,↓reduceIte,reduceCtorEq,Int.reduceLT,Int.reduceLE,Int.reduceEq,Nat.reduceLT,Nat.reduceLeDiff,Nat.reduceEqDiff,Int.reduceNeg,qc]
  rfl
 | succ i ih=>
  intro n d hi hd hn
  obtain⟨n,rfl⟩:∃m,n=m+1:=⟨n-1,by omega⟩
  show qbU k (qb5 k n) _ _ _=_
  unfold qbU
  obtain⟨x,hx⟩:=qI (show i<ds.length by omega)
  have h1:(((i+1:Nat):Int)-1)=(i:Int):=by omega
  have ht:ds.take (i+1)=ds.take i++ [x]:=by rw [List.take_add_one,hx];rfl
  simp -implicitDefEqProofs (maxSteps:=2000000) (disch:=omega) only [ps,↓reduceIte,reduceCtorEq,Int.reduceLT,Int.reduceLE,Int.reduceEq,Nat.reduceLT,Nat.reduceLeDiff,Nat.reduceEqDiff,Int.reduceNeg,qc,h1,hx]
  by_cases h:x=0
  ·simp -implicitDefEqProofs (maxSteps:=2000000) (disch:=omega) only [ps,↓reduceIte,reduceCtorEq,Int.reduceLT,Int.reduceLE,Int.reduceEq,Nat.reduceLT,Nat.reduceLeDiff,Nat.reduceEqDiff,Int.reduceNeg,qc,h]
   rw [ih n d (by omega) hd (by omega),ht,qim,if_pos h]
  ·simp -implicitDefEqProofs (maxSteps:=2000000) (disch:=omega) only [ps,↓reduceIte,reduceCtorEq,Int.reduceLT,Int.reduceLE,Int.reduceEq,Nat.reduceLT,Nat.reduceLeDiff,Nat.reduceEqDiff,Int.reduceNeg,qc,h]
   rw [ht,qim,if_neg h]
   simp
   omega
theorem qti (d:Nat) (ds:List Int) (hd:d≤ds.length) (hl:ds.length≤10000000000):Rn (fun k=>qE k d ds) ((tl (ds.take d)).length,ds):=by
 refine Rn.eq (d+2) fun k hk=> ?_
 obtain⟨k,rfl⟩:∃m,k=m+1:=⟨k-1,by omega⟩
 show qaX k d ds=_
 unfold qaX
 have:=qcw (ds.take d)
 rw [List.length_take] at this
 rw [qiX k ds hl d k d (Nat.le_refl _) hd (by omega)]
 simp -implicitDefEqProofs (maxSteps:=2000000) (disch:=omega) only [ps,↓reduceIte,reduceCtorEq,Int.reduceLT,Int.reduceLE,Int.reduceEq,Nat.reduceLT,Nat.reduceLeDiff,Nat.reduceEqDiff,Int.reduceNeg,qc]
theorem qrL (k:Nat) (a b:List Int) (hla:a.length≤1000000000) (hlb:b.length≤1000000000) (ha:Dg U a) (hb:Dg U b):
  ∀(d i n:Nat) (carry:Int) (ds:List Int),i+d=max a.length b.length+1→d<n→0≤carry∧carry≤1→(d=0→carry=0)→ds.length=i→Dg U ds→
  V U ds+carry*U^i=V U (a.take i)+V U (b.take i)→
  ∃ds',qaT k n a b i carry i ds=some (ds'.length,ds')∧Dg U ds'∧ds'.length≤max a.length b.length+1∧V U ds'=V U a+V U b:=by
 intro d
 induction d with
 | zero=>
  intro i n carry ds hi hn hc h0 hl hd e
  obtain⟨n,rfl⟩:∃m,n=m+1:=⟨n-1,by omega⟩
  have hc0:=h0 rfl
  subst hc0
  refine⟨ds,?_,hd,by omega,?_⟩
  ·show qbp k (qaT k n) _ _ _ _ _ _=_
   unfold qbp
   simp -implicitDefEqProofs (maxSteps:=2000000) (disch:=omega) only [ps,↓reduceIte,reduceCtorEq,Int.reduceLT,Int.reduceLE,Int.reduceEq,Nat.reduceLT,Nat.reduceLeDiff,Nat.reduceEqDiff,Int.reduceNeg,qc]
   rw [hl]
  ·rw [List.take_of_length_le (by omega),List.take_of_length_le (by omega)] at e
   simpa using e
 | succ d ih=>
  intro i n carry ds hi hn hc h0 hl hd e
  obtain⟨n,rfl⟩:∃m,n=m+1:=⟨n-1,by omega⟩
  have ta:=qih (B:=U) a i
  have tb:=qih (B:=U) b i
  have ba:=ha.getD (by decide) i
  have bb:=hb.getD (by decide) i
  have h1:((i:Int)+1)=((i+1:Nat):Int):=rfl
  have ht:ds.take i=ds:=List.take_of_length_le (by omega)
  generalize hx:a[i]?.getD 0=x at ta ba
  generalize hy:b[i]?.getD 0=y at tb bb
  have key:∃ds',qaT k n a b (i+1) ((carry+x+y) / U) ((i+1:Nat):Int) (ds++ [(carry+x+y) % U])=some (ds'.length,ds')∧Dg U ds'∧ds'.length≤max a.length b.length+1∧V U ds'=V U a+V U b:=by
   have hdm:=Int.emod_add_mul_ediv (carry+x+y) U
   unfold U at ba bb
   refine ih (i+1) n _ _ (by omega) (by omega) (by unfold U;omega) (fun hd0=> ?_) (by simp [hl]) (hd.snoc (by unfold U;omega)) ?_
   ·-- behind both, the carry alone is left
    have x0:x=0:=by rw [←hx,List.getElem?_eq_none (by omega)];rfl
    have y0:y=0:=by rw [←hy,List.getElem?_eq_none (by omega)];rfl
    subst x0;subst y0
    unfold U;omega
   ·rw [qg5,hl,ta,tb,Int.pow_succ]
    grind
  unfold U at ba bb
  by_cases hst:i<a.length∨i<b.length∨0<carry
  ·obtain⟨ds',q1,q2⟩:=key
   refine⟨ds',?_,q2⟩
   rw [←q1]
   show qbp k (qaT k n) _ _ _ _ _ _=_
   unfold qbp
   have hlen:(List.take 1 [(carry+x+y) % U]).length=1:=rfl
   by_cases h2:i<a.length
   ·have hx':a[i]? =some x:=by obtain⟨z,hz⟩:=qI h2;rw [hz] at hx ⊢;simpa using hx
    by_cases h3:i<b.length
    ·have hy':b[i]? =some y:=by obtain⟨z,hz⟩:=qI h3;rw [hz] at hy ⊢;simpa using hy
     simp -implicitDefEqProofs (maxSteps:=2000000) (disch:=omega) only [ps,↓reduceIte,reduceCtorEq,Int.reduceLT,Int.reduceLE,Int.reduceEq,Nat.reduceLT,Nat.reduceLeDiff,Nat.reduceEqDiff,Int.reduceNeg,qc,hx',hy',h1,hl,ht,List.take_succ_cons,List.length_cons,qc6,qc7]
    ·have hy':y=0:=by rw [←hy,List.getElem?_eq_none (by omega)];rfl
     subst hy'
     simp -implicitDefEqProofs (maxSteps:=2000000) (disch:=omega) only [ps,↓reduceIte,reduceCtorEq,Int.reduceLT,Int.reduceLE,Int.reduceEq,Nat.reduceLT,Nat.reduceLeDiff,Nat.reduceEqDiff,Int.reduceNeg,qc,hx',h1,hl,ht,List.take_succ_cons,List.length_cons,qc6,qc7,Int.add_zero]
   ·have hx':x=0:=by rw [←hx,List.getElem?_eq_none (by omega)];rfl
    subst hx'
    by_cases h3:i<b.length
    ·have hy':b[i]? =some y:=by obtain⟨z,hz⟩:=qI h3;rw [hz] at hy ⊢;simpa using hy
     simp -implicitDefEqProofs (maxSteps:=2000000) (disch:=omega) only [ps,↓reduceIte,reduceCtorEq,Int.reduceLT,Int.reduceLE,Int.reduceEq,Nat.reduceLT,Nat.reduceLeDiff,Nat.reduceEqDiff,Int.reduceNeg,qc,hy',h1,hl,ht,List.take_succ_cons,List.length_cons,qc6,qc7,Int.add_zero]
    ·have hy':y=0:=by rw [←hy,List.getElem?_eq_none (by omega)];rfl
     subst hy'
     simp -implicitDefEqProofs (maxSteps:=2000000) (disch:=omega) only [ps,↓reduceIte,reduceCtorEq,Int.reduceLT,Int.reduceLE,Int.reduceEq,Nat.reduceLT,Nat.reduceLeDiff,Nat.reduceEqDiff,Int.reduceNeg,qc,h1,hl,ht,List.take_succ_cons,List.length_cons,qc6,qc7,Int.add_zero]
  ·have hc0:carry=0:=by omega
   subst hc0
   refine⟨ds,?_,hd,by omega,?_⟩
   ·show qbp k (qaT k n) _ _ _ _ _ _=_
    unfold qbp
    simp -implicitDefEqProofs (maxSteps:=2000000) (disch:=omega) only [ps,↓reduceIte,reduceCtorEq,Int.reduceLT,Int.reduceLE,Int.reduceEq,Nat.reduceLT,Nat.reduceLeDiff,Nat.reduceEqDiff,Int.reduceNeg,qc]
    rw [hl]
   ·rw [List.take_of_length_le (by omega),List.take_of_length_le (by omega)] at e
    simpa using e
theorem Cn.uniq {B:Int} (hB:0<B) {f:Nat→Option (List Int)} {v:Int} {L:Nat} (K:Nat) (h:∀k,K≤k→∃l,f k=some l∧Cn B l∧V B l=v∧l.length≤L):∃l,Rn f l∧Cn B l∧V B l=v∧l.length≤L:=by
 obtain⟨l,h1,h2,h3,h4⟩:=h K (Nat.le_refl _)
 refine⟨l,⟨K,fun k hk=> ?_⟩,h2,h3,h4⟩
 obtain⟨m,q1,q2,q3,q4⟩:=h k hk
 rw [q1,Cn.ext hB q2 h2 (by rw [q3,h3])]
theorem qvk (a b:List Int) (hla:a.length≤1000000000) (hlb:b.length≤1000000000) (ha:Dg U a) (hb:Dg U b):
  ∃l,Rn (fun k=>qdA k a b) l∧Cn U l∧V U l=V U a+V U b∧l.length≤max a.length b.length+1:=by
 obtain⟨K,hK⟩:∃K,∀(ds:List Int),ds.length≤max a.length b.length+1→∀k,K≤k→qE k ds.length ds=some ((tl ds).length,ds):=by
  refine⟨max a.length b.length+4,fun ds hds k hk=> ?_⟩
  obtain⟨k,rfl⟩:∃m,k=m+1:=⟨k-1,by omega⟩
  show qaX k ds.length ds=_
  unfold qaX
  have:=qcw ds
  rw [qiX k ds (by omega) ds.length k ds.length (Nat.le_refl _) (Nat.le_refl _) (by omega),List.take_length]
  simp -implicitDefEqProofs (maxSteps:=2000000) (disch:=omega) only [ps,↓reduceIte,reduceCtorEq,Int.reduceLT,Int.reduceLE,Int.reduceEq,Nat.reduceLT,Nat.reduceLeDiff,Nat.reduceEqDiff,Int.reduceNeg,qc]
 have main:=Cn.uniq (B:=U) (v:=V U a+V U b) (L:=max a.length b.length+1) (f:=fun k=>qdA (k+1) a b) (by decide) (max K (max a.length b.length+3)) fun k hk=>by
  obtain⟨ds,q1,q2,q3,q4⟩:=qrL k a b hla hlb ha hb (max a.length b.length+1) 0 k 0 [] (by omega) (by omega) (by decide) (fun _=>rfl) rfl Dg.nil (by simp [V])
  have:=qcw ds
  refine⟨tl ds,?_,Cn.of q2,by rw [qhc,q4],by omega⟩
  show qf2 k a b=_
  unfold qf2
  have q1':qaT k k a b 0 0 0 []=some (ds.length,ds):=q1
  rw [q1',Option.bind_some]
  simp only []
  rw [hK ds q3 k (by omega),Option.bind_some]
  simp -implicitDefEqProofs (maxSteps:=2000000) (disch:=omega) only [ps,↓reduceIte,reduceCtorEq,Int.reduceLT,Int.reduceLE,Int.reduceEq,Nat.reduceLT,Nat.reduceLeDiff,Nat.reduceEqDiff,Int.reduceNeg,qc]
  rw [qgF]
 obtain⟨l,h1,h2⟩:=main
 exact⟨l,Rn.up (f:=fun k=>qdA k a b) h1,h2⟩

theorem qli (k:Nat) (x0 a0:Bool):∀(d n:Nat) (u:Int) (l:List Int),0≤u∧u<U^d→u<9223372036854775808→d<n→l.length≤1000-d→d≤100→Dg U l→(u=0→Cn U l)→
  ∃l',qaC k n u x0 0 a0 l.length [] l=some (x0,0,a0,l'.length,[],l')∧Cn U l'∧V U l'=V U l+U^l.length*u∧l'.length≤l.length+d:=by
 intro d
 induction d with
 | zero=>
  intro n u l hu hub hn hl hd9 hd hc
  obtain⟨n,rfl⟩:∃m,n=m+1:=⟨n-1,by omega⟩
  have hu0:u=0:=by simp at hu;omega
  subst hu0
  refine⟨l,?_,hc rfl,by simp,by omega⟩
  show qaZ k (qaC k n) _ _ _ _ _ _ _=_
  unfold qaZ
  simp -implicitDefEqProofs (maxSteps:=2000000) (disch:=omega) only [ps,↓reduceIte,reduceCtorEq,Int.reduceLT,Int.reduceLE,Int.reduceEq,Nat.reduceLT,Nat.reduceLeDiff,Nat.reduceEqDiff,Int.reduceNeg,qc]
 | succ d ih=>
  intro n u l hu hub hn hl hd9 hd hc
  obtain⟨n,rfl⟩:∃m,n=m+1:=⟨n-1,by omega⟩
  by_cases hu0:u=0
  ·subst hu0
   refine⟨l,?_,hc rfl,by simp,by omega⟩
   show qaZ k (qaC k n) _ _ _ _ _ _ _=_
   unfold qaZ
   simp -implicitDefEqProofs (maxSteps:=2000000) (disch:=omega) only [ps,↓reduceIte,reduceCtorEq,Int.reduceLT,Int.reduceLE,Int.reduceEq,Nat.reduceLT,Nat.reduceLeDiff,Nat.reduceEqDiff,Int.reduceNeg,qc]
  ·have hu2:u / 65536<U^d:=by
    have:=hu.2
    rw [Int.pow_succ] at this
    unfold U at this ⊢
    omega
   have hdm:=Int.emod_add_mul_ediv u 65536
   have hlen:(l++ [u % 65536]).length=l.length+1:=by simp
   have hdl:Dg U (l++ [u % 65536]):=hd.snoc (by unfold U;omega)
   obtain⟨l',q1,q2,q3,q4⟩:=ih n (u / 65536) (l++ [u % 65536]) ⟨by omega,hu2⟩ (by omega) (by omega) (by rw [hlen];omega) (by omega) hdl (fun h=>⟨hdl,(Cn.last hdl).2 (.inr ⟨l,u % 65536,rfl,by omega⟩)⟩)
   refine⟨l',?_,q2,?_,by rw [hlen] at q4;omega⟩
   ·rw [hlen] at q1
    rw [←q1]
    show qaZ k (qaC k n) _ _ _ _ _ _ _=_
    unfold qaZ
    have ht:l.take l.length=l:=List.take_length
    simp -implicitDefEqProofs (maxSteps:=2000000) (disch:=omega) only [ps,↓reduceIte,reduceCtorEq,Int.reduceLT,Int.reduceLE,Int.reduceEq,Nat.reduceLT,Nat.reduceLeDiff,Nat.reduceEqDiff,Int.reduceNeg,qc,qc6,qc7,ht,List.take_succ_cons,List.length_cons]
   ·rw [q3,qg5,hlen,Int.pow_succ]
    unfold U
    grind
theorem qhM (v:Int) (hv: -9223372036854775808<v∧v≤9223372036854775807):∃l,Rn (fun k=>qW k v) (decide (v<0),l)∧Nm U (decide (v<0)) l v∧l.length≤4:=by
 have main:∀(x0:Bool) (u:Int),0≤u∧u<9223372036854775808→∃l,Cn U l∧V U l=u∧l.length≤4∧∀k,5≤k→qaC k k u false 0 x0 0 [] []=some (false,0,x0,l.length,[],l):=by
  intro x0 u hu
  have h4:u<U^4:=by rw [show U^4=18446744073709551616 from by decide];omega
  obtain⟨l,q1,q2,q3,q4⟩:=qli 5 false x0 4 5 u [] ⟨hu.1,h4⟩ hu.2 (by omega) (by simp) (by omega) Dg.nil (fun _=>Cn.nil)
  refine⟨l,q2,by rw [q3];simp [V],by simpa using q4,fun k hk=> ?_⟩
  obtain⟨l',r1,r2,r3,r4⟩:=qli k false x0 4 k u [] ⟨hu.1,h4⟩ hu.2 (by omega) (by simp) (by omega) Dg.nil (fun _=>Cn.nil)
  have:l'=l:=Cn.ext (by decide) r2 q2 (by rw [r3,q3])
  subst this
  exact r1
 by_cases h:v<0
 ·obtain⟨l,h1,h2,h3,h4⟩:=main true (-v) (by omega)
  refine⟨l,?_,Nm.of (by decide) h1 (by omega),h3⟩
  refine Rn.up (f:=fun k=>qW k v) (Rn.eq 5 fun k hk=> ?_)
  show qdg k v=_
  unfold qdg
  have e1:IntKind.i64.wrap (0-v)= -v:=by rw [qf (by omega)];omega
  have hh:=h4 k hk
  rw [if_pos (by simpa using h),e1]
  simp -implicitDefEqProofs (maxSteps:=2000000) (disch:=omega) only [ps,↓reduceIte,reduceCtorEq,Int.reduceLT,Int.reduceLE,Int.reduceEq,Nat.reduceLT,Nat.reduceLeDiff,Nat.reduceEqDiff,Int.reduceNeg,qc,hh,List.take_length,h,decide_true,decide_false]
 ·obtain⟨l,h1,h2,h3,h4⟩:=main false v (by omega)
  refine⟨l,?_,Nm.of (by decide) h1 (by omega),h3⟩
  refine Rn.up (f:=fun k=>qW k v) (Rn.eq 5 fun k hk=> ?_)
  show qdg k v=_
  unfold qdg
  have hh:=h4 k hk
  rw [if_neg (by simpa using h)]
  simp -implicitDefEqProofs (maxSteps:=2000000) (disch:=omega) only [ps,↓reduceIte,reduceCtorEq,Int.reduceLT,Int.reduceLE,Int.reduceEq,Nat.reduceLT,Nat.reduceLeDiff,Nat.reduceEqDiff,Int.reduceNeg,qc,hh,List.take_length,h,decide_true,decide_false]

theorem Rn.get {α:Type} {f:Nat→Option α} {r:α} (h:Rn f r):∃k,f k=some r:=by
 obtain⟨K,h⟩:=h
 exact⟨K,h K (Nat.le_refl _)⟩

theorem qrM (k:Nat) (a b:List Int) (hl:a.length=b.length) (hla:a.length≤140737488355328) (ha:Dg U a) (hb:Dg U b):∀(i n:Nat),i≤a.length→i<n→V U (a.drop i)=V U (b.drop i)→
  ∃r,qbK k n a b ((i:Int)-1)=some r∧(match r with | .inl c=>c | .inr _=>0)=qfa (V U a) (V U b):=by
 intro i
 induction i with
 | zero=>
  intro n hi hn e
  obtain⟨n,rfl⟩:∃m,n=m+1:=⟨n-1,by omega⟩
  refine⟨.inr (),?_,?_⟩
  ·show qaj k (qbK k n) a b _=_
   unfold qaj
   simp -implicitDefEqProofs (maxSteps:=2000000) (disch:=omega) only [ps,↓reduceIte,reduceCtorEq,Int.reduceLT,Int.reduceLE,Int.reduceEq,Nat.reduceLT,Nat.reduceLeDiff,Nat.reduceEqDiff,Int.reduceNeg,qc]
  ·simp only [List.drop_zero] at e
   simp [e,qfa]
 | succ i ih=>
  intro n hi hn e
  obtain⟨n,rfl⟩:∃m,n=m+1:=⟨n-1,by omega⟩
  obtain⟨x,hx⟩:=qI (show i<a.length by omega)
  obtain⟨y,hy⟩:=qI (show i<b.length by omega)
  have h1:(((i+1:Nat):Int)-1)=(i:Int):=by omega
  have hxb:=ha.get hx
  have hyb:=hb.get hy
  have sa:=qff (B:=U) a i (by omega)
  have sb:=qff (B:=U) b i (by omega)
  have la:V U (a.take i)<U^i:=by have:=qeH (B:=U) (by decide) (ha.take i);rwa [List.length_take,Nat.min_eq_left (by omega)] at this
  have lb:V U (b.take i)<U^i:=by have:=qeH (B:=U) (by decide) (hb.take i);rwa [List.length_take,Nat.min_eq_left (by omega)] at this
  have na:=qr (B:=U) (by decide) (ha.take i)
  have nb:=qr (B:=U) (by decide) (hb.take i)
  rw [qcb hx,e] at sa
  rw [qcb hy] at sb
  by_cases h:x=y
  ·subst h
   obtain⟨r,h2,h3⟩:=ih n (by omega) (by omega) (by rw [qcb hx,qcb hy,e])
   refine⟨r,?_,h3⟩
   show qaj k (qbK k n) a b _=_
   unfold qaj
   simp -implicitDefEqProofs (maxSteps:=2000000) (disch:=omega) only [ps,↓reduceIte,reduceCtorEq,Int.reduceLT,Int.reduceLE,Int.reduceEq,Nat.reduceLT,Nat.reduceLeDiff,Nat.reduceEqDiff,Int.reduceNeg,qc,h1,hx,hy,h2]
  ·have hP:=qBY i
   by_cases h2:x<y
   ·have hlt:V U a<V U b:=by
     have:U^i*(x+1)≤U^i*y:=Int.mul_le_mul_of_nonneg_left (by omega) (by omega)
     rw [sa,sb]
     grind
    refine⟨.inl (-1),?_,by simp only [qfa];rw [if_pos hlt]⟩
    show qaj k (qbK k n) a b _=_
    unfold qaj
    simp -implicitDefEqProofs (maxSteps:=2000000) (disch:=omega) only [ps,↓reduceIte,reduceCtorEq,Int.reduceLT,Int.reduceLE,Int.reduceEq,Nat.reduceLT,Nat.reduceLeDiff,Nat.reduceEqDiff,Int.reduceNeg,qc,h1,hx,hy,h,h2]
   ·have hlt:V U b<V U a:=by
     have:U^i*(y+1)≤U^i*x:=Int.mul_le_mul_of_nonneg_left (by omega) (by omega)
     rw [sa,sb]
     grind
    refine⟨.inl 1,?_,by simp only [qfa];rw [if_neg (by omega),if_neg (by omega)]⟩
    show qaj k (qbK k n) a b _=_
    unfold qaj
    simp -implicitDefEqProofs (maxSteps:=2000000) (disch:=omega) only [ps,↓reduceIte,reduceCtorEq,Int.reduceLT,Int.reduceLE,Int.reduceEq,Nat.reduceLT,Nat.reduceLeDiff,Nat.reduceEqDiff,Int.reduceNeg,qc,h1,hx,hy,h,h2]
theorem qlK (a b:List Int) (hla:a.length≤140737488355328) (hlb:b.length≤140737488355328) (ha:Cn U a) (hb:Cn U b):Rn (fun k=>qdB k a b) (qfa (V U a) (V U b)):=by
 refine Rn.eq (a.length+2) fun k hk=> ?_
 obtain⟨k,rfl⟩:∃m,k=m+1:=⟨k-1,by omega⟩
 show qf3 k a b=_
 unfold qf3
 by_cases h:a.length=b.length
 ·obtain⟨r,h1,h2⟩:=qrM k a b h hla ha.1 hb.1 a.length k (Nat.le_refl _) (by omega) (by rw [List.drop_length,h,List.drop_length])
  simp -implicitDefEqProofs (maxSteps:=2000000) (disch:=omega) only [ps,↓reduceIte,reduceCtorEq,Int.reduceLT,Int.reduceLE,Int.reduceEq,Nat.reduceLT,Nat.reduceLeDiff,Nat.reduceEqDiff,Int.reduceNeg,qc,h1]
  rw [←h2]
  cases r<;>simp [qc]
 ·unfold qfa
  by_cases h2:a.length<b.length
  ·have:=Cn.len_lt (by decide) ha hb h2
   simp -implicitDefEqProofs (maxSteps:=2000000) (disch:=omega) only [ps,↓reduceIte,reduceCtorEq,Int.reduceLT,Int.reduceLE,Int.reduceEq,Nat.reduceLT,Nat.reduceLeDiff,Nat.reduceEqDiff,Int.reduceNeg,qc,h,h2]
  ·have:=Cn.len_lt (by decide) hb ha (by omega)
   simp -implicitDefEqProofs (maxSteps:=2000000) (disch:=omega) only [ps,↓reduceIte,reduceCtorEq,Int.reduceLT,Int.reduceLE,Int.reduceEq,Nat.reduceLT,Nat.reduceLeDiff,Nat.reduceEqDiff,Int.reduceNeg,qc,h,h2]

theorem qqn (k:Nat) (a b:List Int) (hba:b.length≤a.length) (hla:a.length≤1000000000) (ha:Dg U a) (hb:Dg U b):
  ∀(d i n:Nat) (borrow:Int) (ds:List Int),i+d=a.length→d<n→0≤borrow∧borrow≤1→ds.length=i→Dg U ds→
  V U ds=V U (a.take i)-V U (b.take i)+borrow*U^i→
  ∃b' ds',qaB k n a b i borrow i ds=some (ds'.length,ds')∧(0≤b'∧b'≤1)∧Dg U ds'∧ds'.length=a.length∧V U ds'=V U a-V U b+b'*U^a.length:=by
 intro d
 induction d with
 | zero=>
  intro i n borrow ds hi hn hc hl hd e
  obtain⟨n,rfl⟩:∃m,n=m+1:=⟨n-1,by omega⟩
  have hia:i=a.length:=by omega
  subst hia
  refine⟨borrow,ds,?_,hc,hd,hl,?_⟩
  ·show qaY k (qaB k n) _ _ _ _ _ _=_
   unfold qaY
   simp -implicitDefEqProofs (maxSteps:=2000000) (disch:=omega) only [ps,↓reduceIte,reduceCtorEq,Int.reduceLT,Int.reduceLE,Int.reduceEq,Nat.reduceLT,Nat.reduceLeDiff,Nat.reduceEqDiff,Int.reduceNeg,qc]
   rw [hl]
  ·rwa [List.take_length,List.take_of_length_le hba] at e
 | succ d ih=>
  intro i n borrow ds hi hn hc hl hd e
  obtain⟨n,rfl⟩:∃m,n=m+1:=⟨n-1,by omega⟩
  obtain⟨x,hx⟩:=qI (show i<a.length by omega)
  have ba:=ha.get hx
  have tb:=qih (B:=U) b i
  have bb:=hb.getD (by decide) i
  have ta:=qdU (B:=U) hx
  have h1:((i:Int)+1)=((i+1:Nat):Int):=rfl
  have ht:ds.take i=ds:=List.take_of_length_le (by omega)
  generalize hy:b[i]?.getD 0=y at tb bb
  have key:∀(z b1:Int),0≤z∧z<U→z=x-borrow-y+b1*U→0≤b1∧b1≤1→
    ∃b' ds',qaB k n a b (i+1) b1 ((i+1:Nat):Int) (ds++ [z])=some (ds'.length,ds')∧(0≤b'∧b'≤1)∧Dg U ds'∧ds'.length=a.length∧V U ds'=V U a-V U b+b'*U^a.length:=by
   intro z b1 hz hzz hb1
   refine ih (i+1) n _ _ (by omega) (by omega) hb1 (by simp [hl]) (hd.snoc hz) ?_
   rw [qg5,hl,ta,tb,Int.pow_succ]
   grind
  unfold U at ba bb
  by_cases hneg:x-borrow-y<0
  ·obtain⟨b',ds',q1,q2⟩:=key (x-borrow-y+65536) 1 (by unfold U;omega) (by unfold U;omega) (by decide)
   refine⟨b',ds',?_,q2⟩
   rw [←q1]
   show qaY k (qaB k n) _ _ _ _ _ _=_
   unfold qaY
   by_cases h3:i<b.length
   ·have hy':b[i]? =some y:=by obtain⟨z,hz⟩:=qI h3;rw [hz] at hy ⊢;simpa using hy
    simp -implicitDefEqProofs (maxSteps:=2000000) (disch:=omega) only [ps,↓reduceIte,reduceCtorEq,Int.reduceLT,Int.reduceLE,Int.reduceEq,Nat.reduceLT,Nat.reduceLeDiff,Nat.reduceEqDiff,Int.reduceNeg,qc,hx,hy',h1,hl,ht,List.take_succ_cons,List.length_cons]
   ·have hy':y=0:=by rw [←hy,List.getElem?_eq_none (by omega)];rfl
    subst hy'
    simp -implicitDefEqProofs (maxSteps:=2000000) (disch:=omega) only [ps,↓reduceIte,reduceCtorEq,Int.reduceLT,Int.reduceLE,Int.reduceEq,Nat.reduceLT,Nat.reduceLeDiff,Nat.reduceEqDiff,Int.reduceNeg,qc,hx,h1,hl,ht,List.take_succ_cons,List.length_cons,Int.sub_zero]
  ·obtain⟨b',ds',q1,q2⟩:=key (x-borrow-y) 0 (by unfold U;omega) (by unfold U;omega) (by decide)
   refine⟨b',ds',?_,q2⟩
   rw [←q1]
   show qaY k (qaB k n) _ _ _ _ _ _=_
   unfold qaY
   by_cases h3:i<b.length
   ·have hy':b[i]? =some y:=by obtain⟨z,hz⟩:=qI h3;rw [hz] at hy ⊢;simpa using hy
    simp -implicitDefEqProofs (maxSteps:=2000000) (disch:=omega) only [ps,↓reduceIte,reduceCtorEq,Int.reduceLT,Int.reduceLE,Int.reduceEq,Nat.reduceLT,Nat.reduceLeDiff,Nat.reduceEqDiff,Int.reduceNeg,qc,hx,hy',h1,hl,ht,List.take_succ_cons,List.length_cons]
   ·have hy':y=0:=by rw [←hy,List.getElem?_eq_none (by omega)];rfl
    subst hy'
    simp -implicitDefEqProofs (maxSteps:=2000000) (disch:=omega) only [ps,↓reduceIte,reduceCtorEq,Int.reduceLT,Int.reduceLE,Int.reduceEq,Nat.reduceLT,Nat.reduceLeDiff,Nat.reduceEqDiff,Int.reduceNeg,qc,hx,h1,hl,ht,List.take_succ_cons,List.length_cons,Int.sub_zero]
theorem qkD (ds:List Int) (hl:ds.length≤10000000000) (k:Nat) (hk:ds.length+2≤k):qE k ds.length ds=some ((tl ds).length,ds):=by
 obtain⟨k,rfl⟩:∃m,k=m+1:=⟨k-1,by omega⟩
 show qaX k ds.length ds=_
 unfold qaX
 have:=qcw ds
 rw [qiX k ds hl ds.length k ds.length (Nat.le_refl _) (Nat.le_refl _) (by omega),List.take_length]
 simp -implicitDefEqProofs (maxSteps:=2000000) (disch:=omega) only [ps,↓reduceIte,reduceCtorEq,Int.reduceLT,Int.reduceLE,Int.reduceEq,Nat.reduceLT,Nat.reduceLeDiff,Nat.reduceEqDiff,Int.reduceNeg,qc]
theorem qkE (a b:List Int) (hla:a.length≤1000000000) (ha:Dg U a) (hb:Cn U b) (h:V U b≤V U a):
  ∃l,Rn (fun k=>qaE k a b) l∧Cn U l∧V U l=V U a-V U b∧l.length≤a.length:=by
 have hba:b.length≤a.length:=by
  refine(hb.len_le (by decide) _).2 ?_
  have:=qeH (B:=U) (by decide) ha
  omega
 have hB:=qr (B:=U) (by decide) hb.1
 have main:=Cn.uniq (B:=U) (v:=V U a-V U b) (L:=a.length) (f:=fun k=>qaE (k+1) a b) (by decide) (a.length+3) fun k hk=>by
  obtain⟨c,ds,q1,q2,q3,q4,q5⟩:=qqn k a b hba hla ha hb.1 a.length 0 k 0 [] (by omega) (by omega) (by decide) rfl Dg.nil (by simp [V])
  have hc:c=0:=by
   have p1:=qeH (B:=U) (by decide) q3
   rw [q4] at p1
   rcases(by omega:c=0∨c=1)with h | h
   ·exact h
   ·subst h;omega
  subst hc
  have:=qcw ds
  refine⟨tl ds,?_,Cn.of q3,by rw [qhc,q5];simp,by omega⟩
  show qfv k a b=_
  unfold qfv
  have q1':qaB k k a b 0 0 0 []=some (ds.length,ds):=q1
  rw [q1',Option.bind_some]
  simp only []
  rw [qkD ds (by omega) k (by omega),Option.bind_some]
  simp -implicitDefEqProofs (maxSteps:=2000000) (disch:=omega) only [ps,↓reduceIte,reduceCtorEq,Int.reduceLT,Int.reduceLE,Int.reduceEq,Nat.reduceLT,Nat.reduceLeDiff,Nat.reduceEqDiff,Int.reduceNeg,qc]
  rw [qgF]
 obtain⟨l,h1,h2⟩:=main
 exact⟨l,Rn.up (f:=fun k=>qaE k a b) h1,h2⟩

theorem qhN {B:Int} {l:List Int} (h:Cn B l) {z:Int} (e:V B l=z):Nm B false l z:=⟨h,fun h=>(by cases h),by simpa using e⟩
theorem qlj {B:Int} {a0:Bool} {l:List Int} (h:Cn B l) {v:Int} (e:V B l=v):Nm B (if a0 then decide (0<l.length)else false) l (if a0 then -v else v):=by
 cases a0
 ·exact qhN h e
 ·refine⟨h,fun hs h0=> ?_,?_⟩
  ·rw [h0] at hs;simp at hs
  ·cases l with
   | nil=>simp [V] at e ⊢;omega
   | cons x r=>simp [e]
theorem qvm (a0 b0:Bool) (a1 b1:List Int) {x y:Int} (nx:Nm U a0 a1 x) (ny:Nm U b0 b1 y) (hx:a1.length≤1000000000) (hy:b1.length≤1000000000):
  ∃s l,Rn (fun k=>qcJ k a0 a1 b0 b1) (s,l)∧Nm U s l (x+y)∧l.length≤max a1.length b1.length+1:=by
 have hdec:∀l:List Int,decide ((0:Int)<(l.length:Int))=decide (0<l.length):=fun l=>by congr 1;simp
 have zx:=nx.z
 have zy:=ny.z
 by_cases h:a0=b0
 ·subst h
  obtain⟨l,h1,h2,h3,h4⟩:=qvk a1 b1 hx hy nx.c.1 ny.c.1
  refine⟨if a0 then decide (0<l.length)else false,l,?_,(qlj (a0:=a0) h2 h3).cast ?_,h4⟩
  ·refine Rn.up (f:=fun k=>qcJ k a0 a1 a0 b1) ?_
   show Rn (fun k=>qb9 k a0 a1 a0 b1) _
   unfold qb9
   (first | (refine Rn.t ?hc ?_;case hc=>simp -implicitDefEqProofs (maxSteps:=2000000) (disch:=omega) only [ps,↓reduceIte,reduceCtorEq,Int.reduceLT,Int.reduceLE,Int.reduceEq,Nat.reduceLT,Nat.reduceLeDiff,Nat.reduceEqDiff,Int.reduceNeg,qc]) | (refine Rn.f ?hc ?_;case hc=>simp -implicitDefEqProofs (maxSteps:=2000000) (disch:=omega) only [ps,↓reduceIte,reduceCtorEq,Int.reduceLT,Int.reduceLE,Int.reduceEq,Nat.reduceLT,Nat.reduceLeDiff,Nat.reduceEqDiff,Int.reduceNeg,qc]))
   refine Rn.bind h1 ?_
   cases a0
   ·(first | (refine Rn.t ?hc ?_;case hc=>simp -implicitDefEqProofs (maxSteps:=2000000) (disch:=omega) only [ps,↓reduceIte,reduceCtorEq,Int.reduceLT,Int.reduceLE,Int.reduceEq,Nat.reduceLT,Nat.reduceLeDiff,Nat.reduceEqDiff,Int.reduceNeg,qc]) | (refine Rn.f ?hc ?_;case hc=>simp -implicitDefEqProofs (maxSteps:=2000000) (disch:=omega) only [ps,↓reduceIte,reduceCtorEq,Int.reduceLT,Int.reduceLE,Int.reduceEq,Nat.reduceLT,Nat.reduceLeDiff,Nat.reduceEqDiff,Int.reduceNeg,qc]));exact Rn.pure _
   ·(first | (refine Rn.t ?hc ?_;case hc=>simp -implicitDefEqProofs (maxSteps:=2000000) (disch:=omega) only [ps,↓reduceIte,reduceCtorEq,Int.reduceLT,Int.reduceLE,Int.reduceEq,Nat.reduceLT,Nat.reduceLeDiff,Nat.reduceEqDiff,Int.reduceNeg,qc]) | (refine Rn.f ?hc ?_;case hc=>simp -implicitDefEqProofs (maxSteps:=2000000) (disch:=omega) only [ps,↓reduceIte,reduceCtorEq,Int.reduceLT,Int.reduceLE,Int.reduceEq,Nat.reduceLT,Nat.reduceLeDiff,Nat.reduceEqDiff,Int.reduceNeg,qc]));simp only [gt_iff_lt,hdec];exact Rn.pure _
  ·cases a0<;>simp at zx zy ⊢ <;>omega
 ·have h':(a0 == b0)=false:=by simpa using h
  obtain⟨c,e1,f1⟩:=qfn (V U a1) (V U b1)
  have hc:=qlK a1 b1 (by omega) (by omega) nx.c ny.c
  rw [e1] at hc
  by_cases h2:0≤c
  ·obtain⟨l,q1,q2,q3,q4⟩:=qkE a1 b1 hx nx.c.1 ny.c (by omega)
   refine⟨if a0 then decide (0<l.length)else false,l,?_,(qlj (a0:=a0) q2 q3).cast ?_,by omega⟩
   ·refine Rn.up (f:=fun k=>qcJ k a0 a1 b0 b1) ?_
    show Rn (fun k=>qb9 k a0 a1 b0 b1) _
    unfold qb9
    (first | (refine Rn.t ?hc ?_;case hc=>simp -implicitDefEqProofs (maxSteps:=2000000) (disch:=omega) only [ps,↓reduceIte,reduceCtorEq,Int.reduceLT,Int.reduceLE,Int.reduceEq,Nat.reduceLT,Nat.reduceLeDiff,Nat.reduceEqDiff,Int.reduceNeg,qc,h']) | (refine Rn.f ?hc ?_;case hc=>simp -implicitDefEqProofs (maxSteps:=2000000) (disch:=omega) only [ps,↓reduceIte,reduceCtorEq,Int.reduceLT,Int.reduceLE,Int.reduceEq,Nat.reduceLT,Nat.reduceLeDiff,Nat.reduceEqDiff,Int.reduceNeg,qc,h']))
    refine Rn.bind hc ?_
    (first | (refine Rn.t ?hc ?_;case hc=>simp -implicitDefEqProofs (maxSteps:=2000000) (disch:=omega) only [ps,↓reduceIte,reduceCtorEq,Int.reduceLT,Int.reduceLE,Int.reduceEq,Nat.reduceLT,Nat.reduceLeDiff,Nat.reduceEqDiff,Int.reduceNeg,qc]) | (refine Rn.f ?hc ?_;case hc=>simp -implicitDefEqProofs (maxSteps:=2000000) (disch:=omega) only [ps,↓reduceIte,reduceCtorEq,Int.reduceLT,Int.reduceLE,Int.reduceEq,Nat.reduceLT,Nat.reduceLeDiff,Nat.reduceEqDiff,Int.reduceNeg,qc]))
    refine Rn.bind q1 ?_
    cases a0
    ·(first | (refine Rn.t ?hc ?_;case hc=>simp -implicitDefEqProofs (maxSteps:=2000000) (disch:=omega) only [ps,↓reduceIte,reduceCtorEq,Int.reduceLT,Int.reduceLE,Int.reduceEq,Nat.reduceLT,Nat.reduceLeDiff,Nat.reduceEqDiff,Int.reduceNeg,qc]) | (refine Rn.f ?hc ?_;case hc=>simp -implicitDefEqProofs (maxSteps:=2000000) (disch:=omega) only [ps,↓reduceIte,reduceCtorEq,Int.reduceLT,Int.reduceLE,Int.reduceEq,Nat.reduceLT,Nat.reduceLeDiff,Nat.reduceEqDiff,Int.reduceNeg,qc]));exact Rn.pure _
    ·(first | (refine Rn.t ?hc ?_;case hc=>simp -implicitDefEqProofs (maxSteps:=2000000) (disch:=omega) only [ps,↓reduceIte,reduceCtorEq,Int.reduceLT,Int.reduceLE,Int.reduceEq,Nat.reduceLT,Nat.reduceLeDiff,Nat.reduceEqDiff,Int.reduceNeg,qc]) | (refine Rn.f ?hc ?_;case hc=>simp -implicitDefEqProofs (maxSteps:=2000000) (disch:=omega) only [ps,↓reduceIte,reduceCtorEq,Int.reduceLT,Int.reduceLE,Int.reduceEq,Nat.reduceLT,Nat.reduceLeDiff,Nat.reduceEqDiff,Int.reduceNeg,qc]));simp only [gt_iff_lt,hdec];exact Rn.pure _
   ·cases a0<;>cases b0<;>simp at h zx zy ⊢ <;>omega
  ·obtain⟨l,q1,q2,q3,q4⟩:=qkE b1 a1 hy ny.c.1 nx.c (by omega)
   have hne:l≠ []:=by rintro rfl;simp [V] at q3;omega
   refine⟨b0,l,?_,⟨q2,fun _=>hne,?_⟩,by omega⟩
   ·refine Rn.up (f:=fun k=>qcJ k a0 a1 b0 b1) ?_
    show Rn (fun k=>qb9 k a0 a1 b0 b1) _
    unfold qb9
    (first | (refine Rn.t ?hc ?_;case hc=>simp -implicitDefEqProofs (maxSteps:=2000000) (disch:=omega) only [ps,↓reduceIte,reduceCtorEq,Int.reduceLT,Int.reduceLE,Int.reduceEq,Nat.reduceLT,Nat.reduceLeDiff,Nat.reduceEqDiff,Int.reduceNeg,qc,h']) | (refine Rn.f ?hc ?_;case hc=>simp -implicitDefEqProofs (maxSteps:=2000000) (disch:=omega) only [ps,↓reduceIte,reduceCtorEq,Int.reduceLT,Int.reduceLE,Int.reduceEq,Nat.reduceLT,Nat.reduceLeDiff,Nat.reduceEqDiff,Int.reduceNeg,qc,h']))
    refine Rn.bind hc ?_
    (first | (refine Rn.t ?hc ?_;case hc=>simp -implicitDefEqProofs (maxSteps:=2000000) (disch:=omega) only [ps,↓reduceIte,reduceCtorEq,Int.reduceLT,Int.reduceLE,Int.reduceEq,Nat.reduceLT,Nat.reduceLeDiff,Nat.reduceEqDiff,Int.reduceNeg,qc]) | (refine Rn.f ?hc ?_;case hc=>simp -implicitDefEqProofs (maxSteps:=2000000) (disch:=omega) only [ps,↓reduceIte,reduceCtorEq,Int.reduceLT,Int.reduceLE,Int.reduceEq,Nat.reduceLT,Nat.reduceLeDiff,Nat.reduceEqDiff,Int.reduceNeg,qc]))
    exact Rn.bind q1 (Rn.pure _)
   ·cases a0<;>cases b0<;>simp at h zx zy ⊢ <;>omega
theorem qkF (a0:Bool) (a1:List Int) {x:Int} (nx:Nm U a0 a1 x):∃s l,Rn (fun k=>qbW k a0 a1) (s,l)∧Nm U s l (-x)∧l.length≤a1.length:=by
 have zx:=nx.z
 cases a1 with
 | nil=>
  refine⟨false,[],Rn.up (f:=fun k=>qbW k a0 []) ?_,qhN Cn.nil ?_,by simp⟩
  ·show Rn (fun k=>qdh k a0 []) _
   unfold qdh
   (first | (refine Rn.t ?hc ?_;case hc=>simp -implicitDefEqProofs (maxSteps:=2000000) (disch:=omega) only [ps,↓reduceIte,reduceCtorEq,Int.reduceLT,Int.reduceLE,Int.reduceEq,Nat.reduceLT,Nat.reduceLeDiff,Nat.reduceEqDiff,Int.reduceNeg,qc]) | (refine Rn.f ?hc ?_;case hc=>simp -implicitDefEqProofs (maxSteps:=2000000) (disch:=omega) only [ps,↓reduceIte,reduceCtorEq,Int.reduceLT,Int.reduceLE,Int.reduceEq,Nat.reduceLT,Nat.reduceLeDiff,Nat.reduceEqDiff,Int.reduceNeg,qc]));exact Rn.pure _
  ·cases a0<;>simp [V] at zx ⊢ <;>omega
 | cons p r=>
  refine⟨!a0,p::r,Rn.up (f:=fun k=>qbW k a0 (p::r)) ?_,⟨nx.c,fun _=>by simp,?_⟩,Nat.le_refl _⟩
  ·show Rn (fun k=>qdh k a0 (p::r)) _
   unfold qdh
   have:(p::r).length=r.length+1:=rfl
   (first | (refine Rn.t ?hc ?_;case hc=>simp -implicitDefEqProofs (maxSteps:=2000000) (disch:=omega) only [ps,↓reduceIte,reduceCtorEq,Int.reduceLT,Int.reduceLE,Int.reduceEq,Nat.reduceLT,Nat.reduceLeDiff,Nat.reduceEqDiff,Int.reduceNeg,qc,this]) | (refine Rn.f ?hc ?_;case hc=>simp -implicitDefEqProofs (maxSteps:=2000000) (disch:=omega) only [ps,↓reduceIte,reduceCtorEq,Int.reduceLT,Int.reduceLE,Int.reduceEq,Nat.reduceLT,Nat.reduceLeDiff,Nat.reduceEqDiff,Int.reduceNeg,qc,this]));exact Rn.pure _
  ·cases a0<;>simp at zx ⊢ <;>omega
theorem qvn (a0 b0:Bool) (a1 b1:List Int) {x y:Int} (nx:Nm U a0 a1 x) (ny:Nm U b0 b1 y) (hx:a1.length≤1000000000) (hy:b1.length≤1000000000):
  ∃s l,Rn (fun k=>qem k a0 a1 b0 b1) (s,l)∧Nm U s l (x-y)∧l.length≤max a1.length b1.length+1:=by
 obtain⟨s,l,h1,h2,h3⟩:=qkF b0 b1 ny
 obtain⟨s2,l2,q1,q2,q3⟩:=qvm a0 s a1 l nx h2 hx (by omega)
 exact⟨s2,l2,Rn.up (f:=fun k=>qem k a0 a1 b0 b1) (Rn.bind h1 (Rn.bind q1 (Rn.pure _))),q2.cast (by omega),by omega⟩
theorem qo7 (a0:Bool) (a1:List Int) {x:Int} (nx:Nm U a0 a1 x):Rn (fun k=>qdC k a0 a1) (qfa x 0):=by
 have zx:=nx.z
 have hs:=nx.sg
 have h0:=nx.c.nil_iff (B:=U) (by decide)
 have hp:=qr (B:=U) (by decide) nx.c.1
 refine Rn.up (f:=fun k=>qdC k a0 a1) ?_
 show Rn (fun k=>qf4 k a0 a1) _
 unfold qf4 qfa
 by_cases h:a1= []
 ·have:=h0.1 h
  rw [this] at zx
  have e:x=0:=by cases a0<;>simp at zx<;>omega
  subst e;subst h
  (first | (refine Rn.t ?hc ?_;case hc=>simp -implicitDefEqProofs (maxSteps:=2000000) (disch:=omega) only [ps,↓reduceIte,reduceCtorEq,Int.reduceLT,Int.reduceLE,Int.reduceEq,Nat.reduceLT,Nat.reduceLeDiff,Nat.reduceEqDiff,Int.reduceNeg,qc]) | (refine Rn.f ?hc ?_;case hc=>simp -implicitDefEqProofs (maxSteps:=2000000) (disch:=omega) only [ps,↓reduceIte,reduceCtorEq,Int.reduceLT,Int.reduceLE,Int.reduceEq,Nat.reduceLT,Nat.reduceLeDiff,Nat.reduceEqDiff,Int.reduceNeg,qc]))
  exact Rn.pure _
 ·have:=mt h0.2 h
  have hl:a1.length≠0:=fun e=>h (List.length_eq_zero_iff.1 e)
  (first | (refine Rn.t ?hc ?_;case hc=>simp -implicitDefEqProofs (maxSteps:=2000000) (disch:=omega) only [ps,↓reduceIte,reduceCtorEq,Int.reduceLT,Int.reduceLE,Int.reduceEq,Nat.reduceLT,Nat.reduceLeDiff,Nat.reduceEqDiff,Int.reduceNeg,qc]) | (refine Rn.f ?hc ?_;case hc=>simp -implicitDefEqProofs (maxSteps:=2000000) (disch:=omega) only [ps,↓reduceIte,reduceCtorEq,Int.reduceLT,Int.reduceLE,Int.reduceEq,Nat.reduceLT,Nat.reduceLeDiff,Nat.reduceEqDiff,Int.reduceNeg,qc]))
  cases a0
  ·simp at zx
   (first | (refine Rn.t ?hc ?_;case hc=>simp -implicitDefEqProofs (maxSteps:=2000000) (disch:=omega) only [ps,↓reduceIte,reduceCtorEq,Int.reduceLT,Int.reduceLE,Int.reduceEq,Nat.reduceLT,Nat.reduceLeDiff,Nat.reduceEqDiff,Int.reduceNeg,qc]) | (refine Rn.f ?hc ?_;case hc=>simp -implicitDefEqProofs (maxSteps:=2000000) (disch:=omega) only [ps,↓reduceIte,reduceCtorEq,Int.reduceLT,Int.reduceLE,Int.reduceEq,Nat.reduceLT,Nat.reduceLeDiff,Nat.reduceEqDiff,Int.reduceNeg,qc]))
   rw [if_neg (by omega),if_neg (by omega)]
   exact Rn.pure _
  ·simp at zx
   (first | (refine Rn.t ?hc ?_;case hc=>simp -implicitDefEqProofs (maxSteps:=2000000) (disch:=omega) only [ps,↓reduceIte,reduceCtorEq,Int.reduceLT,Int.reduceLE,Int.reduceEq,Nat.reduceLT,Nat.reduceLeDiff,Nat.reduceEqDiff,Int.reduceNeg,qc]) | (refine Rn.f ?hc ?_;case hc=>simp -implicitDefEqProofs (maxSteps:=2000000) (disch:=omega) only [ps,↓reduceIte,reduceCtorEq,Int.reduceLT,Int.reduceLE,Int.reduceEq,Nat.reduceLT,Nat.reduceLeDiff,Nat.reduceEqDiff,Int.reduceNeg,qc]))
   rw [if_pos (by omega)]
   exact Rn.pure _
theorem qvo (a0 b0:Bool) (a1 b1:List Int) {x y:Int} (nx:Nm U a0 a1 x) (ny:Nm U b0 b1 y) (hx:a1.length≤1000000000) (hy:b1.length≤1000000000):
  Rn (fun k=>qen k a0 a1 b0 b1) (qfa x y):=by
 obtain⟨s,l,h1,h2,h3⟩:=qvn a0 b0 a1 b1 nx ny hx hy
 have:qfa x y=qfa (x-y) 0:=by
  unfold qfa
  rcases Int.lt_trichotomy x y with h | h | h
  ·rw [if_pos h,if_pos (by omega)]
  ·rw [if_neg (by omega),if_pos h,if_neg (by omega),if_pos (by omega)]
  ·rw [if_neg (by omega),if_neg (by omega),if_neg (by omega),if_neg (by omega)]
 rw [this]
 exact Rn.up (f:=fun k=>qen k a0 a1 b0 b1) (Rn.bind h1 (Rn.bind (qo7 s l h2) (Rn.pure _)))

theorem qoy (k:Nat) (a0 b0:Bool) (a1 b1:List Int) (hb:Dg U b1) (i:Nat) (a:Int) (hai:a1[i]? =some a) (ha:0≤a∧a<U) (n12:Nat) (hn12:n12≤2000000000) (hi:i+b1.length<n12):
  ∀(d j n:Nat) (carry:Int) (ds:List Int),j+d=b1.length→d<n→0≤carry∧carry<U→ds.length=n12→Dg U ds→
  ∃carry' ds',qb2 k n n12 i carry j a0 a1 b0 b1 false 0 ds []=some (n12,(i:Int),carry',a0,a1,b0,b1,false,0,ds',[])∧(0≤carry'∧carry'<U)∧ds'.length=n12∧Dg U ds'∧
   V U ds'+carry'*U^(i+b1.length)=V U ds+carry*U^(i+j)+a*U^(i+j)*V U (b1.drop j)∧∀p,i+b1.length≤p→ds'[p]? =ds[p]? :=by
 intro d
 induction d with
 | zero=>
  intro j n carry ds hj hn hc hl hd
  obtain⟨n,rfl⟩:∃m,n=m+1:=⟨n-1,by omega⟩
  have:j=b1.length:=by omega
  subst this
  refine⟨carry,ds,?_,hc,hl,hd,?_,fun p _=>rfl⟩
  ·show qcm k (qb2 k n) _ _ _ _ _ _ _ _ _ _ _ _=_
   unfold qcm
   simp -implicitDefEqProofs (maxSteps:=2000000) (disch:=omega) only [ps,↓reduceIte,reduceCtorEq,Int.reduceLT,Int.reduceLE,Int.reduceEq,Nat.reduceLT,Nat.reduceLeDiff,Nat.reduceEqDiff,Int.reduceNeg,qc]
  ·rw [List.drop_length];simp [V]
 | succ d ih=>
  intro j n carry ds hj hn hc hl hd
  obtain⟨n,rfl⟩:∃m,n=m+1:=⟨n-1,by omega⟩
  obtain⟨b,hbj⟩:=qI (show j<b1.length by omega)
  obtain⟨o,ho⟩:=qI (show i+j<ds.length by omega)
  have hbb:=hb.get hbj
  have hob:=hd.get ho
  have h1:((j:Int)+1)=((j+1:Nat):Int):=rfl
  have h2:((i:Int)+(j:Int))=((i+j:Nat):Int):=rfl
  unfold U at ha hbb hob hc
  have hm1:=Int.mul_nonneg ha.1 hbb.1
  have hm2:a*b≤65535*b:=Int.mul_le_mul_of_nonneg_right (by omega) hbb.1
  have hdm:=Int.emod_add_mul_ediv (o+a*b+carry) U
  obtain⟨c',o',q1,q2,q3,q4,q5,q6⟩:=ih (j+1) n ((o+a*b+carry) / U) (ds.set (i+j) ((o+a*b+carry) % U)) (by omega) (by omega) (by unfold U;omega) (by simpa using hl) (hd.set _ (by unfold U;omega))
  refine⟨c',o',?_,q2,q3,q4,?_,fun p hp=> ?_⟩
  ·rw [←q1]
   show qcm k (qb2 k n) _ _ _ _ _ _ _ _ _ _ _ _=_
   unfold qcm
   simp -implicitDefEqProofs (maxSteps:=2000000) (disch:=omega) only [ps,↓reduceIte,reduceCtorEq,Int.reduceLT,Int.reduceLE,Int.reduceEq,Nat.reduceLT,Nat.reduceLeDiff,Nat.reduceEqDiff,Int.reduceNeg,qc,hai,hbj,h1,h2,ho,qc6,qc7]
  ·rw [q5,qhZ _ ho,qcb hbj,←Nat.add_assoc,Int.pow_succ]
   grind
  ·rw [q6 p hp,List.getElem?_set_ne (by omega)]
theorem qoz (k:Nat) (a0 b0:Bool) (a1 b1:List Int) (ha:Dg U a1) (hb:Dg U b1) (hla:a1.length≤1000000000) (hlb:b1.length≤1000000000) (hk:b1.length<k):
  ∀(d i n:Nat) (ds:List Int),i+d=a1.length→d<n→ds.length=a1.length+b1.length→Dg U ds→V U ds=V U (a1.take i)*V U b1→(∀p,i+b1.length≤p→p<ds.length→ds[p]? =some 0)→
  ∃ds',qb3 k n (a1.length+b1.length) i a0 a1 b0 b1 false 0 ds []=some (a1.length+b1.length,a0,a1,b0,b1,false,0,ds',[])∧ds'.length=a1.length+b1.length∧Dg U ds'∧V U ds'=V U a1*V U b1:=by
 intro d
 induction d with
 | zero=>
  intro i n ds hi hn hl hd e h0
  obtain⟨n,rfl⟩:∃m,n=m+1:=⟨n-1,by omega⟩
  have:i=a1.length:=by omega
  subst this
  refine⟨ds,?_,hl,hd,by rw [e,List.take_length]⟩
  show qcn k (qb3 k n) _ _ _ _ _ _ _ _ _ _=_
  unfold qcn
  simp -implicitDefEqProofs (maxSteps:=2000000) (disch:=omega) only [ps,↓reduceIte,reduceCtorEq,Int.reduceLT,Int.reduceLE,Int.reduceEq,Nat.reduceLT,Nat.reduceLeDiff,Nat.reduceEqDiff,Int.reduceNeg,qc]
 | succ d ih=>
  intro i n ds hi hn hl hd e h0
  obtain⟨n,rfl⟩:∃m,n=m+1:=⟨n-1,by omega⟩
  obtain⟨a,hai⟩:=qI (show i<a1.length by omega)
  have hab:=ha.get hai
  obtain⟨c',o',q1,q2,q3,q4,q5,q6⟩:=qoy k a0 b0 a1 b1 hb i a hai hab (a1.length+b1.length) (by omega) (by omega) b1.length 0 k 0 ds (by omega) (by omega) (by decide) hl hd
  have hz:o'[i+b1.length]? =some 0:=by rw [q6 _ (Nat.le_refl _)];exact h0 _ (Nat.le_refl _) (by omega)
  have h1:((i:Int)+1)=((i+1:Nat):Int):=rfl
  have h2:((i:Int)+(b1.length:Int))=((i+b1.length:Nat):Int):=rfl
  have e2:V U (o'.set (i+b1.length) c')=V U (a1.take (i+1))*V U b1:=by
   rw [qhZ _ hz,qdU hai,Int.sub_zero]
   simp only [Nat.add_zero,List.drop_zero,Int.zero_mul,Int.add_zero] at q5
   rw [e] at q5
   rw [Int.add_mul,Int.mul_comm (U^i) a,←q5,Int.mul_comm c']
  have e3:∀p,(i+1)+b1.length≤p→p<(o'.set (i+b1.length) c').length→(o'.set (i+b1.length) c')[p]? =some 0:=by
   intro p hp hpl
   rw [List.getElem?_set_ne (by omega),q6 p (by omega)]
   exact h0 p (by omega) (by simp at hpl;omega)
  obtain⟨o2,r1,r2⟩:=ih (i+1) n (o'.set (i+b1.length) c') (by omega) (by omega) (by simpa using q3) (q4.set _ q2) e2 e3
  refine⟨o2,?_,r2⟩
  rw [←r1]
  show qcn k (qb3 k n) _ _ _ _ _ _ _ _ _ _=_
  unfold qcn
  have q1':qb2 k k (a1.length+b1.length) i 0 0 a0 a1 b0 b1 false 0 ds []=_:=q1
  unfold U at q2
  simp -implicitDefEqProofs (maxSteps:=2000000) (disch:=omega) only [ps,↓reduceIte,reduceCtorEq,Int.reduceLT,Int.reduceLE,Int.reduceEq,Nat.reduceLT,Nat.reduceLeDiff,Nat.reduceEqDiff,Int.reduceNeg,qc,q1',h1,h2,hz,Int.zero_add]
theorem qgO (a0 b0:Bool) (a1 b1:List Int) {x y:Int} (nx:Nm U a0 a1 x) (ny:Nm U b0 b1 y) (hx:a1.length≤1000000) (hy:b1.length≤1000000):
  ∃s l,Rn (fun k=>qX k a0 a1 b0 b1) (s,l)∧Nm U s l (x*y)∧l.length≤a1.length+b1.length:=by
 have hU:(0:Int)<U:=by decide
 have main:∀k,a1.length+b1.length<k→∃ds',qb3 k k (a1.length+b1.length) (0:Int) a0 a1 b0 b1 false 0 (List.replicate (a1.length+b1.length) 0) []=some (a1.length+b1.length,a0,a1,b0,b1,false,0,ds',[])∧ds'.length=a1.length+b1.length∧Dg U ds'∧V U ds'=V U a1*V U b1:=by
  intro k hk
  refine qoz k a0 b0 a1 b1 nx.c.1 ny.c.1 (by omega) (by omega) (by omega) a1.length 0 k _ (by omega) (by omega) (by simp) (Dg.rep _ hU) (by rw [qmv];simp [V]) ?_
  intro p _ hp
  rw [List.getElem?_replicate_of_lt (by simpa using hp)]
 obtain⟨o,q1,q2,q3,q4⟩:=main (a1.length+b1.length+1) (by omega)
 have hto:=qcw o
 have hdec:∀l:List Int,decide ((0:Int)<(l.length:Int))=decide (0<l.length):=fun l=>by congr 1;simp
 refine⟨if(!(a0 == b0))=true then decide (0<(tl o).length)else false,tl o,?_,(qlj (a0:= !(a0 == b0)) (Cn.of q3) (by rw [qhc,q4])).cast ?_,by omega⟩
 ·refine Rn.up (f:=fun k=>qX k a0 a1 b0 b1) (Rn.eq (a1.length+b1.length+3) fun k hk=> ?_)
  show qfw k a0 a1 b0 b1=_
  unfold qfw
  obtain⟨o',r1,r2,r3,r4⟩:=main k (by omega)
  have ho:tl o'=tl o:=Cn.ext hU (Cn.of r3) (Cn.of q3) (by rw [qhc,qhc,r4,q4])
  have hto':=qcw o'
  have h2:((a1.length:Int)+(b1.length:Int))=((a1.length+b1.length:Nat):Int):=rfl
  have ht:=qkD o' (by omega) k (by omega)
  rw [r2] at ht
  have htt:=qgF o'
  rw [ho] at ht htt hto'
  simp -implicitDefEqProofs (maxSteps:=2000000) (disch:=omega) only [ps,↓reduceIte,reduceCtorEq,Int.reduceLT,Int.reduceLE,Int.reduceEq,Nat.reduceLT,Nat.reduceLeDiff,Nat.reduceEqDiff,Int.reduceNeg,qc,h2,r1,ht]
  by_cases hs:a0=b0
  ·simp -implicitDefEqProofs (maxSteps:=2000000) (disch:=omega) only [ps,↓reduceIte,reduceCtorEq,Int.reduceLT,Int.reduceLE,Int.reduceEq,Nat.reduceLT,Nat.reduceLeDiff,Nat.reduceEqDiff,Int.reduceNeg,qc,hs,htt]
  ·simp -implicitDefEqProofs (maxSteps:=2000000) (disch:=omega) only [ps,↓reduceIte,reduceCtorEq,Int.reduceLT,Int.reduceLE,Int.reduceEq,Nat.reduceLT,Nat.reduceLeDiff,Nat.reduceEqDiff,Int.reduceNeg,qc,hs,htt,hdec]
 ·rw [←nx.z,←ny.z]
  cases a0<;>cases b0<;>simp [Int.neg_mul,Int.mul_neg]

theorem qrN {X Y Q R:Int} (h:Y*Q+R=X) (h0:0≤R) (h1:R<Y):Q=X / Y∧R=X % Y:=by
 subst h
 have hY:Y≠0:=by omega
 constructor
 ·rw [Int.add_comm,Int.add_mul_ediv_left _ _ hY,Int.ediv_eq_zero_of_lt h0 h1];omega
 ·rw [Int.add_comm,Int.add_mul_emod_self_left,Int.emod_eq_of_lt h0 h1]
theorem qtk (sx sy:Bool) {X Y:Int} (hX:0≤X):(if sx then -X else X).tdiv (if sy then -Y else Y)=if(!(sx == sy))then -(X / Y)else X / Y:=by
 have h:X.tdiv Y=X / Y:=qc6 hX
 cases sx<;>cases sy<;>simp [Int.neg_tdiv,Int.tdiv_neg,h]
theorem qtl (sx sy:Bool) {X Y:Int} (hX:0≤X):(if sx then -X else X).tmod (if sy then -Y else Y)=if sx then -(X % Y)else X % Y:=by
 have h:X.tmod Y=X % Y:=qc7 hX
 cases sx<;>cases sy<;>simp [Int.neg_tmod,Int.tmod_neg,h]
theorem qlk {q r b:Int} (hb:0<b):b*q≤r↔q≤r / b:=by
 rw [Int.le_ediv_iff_mul_le hb,Int.mul_comm]
theorem qqo (r b:List Int) (cr:Cn U r) (cb:Cn U b) (hb:0<V U b) (hlr:r.length≤900000) (hlb:b.length≤900000):
  ∀(m:Nat) (low high:Int),high-low<2^m→0≤low→low≤V U r / V U b→V U r / V U b≤high→high≤65535→
  ∃K,∀k n,K≤k→m<n→qbq k n r b low high=some (V U r / V U b):=by
 intro m
 induction m with
 | zero=>
  intro low high h1 h2 h3 h4 h5
  refine⟨0,fun k n _ hn=> ?_⟩
  obtain⟨n,rfl⟩:∃m,n=m+1:=⟨n-1,by omega⟩
  have:low=V U r / V U b:=by simp at h1;omega
  rw [←this] at h4 ⊢
  show qaa k (qbq k n) _ _ _ _=_
  unfold qaa
  simp at h1
  simp -implicitDefEqProofs (maxSteps:=2000000) (disch:=omega) only [ps,↓reduceIte,reduceCtorEq,Int.reduceLT,Int.reduceLE,Int.reduceEq,Nat.reduceLT,Nat.reduceLeDiff,Nat.reduceEqDiff,Int.reduceNeg,qc]
 | succ m ih=>
  intro low high h1 h2 h3 h4 h5
  by_cases h:low<high
  ·have hm:high-low<2*2^m:=by rw [Int.pow_succ] at h1;omega
   obtain⟨q,hq⟩:∃q,q=(low+high+1) / 2:=⟨_,rfl⟩
   obtain⟨l,⟨K1,s1⟩,s2,s3⟩:=qhM q (by omega)
   have hq0:decide (q<0)=false:=by simp;omega
   rw [hq0] at s1 s2
   obtain⟨s,t,⟨K2,t1⟩,t2,t3⟩:=qgO false false b l (qhN cb rfl) s2 (by omega) (by omega)
   obtain⟨K3,c1⟩:=qlK t r (by omega) (by omega) t2.c cr
   have hvt:V U t=V U b*q:=by
    have e:=t2.abs (by decide)
    have:0≤V U b*q:=Int.mul_nonneg (by omega) (by omega)
    omega
   rw [hvt] at c1
   have e1:IntKind.i64.wrap (Int.tdiv (IntKind.i64.wrap (IntKind.i64.wrap (low+high)+1)) 2)=q:=by
    rw [qf (x:=low+high) (by omega),qf (x:=low+high+1) (by omega),qc6 (by omega),qf (by omega)]
    exact hq.symm
   by_cases hle:V U b*q≤V U r
   ·obtain⟨K4,i1⟩:=ih q high (by omega) (by omega) ((qlk hb).1 hle) h4 h5
    refine⟨max K1 (max K2 (max K3 K4)),fun k n hk hn=> ?_⟩
    obtain⟨n,rfl⟩:∃m,n=m+1:=⟨n-1,by omega⟩
    rw [←i1 k n (by omega) (by omega)]
    have c:=c1 k (by omega)
    obtain⟨cz,hcz,hcases⟩:=qfn (V U b*q) (V U r)
    rw [hcz] at c
    have a1:=s1 k (by omega)
    have a2:=t1 k (by omega)
    show qaa k (qbq k n) _ _ _ _=_
    unfold qaa
    rw [e1]
    simp -implicitDefEqProofs (maxSteps:=2000000) (disch:=omega) only [ps,↓reduceIte,reduceCtorEq,Int.reduceLT,Int.reduceLE,Int.reduceEq,Nat.reduceLT,Nat.reduceLeDiff,Nat.reduceEqDiff,Int.reduceNeg,qc,a1,a2,c]
   ·have hgt:V U r / V U b≤q-1:=by
     have:=mt (qlk hb).2 hle
     omega
    obtain⟨K4,i1⟩:=ih low (q-1) (by omega) (by omega) h3 hgt (by omega)
    refine⟨max K1 (max K2 (max K3 K4)),fun k n hk hn=> ?_⟩
    obtain⟨n,rfl⟩:∃m,n=m+1:=⟨n-1,by omega⟩
    rw [←i1 k n (by omega) (by omega)]
    have c:=c1 k (by omega)
    obtain⟨cz,hcz,hcases⟩:=qfn (V U b*q) (V U r)
    rw [hcz] at c
    have a1:=s1 k (by omega)
    have a2:=t1 k (by omega)
    show qaa k (qbq k n) _ _ _ _=_
    unfold qaa
    rw [e1]
    simp -implicitDefEqProofs (maxSteps:=2000000) (disch:=omega) only [ps,↓reduceIte,reduceCtorEq,Int.reduceLT,Int.reduceLE,Int.reduceEq,Nat.reduceLT,Nat.reduceLeDiff,Nat.reduceEqDiff,Int.reduceNeg,qc,a1,a2,c]
  ·refine⟨0,fun k n _ hn=> ?_⟩
   obtain⟨n,rfl⟩:∃m,n=m+1:=⟨n-1,by omega⟩
   have:low=V U r / V U b:=by omega
   rw [←this] at h4 ⊢
   show qaa k (qbq k n) _ _ _ _=_
   unfold qaa
   simp -implicitDefEqProofs (maxSteps:=2000000) (disch:=omega) only [ps,↓reduceIte,reduceCtorEq,Int.reduceLT,Int.reduceLE,Int.reduceEq,Nat.reduceLT,Nat.reduceLeDiff,Nat.reduceEqDiff,Int.reduceNeg,qc]
theorem qtm (r b:List Int) (cr:Cn U r) (cb:Cn U b) (hb:0<V U b) (hlr:r.length≤900000) (hlb:b.length≤900000) (hq:V U r<U*V U b):Rn (fun k=>qcs k r b) (V U r / V U b):=by
 refine Rn.up (f:=fun k=>qcs k r b) ?_
 show Rn (fun k=>qfx k r b) _
 unfold qfx
 have hr0:=qr (B:=U) (by decide) cr.1
 refine Rn.bind (qlK r b (by omega) (by omega) cr cb) ?_
 obtain⟨cz,hcz,hcases⟩:=qfn (V U r) (V U b)
 rw [hcz]
 by_cases h:V U r<V U b
 ·have:V U r / V U b=0:=Int.ediv_eq_zero_of_lt hr0 h
  rw [this]
  (first | (refine Rn.t ?hc ?_;case hc=>simp -implicitDefEqProofs (maxSteps:=2000000) (disch:=omega) only [ps,↓reduceIte,reduceCtorEq,Int.reduceLT,Int.reduceLE,Int.reduceEq,Nat.reduceLT,Nat.reduceLeDiff,Nat.reduceEqDiff,Int.reduceNeg,qc]) | (refine Rn.f ?hc ?_;case hc=>simp -implicitDefEqProofs (maxSteps:=2000000) (disch:=omega) only [ps,↓reduceIte,reduceCtorEq,Int.reduceLT,Int.reduceLE,Int.reduceEq,Nat.reduceLT,Nat.reduceLeDiff,Nat.reduceEqDiff,Int.reduceNeg,qc]))
  exact Rn.pure _
 ·have q0:0≤V U r / V U b:=Int.ediv_nonneg hr0 (by omega)
  have q1:V U r / V U b<U:=Int.ediv_lt_of_lt_mul hb hq
  have q2:V U r / V U b<65536:=q1
  obtain⟨K,h1⟩:=qqo r b cr cb hb hlr hlb 16 0 65535 (by decide) (by decide) q0 (by omega) (by decide)
  (first | (refine Rn.t ?hc ?_;case hc=>simp -implicitDefEqProofs (maxSteps:=2000000) (disch:=omega) only [ps,↓reduceIte,reduceCtorEq,Int.reduceLT,Int.reduceLE,Int.reduceEq,Nat.reduceLT,Nat.reduceLeDiff,Nat.reduceEqDiff,Int.reduceNeg,qc]) | (refine Rn.f ?hc ?_;case hc=>simp -implicitDefEqProofs (maxSteps:=2000000) (disch:=omega) only [ps,↓reduceIte,reduceCtorEq,Int.reduceLT,Int.reduceLE,Int.reduceEq,Nat.reduceLT,Nat.reduceLeDiff,Nat.reduceEqDiff,Int.reduceNeg,qc]))
  exact Rn.bind (Rn.eq (K+17) fun k hk=>h1 k k (by omega) (by omega)) (Rn.pure _)

theorem qrO (b1 r:List Int) (x1:Int) (hx:0≤x1∧x1<U) (cb:Cn U b1) (hb:0<V U b1) (cr:Cn U r) (hr:V U r<V U b1) (hlr:r.length≤800000) (hlb:b1.length≤800000):
  ∃d,(0≤d∧d<U)∧Rn (fun k=>qcs k (tl (x1::r)) b1) d∧Rn (fun k=>qE k (1+r.length) (x1::r)) ((tl (x1::r)).length,x1::r)∧
   (d=0→V U (tl (x1::r))<V U b1)∧(0<d→∃l s t m,Rn (fun k=>qW k d) (false,l)∧Rn (fun k=>qX k false b1 false l) (s,t)∧Rn (fun k=>qaE k (tl (x1::r)) t) m∧
    Cn U m∧V U m<V U b1∧V U m+V U b1*d=x1+U*V U r∧m.length≤b1.length):=by
 have hr0:=qr (B:=U) (by decide) cr.1
 have dn:Dg U (x1::r):=Dg.cons hx cr.1
 have cn:Cn U (tl (x1::r)):=Cn.of dn
 have vn:V U (tl (x1::r))=x1+U*V U r:=by rw [qhc];rfl
 have ln:=qcw (x1::r)
 have hlen:(x1::r).length=r.length+1:=rfl
 have hlt:V U (tl (x1::r))<U*V U b1:=by
  have:U*(V U r+1)≤U*V U b1:=Int.mul_le_mul_of_nonneg_left (by omega) (by decide)
  rw [vn];rw [Int.mul_add,Int.mul_one] at this;omega
 have hn0:=qr (B:=U) (by decide) cn.1
 have hd:=qtm (tl (x1::r)) b1 cn cb hb (by omega) (by omega) hlt
 have q0:0≤V U (tl (x1::r)) / V U b1:=Int.ediv_nonneg hn0 (by omega)
 have q1:V U (tl (x1::r)) / V U b1<U:=Int.ediv_lt_of_lt_mul hb hlt
 have qm:=Int.emod_add_mul_ediv (V U (tl (x1::r))) (V U b1)
 have qa:=Int.emod_nonneg (V U (tl (x1::r))) (show V U b1≠0 by omega)
 have qb:=Int.emod_lt_of_pos (V U (tl (x1::r))) hb
 refine⟨_,⟨q0,q1⟩,hd,?_,?_,?_⟩
 ·have:=qti (1+r.length) (x1::r) (by omega) (by omega)
  rwa [List.take_of_length_le (by omega)] at this
 ·intro h;rw [h] at qm;omega
 ·intro h
  generalize V U (tl (x1::r)) / V U b1=d at*
  have q2:d<65536:=q1
  obtain⟨l,s1,s2,s3⟩:=qhM d (by omega)
  have hq0:decide (d<0)=false:=by simp;omega
  rw [hq0] at s1 s2
  obtain⟨s,t,t1,t2,t3⟩:=qgO false false b1 l (qhN cb rfl) s2 (by omega) (by omega)
  have hvt:V U t=V U b1*d:=by
   have e:=t2.abs (by decide)
   have:0≤V U b1*d:=Int.mul_nonneg (by omega) (by omega)
   omega
  obtain⟨m,m1,m2,m3,m4⟩:=qkE (tl (x1::r)) t (by omega) cn.1 t2.c (by omega)
  refine⟨l,s,t,m,s1,t1,m1,m2,by omega,by omega,?_⟩
  refine Nat.le_of_not_lt fun hlt=> ?_
  have:=Cn.len_lt (B:=U) (by decide) cb m2 hlt
  omega
def Dst (q:Nat) (i:Int) (a0:Bool) (a1:List Int) (b0:Bool) (b1 qs r:List Int) (x:((Nat×Nat×Int×Bool×List Int×Bool×List Int×Bool×Nat×Bool×Nat×List Int×List Int×List Int×List Int) ⊕ (Nat×List Int×Int×Bool×List Int×Bool×List Int×Bool×Nat×Bool×Nat×List Int×List Int×List Int))):Prop:=
 (∃mem m1 m2,x= .inl (q,r.length,i,a0,a1,b0,b1,false,0,false,0,qs,mem,m1,m2)∧r.length≤mem.length∧mem.take r.length=r)∨(∃m1 m2,x= .inr (q,r,i,a0,a1,b0,b1,false,0,false,0,qs,m1,m2))
def qBZ (q:Nat) (a0:Bool) (a1:List Int) (b0:Bool) (b1 qs r:List Int) (x:((Nat×Nat×Bool×List Int×Bool×List Int×Bool×Nat×Bool×Nat×List Int×List Int×List Int×List Int) ⊕ (Nat×List Int×Bool×List Int×Bool×List Int×Bool×Nat×Bool×Nat×List Int×List Int×List Int))):Prop:=
 (∃mem m1 m2,x= .inl (q,r.length,a0,a1,b0,b1,false,0,false,0,qs,mem,m1,m2)∧r.length≤mem.length∧mem.take r.length=r)∨(∃m1 m2,x= .inr (q,r,a0,a1,b0,b1,false,0,false,0,qs,m1,m2))
theorem qo8 {b vq vr x d va vm:Int} (h:b*vq+vr=va) (e:vm+b*d=x+U*vr):b*(d+U*vq)+vm=x+U*va:=by
 subst h;grind
theorem qtn (a0 b0:Bool) (a1 b1:List Int) (da:Dg U a1) (cb:Cn U b1) (hb:0<V U b1) (hla:a1.length≤800000) (hlb:b1.length≤800000):
  ∀(e:Nat) (qs r:List Int) x,e≤a1.length→qs.length=a1.length→Dg U qs→Cn U r→V U r<V U b1→V U b1*V U (qs.drop e)+V U r=V U (a1.drop e)→Dst a1.length ((e:Int)-1) a0 a1 b0 b1 qs r x→
  ∃qs' r' y,qBZ a1.length a0 a1 b0 b1 qs' r' y∧(qs'.length=a1.length∧Dg U qs'∧Cn U r'∧V U r'<V U b1∧V U b1*V U qs'+V U r'=V U a1)∧∃K,∀k n,K≤k→e<n→qO k n x=some y:=by
 intro e
 induction e with
 | zero=>
  intro qs r x he hl dq cr hr hv hx
  rcases hx with ⟨mem,m1,m2,rfl,h1,h2⟩ | ⟨m1,m2,rfl⟩
  ·refine⟨qs,r,_,.inl ⟨mem,m1,m2,rfl,h1,h2⟩,⟨hl,dq,cr,hr,by simpa using hv⟩,0,fun k n _ hn=> ?_⟩
   obtain⟨n,rfl⟩:∃m,n=m+1:=⟨n-1,by omega⟩
   show qz k (qO k n) _=_
   unfold qz
   simp -implicitDefEqProofs (maxSteps:=2000000) (disch:=omega) only [ps,↓reduceIte,reduceCtorEq,Int.reduceLT,Int.reduceLE,Int.reduceEq,Nat.reduceLT,Nat.reduceLeDiff,Nat.reduceEqDiff,Int.reduceNeg,qc,qc,Int.zero_sub,Int.natCast_zero]
  ·refine⟨qs,r,_,.inr ⟨m1,m2,rfl⟩,⟨hl,dq,cr,hr,by simpa using hv⟩,0,fun k n _ hn=> ?_⟩
   obtain⟨n,rfl⟩:∃m,n=m+1:=⟨n-1,by omega⟩
   show qz k (qO k n) _=_
   unfold qz
   simp -implicitDefEqProofs (maxSteps:=2000000) (disch:=omega) only [ps,↓reduceIte,reduceCtorEq,Int.reduceLT,Int.reduceLE,Int.reduceEq,Nat.reduceLT,Nat.reduceLeDiff,Nat.reduceEqDiff,Int.reduceNeg,qc,qc,Int.zero_sub,Int.natCast_zero]
 | succ j ih=>
  intro qs r x he hl dq cr hr hv hx
  have hlr:r.length≤b1.length:=by
   refine Nat.le_of_not_lt fun hlt=> ?_
   have:=Cn.len_lt (B:=U) (by decide) cb cr hlt
   omega
  obtain⟨x1,hx1⟩:=qI (show j<a1.length by omega)
  obtain⟨x2,hx2⟩:=qI (show j<qs.length by omega)
  obtain⟨d,hd,⟨K1,h1⟩,⟨K2,h2⟩,h3,h4⟩:=qrO b1 r x1 (da.get hx1) cb hb cr hr (by omega) hlb
  have hjj:((j+1:Nat):Int)-1=(j:Int):=by omega
  have hdrop:(qs.set j d).drop j=d::qs.drop (j+1):=by
   rw [List.drop_eq_getElem_cons (by simp;omega)]
   simp [List.drop_set_of_lt]
  have htl:=qgF (x1::r)
  have ltl:=qcw (x1::r)
  have hlen:(x1::r).length=r.length+1:=rfl
  have hVa:=qcb (B:=U) hx1
  rw [hjj] at hx
  by_cases hd0:d=0
  ·have hlt:=h3 hd0
   subst hd0
   have cn:Cn U (tl (x1::r)):=Cn.of (Dg.cons (da.get hx1) cr.1)
   have vn:V U (tl (x1::r))=x1+U*V U r:=by rw [qhc];rfl
   have key:=ih (qs.set j 0) (tl (x1::r))
   have hvv:V U b1*V U ((qs.set j 0).drop j)+V U (tl (x1::r))=V U (a1.drop j):=by
    rw [hdrop,hVa];simp only [V];exact qo8 hv (by rw [vn];omega)
   rcases hx with ⟨mem,m1,m2,rfl,g1,g2⟩ | ⟨m1,m2,rfl⟩
   ·obtain⟨qs',r',y,i1,i2,K,i3⟩:=key _ (by omega) (by simpa using hl) (dq.set j hd) cn hlt hvv (.inl ⟨x1::r,m1,m2,rfl,ltl,htl⟩)
    refine⟨qs',r',y,i1,i2,max K (max K1 K2),fun k n hk hn=> ?_⟩
    obtain⟨n,rfl⟩:∃m,n=m+1:=⟨n-1,by omega⟩
    rw [←i3 k n (by omega) (by omega)]
    have c1:=h1 k (by omega)
    have c2:=h2 k (by omega)
    show qz k (qO k n) _=_
    unfold qz
    simp only [qc]
    simp -implicitDefEqProofs (maxSteps:=2000000) (disch:=omega) only [ps,↓reduceIte,reduceCtorEq,Int.reduceLT,Int.reduceLE,Int.reduceEq,Nat.reduceLT,Nat.reduceLeDiff,Nat.reduceEqDiff,Int.reduceNeg,qc,g2,hx1,hx2,c1,c2,htl,List.take_succ_cons,List.cons_append]
   ·obtain⟨qs',r',y,i1,i2,K,i3⟩:=key _ (by omega) (by simpa using hl) (dq.set j hd) cn hlt hvv (.inl ⟨x1::r,m1,m2,rfl,ltl,htl⟩)
    refine⟨qs',r',y,i1,i2,max K (max K1 K2),fun k n hk hn=> ?_⟩
    obtain⟨n,rfl⟩:∃m,n=m+1:=⟨n-1,by omega⟩
    rw [←i3 k n (by omega) (by omega)]
    have c1:=h1 k (by omega)
    have c2:=h2 k (by omega)
    show qz k (qO k n) _=_
    unfold qz
    simp only [qc]
    simp -implicitDefEqProofs (maxSteps:=2000000) (disch:=omega) only [ps,↓reduceIte,reduceCtorEq,Int.reduceLT,Int.reduceLE,Int.reduceEq,Nat.reduceLT,Nat.reduceLeDiff,Nat.reduceEqDiff,Int.reduceNeg,qc,hx1,hx2,c1,c2,htl,List.take_succ_cons,List.cons_append]
  ·obtain⟨l,s,t,m,⟨K3,s1⟩,⟨K4,s2⟩,⟨K5,s3⟩,s4,s5,s6,s7⟩:=h4 (by omega)
   have key:=ih (qs.set j d) m
   have hvv:V U b1*V U ((qs.set j d).drop j)+V U m=V U (a1.drop j):=by
    rw [hdrop,hVa];simp only [V];exact qo8 hv s6
   rcases hx with ⟨mem,m1,m2,rfl,g1,g2⟩ | ⟨m1,m2,rfl⟩
   ·obtain⟨qs',r',y,i1,i2,K,i3⟩:=key _ (by omega) (by simpa using hl) (dq.set j hd) s4 s5 hvv (.inr ⟨m1,m2,rfl⟩)
    refine⟨qs',r',y,i1,i2,max K (max (max K1 K2) (max K3 (max K4 K5))),fun k n hk hn=> ?_⟩
    obtain⟨n,rfl⟩:∃m,n=m+1:=⟨n-1,by omega⟩
    rw [←i3 k n (by omega) (by omega)]
    have c1:=h1 k (by omega)
    have c2:=h2 k (by omega)
    have c3:=s1 k (by omega)
    have c4:=s2 k (by omega)
    have c5:=s3 k (by omega)
    show qz k (qO k n) _=_
    unfold qz
    simp only [qc]
    simp -implicitDefEqProofs (maxSteps:=2000000) (disch:=omega) only [ps,↓reduceIte,reduceCtorEq,Int.reduceLT,Int.reduceLE,Int.reduceEq,Nat.reduceLT,Nat.reduceLeDiff,Nat.reduceEqDiff,Int.reduceNeg,qc,g2,hx1,hx2,c1,c2,c3,c4,c5,htl,List.take_succ_cons,List.cons_append]
   ·obtain⟨qs',r',y,i1,i2,K,i3⟩:=key _ (by omega) (by simpa using hl) (dq.set j hd) s4 s5 hvv (.inr ⟨m1,m2,rfl⟩)
    refine⟨qs',r',y,i1,i2,max K (max (max K1 K2) (max K3 (max K4 K5))),fun k n hk hn=> ?_⟩
    obtain⟨n,rfl⟩:∃m,n=m+1:=⟨n-1,by omega⟩
    rw [←i3 k n (by omega) (by omega)]
    have c1:=h1 k (by omega)
    have c2:=h2 k (by omega)
    have c3:=s1 k (by omega)
    have c4:=s2 k (by omega)
    have c5:=s3 k (by omega)
    show qz k (qO k n) _=_
    unfold qz
    simp only [qc]
    simp -implicitDefEqProofs (maxSteps:=2000000) (disch:=omega) only [ps,↓reduceIte,reduceCtorEq,Int.reduceLT,Int.reduceLE,Int.reduceEq,Nat.reduceLT,Nat.reduceLeDiff,Nat.reduceEqDiff,Int.reduceNeg,qc,hx1,hx2,c1,c2,c3,c4,c5,htl,List.take_succ_cons,List.cons_append]

abbrev mk (a1:List Int):List Int:=a1++ [11259375]
section
variable {a0 b0 : Bool} {a1 b1 : List Int} (la : a1.length ≤ 9223372036854775807) (lb : b1.length ≤ 9223372036854775807) (da : Dg W a1) (db : Dg W b1)
include la lb da db
end

set_option maxHeartbeats 1000000 in
theorem qha (a0 b0:Bool) (a1 b1:List Int) {x y:Int} (nx:Nm U a0 a1 x) (ny:Nm U b0 b1 y) (hla:a1.length≤800000) (hlb:b1.length≤800000) (hb0:b1≠ []):
  ∃s q t r,Rn (fun k=>qaU k a0 a1 b0 b1) (s,q,t,r)∧Nm U s q (x.tdiv y)∧Nm U t r (x.tmod y)∧q.length≤a1.length∧r.length≤b1.length:=by
 have hb:0<V U b1:=by
  have p:=qr (B:=U) (by decide) ny.c.1
  have:=mt (ny.c.nil_iff (B:=U) (by decide)).2 hb0
  omega
 have pa:=qr (B:=U) (by decide) nx.c.1
 obtain⟨qs,r,z,hz,⟨lq,dq,cr,hr,hv⟩,K,hl⟩:=qtn a0 b0 a1 b1 nx.c.1 ny.c hb hla hlb a1.length (List.replicate a1.length 0) [] _ (Nat.le_refl _) (by simp) (Dg.rep _ (by decide)) Cn.nil (by simpa [V] using hb) (by
  rw [List.drop_of_length_le (by simp),List.drop_of_length_le (by simp)];simp [V]) (.inl ⟨[],[],[],rfl,by simp,rfl⟩)
 have hr0:=qr (B:=U) (by decide) cr.1
 have hu:=qrN hv hr0 hr
 have cq:Cn U (tl qs):=Cn.of dq
 have e1:=qtk a0 b0 (Y:=V U b1) pa
 have e2:=qtl a0 b0 (Y:=V U b1) pa
 rw [nx.z,ny.z,←hu.1] at e1
 rw [nx.z,ny.z,←hu.2] at e2
 have n1:=qlj (a0:= !(a0 == b0)) cq (qhc qs)
 have n2:=qlj (a0:=a0) cr rfl
 have ltq:=qcw qs
 refine⟨_,_,_,_,?_,n1.cast e1.symm,n2.cast e2.symm,by omega,?_⟩
 ·refine Rn.up (f:=fun k=>qaU k a0 a1 b0 b1) (Rn.eq (K+a1.length+4) fun k hk=> ?_)
  show qe8 k a0 a1 b0 b1=_
  unfold qe8
  have hdec:∀l:List Int,decide ((0:Int)<(l.length:Int))=decide (0<l.length):=fun l=>by congr 1;simp
  have h1:qO k k (Sum.inl (a1.length,0,(a1.length:Int)-1,a0,a1,b0,b1,false,0,false,0,List.replicate a1.length 0,[],[],[]))=some z:=hl k k (by omega) (by omega)
  have h2:=qkD qs (by omega) k (by omega)
  rw [lq] at h2
  have h3:=qgF qs
  rcases hz with ⟨mem,m1,m2,rfl,g1,g2⟩ | ⟨m1,m2,rfl⟩
  ·simp -implicitDefEqProofs (maxSteps:=2000000) (disch:=omega) only [ps,↓reduceIte,reduceCtorEq,Int.reduceLT,Int.reduceLE,Int.reduceEq,Nat.reduceLT,Nat.reduceLeDiff,Nat.reduceEqDiff,Int.reduceNeg,qc,h1]
   simp -implicitDefEqProofs (maxSteps:=2000000) (disch:=omega) only [ps,↓reduceIte,reduceCtorEq,Int.reduceLT,Int.reduceLE,Int.reduceEq,Nat.reduceLT,Nat.reduceLeDiff,Nat.reduceEqDiff,Int.reduceNeg,qc,h2,g1]
   cases a0<;>cases b0<;>simp -implicitDefEqProofs (maxSteps:=2000000) (disch:=omega) only [ps,↓reduceIte,reduceCtorEq,Int.reduceLT,Int.reduceLE,Int.reduceEq,Nat.reduceLT,Nat.reduceLeDiff,Nat.reduceEqDiff,Int.reduceNeg,qc,h3,g2,hdec,if_true,if_false]
  ·simp -implicitDefEqProofs (maxSteps:=2000000) (disch:=omega) only [ps,↓reduceIte,reduceCtorEq,Int.reduceLT,Int.reduceLE,Int.reduceEq,Nat.reduceLT,Nat.reduceLeDiff,Nat.reduceEqDiff,Int.reduceNeg,qc,h1]
   simp -implicitDefEqProofs (maxSteps:=2000000) (disch:=omega) only [ps,↓reduceIte,reduceCtorEq,Int.reduceLT,Int.reduceLE,Int.reduceEq,Nat.reduceLT,Nat.reduceLeDiff,Nat.reduceEqDiff,Int.reduceNeg,qc,h2]
   cases a0<;>cases b0<;>simp -implicitDefEqProofs (maxSteps:=2000000) (disch:=omega) only [ps,↓reduceIte,reduceCtorEq,Int.reduceLT,Int.reduceLE,Int.reduceEq,Nat.reduceLT,Nat.reduceLeDiff,Nat.reduceEqDiff,Int.reduceNeg,qc,h3,hdec,if_true,if_false]
 ·refine Nat.le_of_not_lt fun hlt=> ?_
  have:=Cn.len_lt (B:=U) (by decide) ny.c cr hlt
  omega
theorem qoA (x0:Bool) (x1:Nat) (m:List Int) (M:Nat) (hM:M≤800000):∀(N:Nat) (a b:List Int),V U b≤N→Cn U a→Cn U b→a.length≤M→b.length≤M→
  ∃l b1,(∃K,∀k n,K≤k→N<n→qco k n false a false b x0 x1 m=some (false,l,false,b1,x0,x1,m))∧Cn U l∧V U l=Int.gcd (V U a) (V U b)∧l.length≤M:=by
 intro N
 induction N using Nat.strongRecOn with
 | ind N ih=>
  intro a b hN ca cb ha hb
  have pa:=qr (B:=U) (by decide) ca.1
  by_cases h0:b= []
  ·subst h0
   refine⟨a,[],⟨0,fun k n _ hn=> ?_⟩,ca,by simp [V];omega,ha⟩
   obtain⟨n,rfl⟩:∃m,n=m+1:=⟨n-1,by omega⟩
   show qcf k (qco k n) _ _ _ _ _ _ _=_
   unfold qcf
   simp -implicitDefEqProofs (maxSteps:=2000000) (disch:=omega) only [ps,↓reduceIte,reduceCtorEq,Int.reduceLT,Int.reduceLE,Int.reduceEq,Nat.reduceLT,Nat.reduceLeDiff,Nat.reduceEqDiff,Int.reduceNeg,qc]
  ·have pb:0<V U b:=by
    have p:=qr (B:=U) (by decide) cb.1
    have:=mt (cb.nil_iff (B:=U) (by decide)).2 h0
    omega
   obtain⟨s,q,t,r,⟨K1,h1⟩,h2,h3,h4,h5⟩:=qha false false a b (qhN ca rfl) (qhN cb rfl) (by omega) (by omega) h0
   have hr0:=Int.emod_nonneg (V U a) (show V U b≠0 by omega)
   have hr1:=Int.emod_lt_of_pos (V U a) pb
   rw [qc7 pa] at h3
   obtain⟨R,hR⟩:=Int.eq_ofNat_of_zero_le hr0
   have ht:t=false:=by rw [h3.neg (by decide)];simp;omega
   subst ht
   have hvr:V U r=R:=by rw [h3.abs (by decide),hR];rfl
   obtain⟨l,b1,⟨K2,i1⟩,i2,i3,i4⟩:=ih R (by omega) b r (by omega) cb h3.c hb (by omega)
   refine⟨l,b1,⟨max K1 K2,fun k n hk hn=> ?_⟩,i2,?_,i4⟩
   ·obtain⟨n,rfl⟩:∃m,n=m+1:=⟨n-1,by omega⟩
    rw [←i1 k n (by omega) (by omega)]
    have c1:=h1 k (by omega)
    have lb:0<b.length:=by
     cases b with
     | nil=>exact absurd rfl h0
     | cons _ _=>simp
    show qcf k (qco k n) _ _ _ _ _ _ _=_
    unfold qcf
    simp -implicitDefEqProofs (maxSteps:=2000000) (disch:=omega) only [ps,↓reduceIte,reduceCtorEq,Int.reduceLT,Int.reduceLE,Int.reduceEq,Nat.reduceLT,Nat.reduceLeDiff,Nat.reduceEqDiff,Int.reduceNeg,qc,c1]
   ·rw [i3,hvr,←hR]
    obtain⟨A,hA⟩:=Int.eq_ofNat_of_zero_le pa
    obtain⟨B,hB⟩:=Int.eq_ofNat_of_zero_le (Int.le_of_lt pb)
    rw [hA,hB]
    show(((Int.gcd (B:Int) ((A % B:Nat):Int)):Nat):Int)=_
    rw [Int.gcd_natCast_natCast,Int.gcd_natCast_natCast,Nat.gcd_comm,←Nat.gcd_rec,Nat.gcd_comm]
theorem ql2 (a0 b0:Bool) (a1 b1:List Int) {x y:Int} (nx:Nm U a0 a1 x) (ny:Nm U b0 b1 y) (hx:a1.length≤800000) (hy:b1.length≤800000):
  ∃l,Rn (fun k=>qcW k a0 a1 b0 b1) (false,l)∧Nm U false l (Int.gcd x y)∧l.length≤max a1.length b1.length:=by
 obtain⟨N,hN⟩:=Int.eq_ofNat_of_zero_le (qr (B:=U) (by decide) ny.c.1)
 obtain⟨l,b',⟨K,h1⟩,h2,h3,h4⟩:=qoA false 0 [] (max a1.length b1.length) (by omega) N a1 b1 (by omega) nx.c ny.c (by omega) (by omega)
 have e:(Int.gcd (V U a1) (V U b1):Int)=Int.gcd x y:=by
  have e1:=nx.z
  have e2:=ny.z
  rw [←e1,←e2]
  cases a0<;>cases b0<;>simp
 refine⟨l,Rn.up (f:=fun k=>qcW k a0 a1 b0 b1) ?_,qhN h2 (by rw [h3,e]),h4⟩
 have q1:Rn (fun k=>qb1 k a0 a1) (false,a1):=Rn.up (f:=fun k=>qb1 k a0 a1) (Rn.pure _)
 have q2:Rn (fun k=>qb1 k b0 b1) (false,b1):=Rn.up (f:=fun k=>qb1 k b0 b1) (Rn.pure _)
 refine Rn.bind (f:=fun k=>qb1 k a0 a1) q1 (Rn.bind q2 ?_)
 exact Rn.bind (x:=(false,l,false,b',false,0,[])) (Rn.eq (K+N+1) fun k hk=>h1 k k (by omega) (by omega)) (Rn.pure _)
section
variable {a0 b0 : Bool} {a1 b1 : List Int} (la : a1.length ≤ 9223372036854775807) (lb : b1.length ≤ 9223372036854775807) (da : Dg W a1) (db : Dg W b1)
include la lb da db
end

def qnX (n0:Bool) (n1:List Int) (d0:Bool) (d1:List Int):Int:=
 if Ri n0 n1∧Ri d0 d1 then(if d0=false∧d1≠ []∧Int.gcd (Zv W n0 n1) (Zv W d0 d1)=1 then 0 else 20)else 10
theorem qzw {d1:List Int} {d0:Bool} (h0:d0=false) (hne:d1≠ []) (cd:Cn W d1):0<Zv W d0 d1:=by
 subst h0
 have p:=qr (B:=W) (by decide) cd.1
 have q:=mt (cd.nil_iff (B:=W) (by decide)).2 hne
 simp [Zv];omega
theorem qqp {x y:Int} (hy:0<y) (hg:Int.gcd x y=1):(Rat.divInt x y).num=x∧((Rat.divInt x y).den:Int)=y:=by
 refine⟨?_,?_⟩
 ·rw [qnT x (by omega),if_neg (by omega),hg];simp
 ·rw [qnU x (by omega),if_neg (by omega),hg];simp
theorem qto {n0 d0:Bool} {n1 d1:List Int} (dn:Dg W n1) (dd:Dg W d1) (h:qnX n0 n1 d0 d1=0):∃q,Fr n0 n1 d0 d1 q∧n1.length≤72∧d1.length≤72:=by
 unfold qnX at h
 split at h
 ·rename_i hr
  split at h
  ·rename_i hc
   obtain⟨h1,h2,h3⟩:=hc
   have a:=hr.1.nm dn
   have b:=hr.2.nm dd
   obtain⟨e1,e2⟩:=qqp (qzw h1 h2 b.c) h3
   exact⟨Rat.divInt (Zv W n0 n1) (Zv W d0 d1),⟨a.cast e1.symm,b.cast e2.symm⟩,hr.1.1,hr.2.1⟩
  ·cases h
 ·cases h
section
variable {n0 d0 : Bool} {n1 d1 : List Int} (la : n1.length ≤ 9223372036854775807) (lb : d1.length ≤ 9223372036854775807) (da : Dg W n1) (db : Dg W d1)
include la lb da db
end
abbrev RT:=(Bool×List Int)×Bool×List Int
def RT.f (r:RT):Int:=qnX r.1.1 r.1.2 r.2.1 r.2.2
def RT.good (r:RT):Prop:=(r.1.2.length≤9223372036854775807∧Dg W r.1.2)∧r.2.2.length≤9223372036854775807∧Dg W r.2.2
section
variable {x0 x2 y0 y2 : Bool} {x1 x3 y1 y3 : List Int} {x y : Rat} (hx : Fr x0 x1 x2 x3 x) (hy : Fr y0 y1 y2 y3 y) (l1 : x1.length ≤ 72) (l3 : x3.length ≤ 72) (m1 : y1.length ≤ 72) (m3 : y3.length ≤ 72)
include hx hy l1 l3 m1 m3
end

structure Tx (z:Int) (s:ByteArray):Prop where
 nz:z=0→s=bytesOf [48]
 ex:z≠0→∃l,Cn 10 l∧V 10 l=z.natAbs∧s=bytesOf ((if z<0 then [45] else [])++(sg l).reverse)
theorem Tx.ext {z:Int} {s t:ByteArray} (h1:Tx z s) (h2:Tx z t):s=t:=by
 by_cases h:z=0
 ·rw [h1.nz h,h2.nz h]
 ·obtain⟨l,a1,a2,a3⟩:=h1.ex h
  obtain⟨m,b1,b2,b3⟩:=h2.ex h
  rw [a3,b3,Cn.ext (by decide) a1 b1 (by rw [a2,b2])]

theorem ql3 (k:Nat) (x0 a0:Bool):∀(d n:Nat) (u:Int) (l:List Int),0≤u∧u<U^d→u<18446744073709551616→d<n→l.length≤1000-d→d≤100→Dg U l→(u=0→Cn U l)→
  ∃l',qaS k n u x0 0 a0 l.length [] l=some (x0,0,a0,l'.length,[],l')∧Cn U l'∧V U l'=V U l+U^l.length*u∧l'.length≤l.length+d:=by
 intro d
 induction d with
 | zero=>
  intro n u l hu hub hn hl hd9 hd hc
  obtain⟨n,rfl⟩:∃m,n=m+1:=⟨n-1,by omega⟩
  have hu0:u=0:=by simp at hu;omega
  subst hu0
  refine⟨l,?_,hc rfl,by simp,by omega⟩
  show qbo k (qaS k n) _ _ _ _ _ _ _=_
  unfold qbo
  simp -implicitDefEqProofs (maxSteps:=2000000) (disch:=omega) only [ps,↓reduceIte,reduceCtorEq,Int.reduceLT,Int.reduceLE,Int.reduceEq,Nat.reduceLT,Nat.reduceLeDiff,Nat.reduceEqDiff,Int.reduceNeg,qc]
 | succ d ih=>
  intro n u l hu hub hn hl hd9 hd hc
  obtain⟨n,rfl⟩:∃m,n=m+1:=⟨n-1,by omega⟩
  by_cases hu0:u=0
  ·subst hu0
   refine⟨l,?_,hc rfl,by simp,by omega⟩
   show qbo k (qaS k n) _ _ _ _ _ _ _=_
   unfold qbo
   simp -implicitDefEqProofs (maxSteps:=2000000) (disch:=omega) only [ps,↓reduceIte,reduceCtorEq,Int.reduceLT,Int.reduceLE,Int.reduceEq,Nat.reduceLT,Nat.reduceLeDiff,Nat.reduceEqDiff,Int.reduceNeg,qc]
  ·have hu2:u / 65536<U^d:=by
    have:=hu.2
    rw [Int.pow_succ] at this
    unfold U at this ⊢
    omega
   have hdm:=Int.emod_add_mul_ediv u 65536
   have hlen:(l++ [u % 65536]).length=l.length+1:=by simp
   have hdl:Dg U (l++ [u % 65536]):=hd.snoc (by unfold U;omega)
   obtain⟨l',q1,q2,q3,q4⟩:=ih n (u / 65536) (l++ [u % 65536]) ⟨by omega,hu2⟩ (by omega) (by omega) (by rw [hlen];omega) (by omega) hdl (fun h=>⟨hdl,(Cn.last hdl).2 (.inr ⟨l,u % 65536,rfl,by omega⟩)⟩)
   refine⟨l',?_,q2,?_,by rw [hlen] at q4;omega⟩
   ·rw [hlen] at q1
    rw [←q1]
    show qbo k (qaS k n) _ _ _ _ _ _ _=_
    unfold qbo
    have ht:l.take l.length=l:=List.take_length
    simp -implicitDefEqProofs (maxSteps:=2000000) (disch:=omega) only [ps,↓reduceIte,reduceCtorEq,Int.reduceLT,Int.reduceLE,Int.reduceEq,Nat.reduceLT,Nat.reduceLeDiff,Nat.reduceEqDiff,Int.reduceNeg,qc,qc6,qc7,ht,List.take_succ_cons,List.length_cons]
   ·rw [q3,qg5,hlen,Int.pow_succ]
    unfold U
    grind
theorem qtp (v:Int) (hv: -9223372036854775808≤v∧v≤9223372036854775807):∃l,Rn (fun k=>qdz k v) (decide (v<0),l)∧Nm U (decide (v<0)) l v∧l.length≤4:=by
 have main:∀(x0:Bool) (u:Int),0≤u∧u<18446744073709551616→∃l,Cn U l∧V U l=u∧l.length≤4∧∀k,5≤k→qaS k k u false 0 x0 0 [] []=some (false,0,x0,l.length,[],l):=by
  intro x0 u hu
  have h4:u<U^4:=by unfold U;simpa using hu.2
  obtain⟨l,q1,q2,q3,q4⟩:=ql3 5 false x0 4 5 u [] ⟨hu.1,h4⟩ hu.2 (by omega) (by simp) (by omega) Dg.nil (fun _=>Cn.nil)
  refine⟨l,q2,by rw [q3];simp [V],by simpa using q4,fun k hk=> ?_⟩
  obtain⟨l',r1,r2,r3,r4⟩:=ql3 k false x0 4 k u [] ⟨hu.1,h4⟩ hu.2 (by omega) (by simp) (by omega) Dg.nil (fun _=>Cn.nil)
  have:l'=l:=Cn.ext (by decide) r2 q2 (by rw [r3,q3])
  subst this
  exact r1
 by_cases h:v<0
 ·obtain⟨l,h1,h2,h3,h4⟩:=main true (-v) (by omega)
  refine⟨l,?_,Nm.of (by decide) h1 (by omega),h3⟩
  refine Rn.up (f:=fun k=>qdz k v) (Rn.eq 5 fun k hk=> ?_)
  show qdy k v=_
  unfold qdy
  have e1:IntKind.u64.wrap (0-IntKind.u64.wrap v)= -v:=by rw [qgE,qgE];omega
  have hh:=h4 k hk
  rw [if_pos (by simpa using h),e1]
  simp -implicitDefEqProofs (maxSteps:=2000000) (disch:=omega) only [ps,↓reduceIte,reduceCtorEq,Int.reduceLT,Int.reduceLE,Int.reduceEq,Nat.reduceLT,Nat.reduceLeDiff,Nat.reduceEqDiff,Int.reduceNeg,qc,hh,List.take_length,h,decide_true,decide_false]
 ·obtain⟨l,h1,h2,h3,h4⟩:=main false v (by omega)
  refine⟨l,?_,Nm.of (by decide) h1 (by omega),h3⟩
  refine Rn.up (f:=fun k=>qdz k v) (Rn.eq 5 fun k hk=> ?_)
  show qdy k v=_
  unfold qdy
  have hh:=h4 k hk
  have e1:IntKind.u64.wrap v=v:=qbM (by omega)
  rw [if_neg (by simpa using h),e1]
  simp -implicitDefEqProofs (maxSteps:=2000000) (disch:=omega) only [ps,↓reduceIte,reduceCtorEq,Int.reduceLT,Int.reduceLE,Int.reduceEq,Nat.reduceLT,Nat.reduceLeDiff,Nat.reduceEqDiff,Int.reduceNeg,qc,hh,List.take_length,h,decide_true,decide_false]

def RT.d (r:RT):Nat:=(Zv W r.2.1 r.2.2).toNat
theorem RT.pos {r:RT} (hg:r.good) (h:r.f=0):0<r.d∧r.2.2.length≤72∧Nm W r.2.1 r.2.2 (r.d:Int):=by
 obtain⟨q,h1,h2,h3⟩:=qto hg.1.2 hg.2.2 h
 have e:Zv W r.2.1 r.2.2=q.den:=h1.2.z
 have p:=Rat.den_pos' q
 have ed:r.d=q.den:=by unfold RT.d;rw [e];rfl
 rw [ed]
 exact⟨by omega,h3,h1.2⟩

def FrU (n0:Bool) (n1:List Int) (d0:Bool) (d1:List Int) (q:Rat):Prop:=Nm U n0 n1 q.num∧Nm U d0 d1 (q.den:Int)
theorem FrU.cast {n0:Bool} {n1:List Int} {d0:Bool} {d1:List Int} {q q':Rat} (h:FrU n0 n1 d0 d1 q) (e:q=q'):FrU n0 n1 d0 d1 q':=e▸h
theorem qrP {a0:Bool} {a1:List Int} {x:Int} (h:Nm U a0 a1 x) (h0:x≠0):a1≠ []:=by
 intro e
 rw [e] at h
 have:=h.z
 cases a0<;>simp [V] at this<;>omega
theorem qqq (n0 d0:Bool) (n1 d1:List Int) {x y:Int} (nx:Nm U n0 n1 x) (ny:Nm U d0 d1 y) (hx:n1.length≤100000) (hy:d1.length≤100000) (hy0:y≠0):
  ∃s p t r,Rn (fun k=>qcY k n0 n1 d0 d1) (s,p,t,r)∧FrU s p t r (Rat.divInt x y)∧p.length≤n1.length∧r.length≤d1.length:=by
 have ex:=qnT x hy0
 have ey:=qnU x hy0
 have hgp:(Int.gcd x y:Int)≠0:=by
  have:=Int.gcd_pos_of_ne_zero_right x hy0
  omega
 have hs:=qo7 d0 d1 ny
 obtain⟨c,hc,hcc⟩:=qfn y 0
 rw [hc] at hs
 by_cases hneg:y<0
 ·rw [if_pos hneg,Int.tdiv_neg,←Int.neg_tdiv] at ex ey
  obtain⟨s1,l1,a1,a2,a3⟩:=qkF n0 n1 nx
  obtain⟨s2,l2,b1,b2,b3⟩:=qkF d0 d1 ny
  obtain⟨g,g1,g2,g3⟩:=ql2 s1 s2 l1 l2 a2 b2 (by omega) (by omega)
  have eg:(Int.gcd (-x) (-y):Int)=Int.gcd x y:=by rw [Int.gcd_neg,Int.neg_gcd]
  rw [eg] at g2
  have hgn:=qrP g2 hgp
  obtain⟨s3,q3,t3,r3,c1,c2,c3,c4,c5⟩:=qha s1 false l1 g a2 g2 (by omega) (by omega) hgn
  obtain⟨s4,q4,t4,r4,d1',d2,d3,d4,d5⟩:=qha s2 false l2 g b2 g2 (by omega) (by omega) hgn
  rw [←ex] at c2
  rw [←ey] at d2
  refine⟨s3,q3,s4,q4,Rn.up (f:=fun k=>qcY k n0 n1 d0 d1) ?_,⟨c2,d2⟩,by omega,by omega⟩
  show Rn (fun k=>qcX k n0 n1 d0 d1) _
  unfold qcX
  refine Rn.bind hs ?_
  (first | (refine Rn.t ?hc ?_;case hc=>simp -implicitDefEqProofs (maxSteps:=2000000) (disch:=omega) only [ps,↓reduceIte,reduceCtorEq,Int.reduceLT,Int.reduceLE,Int.reduceEq,Nat.reduceLT,Nat.reduceLeDiff,Nat.reduceEqDiff,Int.reduceNeg,qc]) | (refine Rn.f ?hc ?_;case hc=>simp -implicitDefEqProofs (maxSteps:=2000000) (disch:=omega) only [ps,↓reduceIte,reduceCtorEq,Int.reduceLT,Int.reduceLE,Int.reduceEq,Nat.reduceLT,Nat.reduceLeDiff,Nat.reduceEqDiff,Int.reduceNeg,qc]))
  exact Rn.bind a1 (Rn.bind b1 (Rn.bind g1 (Rn.bind c1 (Rn.bind d1' (Rn.pure _)))))
 ·rw [if_neg hneg] at ex ey
  obtain⟨g,g1,g2,g3⟩:=ql2 n0 d0 n1 d1 nx ny (by omega) (by omega)
  have hgn:=qrP g2 hgp
  obtain⟨s3,q3,t3,r3,c1,c2,c3,c4,c5⟩:=qha n0 false n1 g nx g2 (by omega) (by omega) hgn
  obtain⟨s4,q4,t4,r4,d1',d2,d3,d4,d5⟩:=qha d0 false d1 g ny g2 (by omega) (by omega) hgn
  rw [←ex] at c2
  rw [←ey] at d2
  refine⟨s3,q3,s4,q4,Rn.up (f:=fun k=>qcY k n0 n1 d0 d1) ?_,⟨c2,d2⟩,by omega,by omega⟩
  show Rn (fun k=>qcX k n0 n1 d0 d1) _
  unfold qcX
  refine Rn.bind hs ?_
  (first | (refine Rn.t ?hc ?_;case hc=>simp -implicitDefEqProofs (maxSteps:=2000000) (disch:=omega) only [ps,↓reduceIte,reduceCtorEq,Int.reduceLT,Int.reduceLE,Int.reduceEq,Nat.reduceLT,Nat.reduceLeDiff,Nat.reduceEqDiff,Int.reduceNeg,qc]) | (refine Rn.f ?hc ?_;case hc=>simp -implicitDefEqProofs (maxSteps:=2000000) (disch:=omega) only [ps,↓reduceIte,reduceCtorEq,Int.reduceLT,Int.reduceLE,Int.reduceEq,Nat.reduceLT,Nat.reduceLeDiff,Nat.reduceEqDiff,Int.reduceNeg,qc]))
  exact Rn.bind g1 (Rn.bind c1 (Rn.bind d1' (Rn.pure _)))
section
variable {n0 d0 : Bool} {n1 d1 : List Int} (la : n1.length ≤ 9223372036854775807) (lb : d1.length ≤ 9223372036854775807) (da : Dg W n1) (db : Dg W d1)
include la lb da db
end
theorem Rl.t {α:Type} {c:Prop} [Decidable c] {f g:Nat→Nat→Option α} {r:α} (h:c) (hf:Rl f r):Rl (fun k n=>if c then f k n else g k n) r:=by
 simpa only [if_pos h] using hf
theorem Rl.f {α:Type} {c:Prop} [Decidable c] {f g:Nat→Nat→Option α} {r:α} (h:¬c) (hg:Rl g r):Rl (fun k n=>if c then f k n else g k n) r:=by
 simpa only [if_neg h] using hg
theorem Rl.at {α β:Type} {o:Option α} {g:Nat→Nat→α→Option β} {x:α} {r:β} (h:o=some x) (hg:Rl (fun k n=>g k n x) r):Rl (fun k n=>Option.bind o (g k n)) r:=by
 simpa only [h,Option.bind_some] using hg
theorem getD_some {α:Type} {l:List α} {i:Nat} (d:α) (h:i<l.length):l[i]? =some (l.getD i d):=by
 rw [List.getElem?_eq_getElem h];simp [List.getD,h]
theorem qdb {A B:Type} (L s:Nat) (F:Nat→Nat→Int→Option (A ⊕ B)) (b:B) (P:A→Prop) (ok:Nat→Prop)
  (hend:Rl (fun k n=>F k n (L:Int)) (.inr b))
  (hgo:∀i:Nat,s≤i→i<L→ok i→∀o,Rl (fun k n=>F k n ((i:Int)+1)) o→Rl (fun k n=>F k n (i:Int)) o)
  (hno:∀i:Nat,s≤i→i<L→¬ok i→∃a,P a∧Rl (fun k n=>F k n (i:Int)) (.inl a)):
  ∀d i:Nat,s≤i→i+d=L→∃o,Rl (fun k n=>F k n (i:Int)) o∧((∀j,i≤j→j<L→ok j)∧o= .inr b∨(¬ ∀j,i≤j→j<L→ok j)∧∃a,P a∧o= .inl a):=by
 intro d
 induction d with
 | zero=>
  intro i hs hi
  obtain rfl:i=L:=by omega
  exact⟨_,hend,.inl ⟨fun j h1 h2=>absurd h2 (by omega),rfl⟩⟩
 | succ d ih=>
  intro i hs hi
  by_cases h:ok i
  ·obtain⟨o,h1,h2⟩:=ih (i+1) (by omega) (by omega)
   refine⟨o,hgo i hs (by omega) h o h1,?_⟩
   have e:(∀j,i+1≤j→j<L→ok j)↔(∀j,i≤j→j<L→ok j):=⟨fun g j j1 j2=>by
    rcases Nat.lt_or_ge i j with k | k
    ·exact g j k j2
    ·exact(show i=j by omega)▸h,fun g j j1 j2=>g j (by omega) j2⟩
   rwa [e] at h2
  ·obtain⟨a,h1,h2⟩:=hno i hs (by omega) h
   exact⟨_,h2,.inr ⟨fun g=>h (g i (Nat.le_refl _) (by omega)),a,h1,rfl⟩⟩
theorem qA6 {A B:Type} (L s:Nat) (F:Nat→Nat→Int→Option (A ⊕ B)) (b:B) (P:A→Prop) (ok:Nat→Prop)
  (hend:Rl (fun k n=>F k n (L:Int)) (.inr b))
  (hgo:∀i:Nat,s≤i→i<L→(∀j,s≤j→j<i→ok j)→ok i→∀o,Rl (fun k n=>F k n ((i:Int)+1)) o→Rl (fun k n=>F k n (i:Int)) o)
  (hno:∀i:Nat,s≤i→i<L→(∀j,s≤j→j<i→ok j)→¬ok i→∃a,P a∧Rl (fun k n=>F k n (i:Int)) (.inl a)):
  ∀d i:Nat,s≤i→i+d=L→(∀j,s≤j→j<i→ok j)→∃o,Rl (fun k n=>F k n (i:Int)) o∧((∀j,s≤j→j<L→ok j)∧o= .inr b∨(¬ ∀j,s≤j→j<L→ok j)∧∃a,P a∧o= .inl a):=by
 intro d
 induction d with
 | zero=>
  intro i hs hi hp
  obtain rfl:i=L:=by omega
  exact⟨_,hend,.inl ⟨hp,rfl⟩⟩
 | succ d ih=>
  intro i hs hi hp
  by_cases h:ok i
  ·obtain⟨o,h1,h2⟩:=ih (i+1) (by omega) (by omega) (fun j j1 j2=>by
    rcases Nat.lt_or_ge j i with k | k
    ·exact hp j j1 k
    ·exact(show i=j by omega)▸h)
   exact⟨o,hgo i hs (by omega) hp h o h1,h2⟩
  ·obtain⟨a,h1,h2⟩:=hno i hs (by omega) hp h
   exact⟨_,h2,.inr ⟨fun g=>h (g i hs (by omega)),a,h1,rfl⟩⟩

def okN (m e:Int):Bool:=decide (m=0∧e=0∨m.tmod 10≠0∧ -999999999≤m∧m≤999999999∧ -18≤e∧e≤9)
theorem qo9 {m e:Int}:okN m e=true↔(m=0∧e=0∨m.tmod 10≠0∧ -999999999≤m∧m≤999999999∧ -18≤e∧e≤9):=by unfold okN;exact decide_eq_true_iff
theorem qpa {m e:Int} (h:okN m e=true): -999999999≤m∧m≤999999999∧ -18≤e∧e≤9:=by
 rcases qo9.1 h with h | h<;>omega
theorem qrQ (m e:Int) (b:Bool) (h:b=true↔(m=0∧e=0∨m.tmod 10≠0∧ -999999999≤m∧m≤999999999∧ -18≤e∧e≤9)):b=okN m e:=Bool.eq_iff_iff.2 (h.trans qo9.symm)
theorem qdo (m e:Int):Rn (fun k=>qZ k m e) (okN m e):=by
 refine Rn.up (f:=fun k=>qZ k m e) (Rn.eq 0 fun k _=> ?_)
 show qiO k m e=_
 unfold qiO
 have t:m=0→m.tmod 10=0:=fun h=>by rw [h];rfl
 simp only [beq_iff_eq,decide_eq_true_eq,bne_iff_ne,ne_eq]
 repeat' split
 all_goals refine congrArg some (qrQ m e _ ?_)
 all_goals simp only [beq_iff_eq,decide_eq_true_eq,Bool.false_eq_true,false_iff]
 all_goals grind
theorem qdp (m e:Int):Rn (fun k=>qaF k m e) (okN m e):=by
 refine Rn.up (f:=fun k=>qaF k m e) (Rn.eq 0 fun k _=> ?_)
 show qfz k m e=_
 unfold qfz
 have t:m=0→m.tmod 10=0:=fun h=>by rw [h];rfl
 simp only [beq_iff_eq,decide_eq_true_eq,bne_iff_ne,ne_eq,beq_eq_false_iff_ne]
 repeat' split
 all_goals refine congrArg some (qrQ m e _ ?_)
 all_goals simp only [beq_iff_eq,decide_eq_true_eq,Bool.false_eq_true,false_iff]
 all_goals grind

def qi0 (m e:Int):Rat:=if e<0 then Rat.divInt m ((10^(-e).toNat:Nat):Int)else Rat.divInt (((10^e.toNat:Nat):Int)*m) 1
theorem qrR {s:Bool} {l:List Int} {x:Int} (h:Nm W s l x) (n:Nat) (hx:(x.natAbs:Int)<W^n):l.length≤n:=
 (h.c.len_le (B:=W) (by decide) n).2 (by rw [h.abs (B:=W) (by decide)];exact hx)
theorem W2:(W^2:Int)=18446744073709551616:=by decide
theorem qtq (c:Int) (hc:c≤20) {t:Bool} {u:List Int} (nu:Nm W t u 10) (hu:u.length≤2):∀(n:Nat) (i:Int) (s:Bool) (z:List Int) (p:Int),0≤i→i+n=c→Nm W s z p→(z.length:Int)≤100+2*i→
  ∃s' z',Rl (fun k m=>qei k m c i s z t u) (s',z',t,u)∧Nm W s' z' (p*((10^n:Nat):Int))∧z'.length≤200:=by
 intro n
 induction n with
 | zero=>
  intro i s z p h0 hi nz hz
  refine⟨s,z,Rl.up (f:=fun k m=>qei k m c i s z t u) (Rl.of 0 fun k m _=> ?_),nz.cast (by simp),by omega⟩
  show qfM k (qei k m) c i s z t u=_
  unfold qfM
  exact if_neg (by simp;omega)
 | succ n ih=>
  intro i s z p h0 hi nz hz
  obtain⟨s1,p1,a1,a2,a3⟩:=qo4 s t z u nz nu (by omega) (by omega)
  obtain⟨s',z',b1,b2,b3⟩:=ih (i+1) s1 p1 (p*10) (by omega) (by omega) a2 (by omega)
  refine⟨s',z',Rl.up (f:=fun k m=>qei k m c i s z t u) ?_,b2.cast (by rw [Nat.pow_succ];grind),b3⟩
  show Rl (fun k m=>qfM k (qei k m) c i s z t u) _
  unfold qfM
  refine Rl.t (decide_eq_true (by omega)) (Rl.bind a1 ?_)
  rw [qf (by omega)]
  exact b1
theorem qzx (c:Int) (h:0≤c∧c≤18):∃s z,Rn (fun k=>qiR k c) (s,z)∧Nm W s z ((10^c.toNat:Nat):Int)∧z.length≤2:=by
 obtain⟨l,a1,a2,a3⟩:=qh0 1 (by omega)
 obtain⟨u,b1,b2,b3⟩:=qh0 10 (by omega)
 obtain⟨s,z,c1,c2,c3⟩:=qtq c (by omega) b2 b3 c.toNat 0 _ l 1 (by omega) (by omega) a2 (by omega)
 have hp:(10^c.toNat:Nat)≤10^18:=Nat.pow_le_pow_right (by decide) (by omega)
 have e18:(10^18:Nat)=1000000000000000000:=by decide
 refine⟨s,z,Rn.up (f:=fun k=>qiR k c) (Rn.bind a1 (Rn.bind b1 (Rn.bind c1.diag (Rn.pure _)))),c2.cast (by simp),qrR c2 2 (by rw [W2,Int.one_mul,Int.natAbs_natCast];omega)⟩
theorem ql4 (n:Nat):(0:Int)<((10^n:Nat):Int):=by have:=Nat.pow_pos (a:=10) (n:=n) (by decide);omega
theorem ql5 {m e:Int} (h:okN m e=true):∃s p t r,Rn (fun k=>qgg k m e) (s,p,t,r)∧Fr s p t r (qi0 m e)∧p.length≤2∧r.length≤2:=by
 have hr:=qpa h
 have hw:IntKind.i64.wrap (0-e)= -e:=by rw [qf (by omega)];omega
 have hm:(if e<0 then -e else e)=max e (-e):=by omega
 obtain⟨s1,z1,a1,a2,a3⟩:=qzx (max e (-e)) (by omega)
 obtain⟨l,b1,b2,b3⟩:=qh0 m (by omega)
 have hpos:=ql4 (max e (-e)).toNat
 by_cases he:e<0
 ·have e1:max e (-e)= -e:=by omega
  rw [e1] at a1 a2 hpos
  obtain⟨s,p,t,r,c1,c2,c3,c4⟩:=qo6 _ _ l z1 b2 a2 (by omega) (by omega) (by omega)
  refine⟨s,p,t,r,Rn.up (f:=fun k=>qgg k m e) ?_,c2.cast (by rw [qi0,if_pos he]),by omega,by omega⟩
  show Rn (fun k=>qg7 k m e) _
  unfold qg7
  rw [hw,e1]
  refine Rn.bind a1 (Rn.t (decide_eq_true (by omega)) (Rn.bind b1 (Rn.bind c1 (Rn.pure _))))
 ·have e1:max e (-e)=e:=by omega
  rw [e1] at a1 a2 hpos
  obtain⟨s2,p2,d1,d2,d3⟩:=qo4 s1 _ z1 l a2 b2 (by omega) (by omega)
  obtain⟨o,o1,o2,o3⟩:=qh0 1 (by omega)
  have hp:(10^e.toNat:Nat)≤10^9:=Nat.pow_le_pow_right (by decide) (by omega)
  have e9:(10^9:Nat)=1000000000:=by decide
  have hlen:p2.length≤2:=qrR d2 2 (by
   rw [W2,Int.natAbs_mul]
   have h1:((10^e.toNat:Nat):Int).natAbs≤1000000000:=by omega
   have h2:m.natAbs≤1000000000:=by omega
   have:=Nat.mul_le_mul h1 h2
   omega)
  obtain⟨s,p,t,r,c1,c2,c3,c4⟩:=qo6 _ _ p2 o d2 o2 (by omega) (by omega) (by omega)
  refine⟨s,p,t,r,Rn.up (f:=fun k=>qgg k m e) ?_,c2.cast (by rw [qi0,if_neg he]),by omega,by omega⟩
  show Rn (fun k=>qg7 k m e) _
  unfold qg7
  rw [hw,e1]
  refine Rn.bind a1 (Rn.f (by rw [decide_eq_true_eq];omega) (Rn.bind b1 (Rn.bind d1 (Rn.bind o1 (Rn.bind c1 (Rn.pure _))))))
section
variable {x0 x2 y0 y2 : Bool} {x1 x3 y1 y3 : List Int} {x y : Rat} (hx : Fr x0 x1 x2 x3 x) (hy : Fr y0 y1 y2 y3 y) (l1 : x1.length ≤ 100000) (l3 : x3.length ≤ 100000) (m1 : y1.length ≤ 100000) (m3 : y3.length ≤ 100000)
include hx hy l1 l3 m1 m3
end
theorem qrS (a b c d:Int):Rn (fun k=>qhG k a b c d) (if okN a b=true∧okN c d=true then(qkB (qi0 a b) (qi0 c d),0)else(0,30)):=by
 refine Rn.up (f:=fun k=>qhG k a b c d) ?_
 show Rn (fun k=>qkv k a b c d) _
 unfold qkv
 refine Rn.bind (qdo a b) ?_
 by_cases h:okN a b=true
 ·refine Rn.t (by simp [h]) (Rn.bind (qdo c d) ?_)
  by_cases h':okN c d=true
  ·rw [if_pos ⟨h,h'⟩]
   refine Rn.f (by simp [h']) ?_
   obtain⟨s,p,t,r,a1,a2,a3,a4⟩:=ql5 h
   obtain⟨s1,p1,t1,r1,b1,b2,b3,b4⟩:=ql5 h'
   exact Rn.bind a1 (Rn.bind b1 (Rn.bind (qvj a2 b2 (show p.length≤100000 by omega) (show r.length≤100000 by omega) (show p1.length≤100000 by omega) (show r1.length≤100000 by omega)) (Rn.pure _)))
  ·rw [if_neg (fun x=>h' x.2)]
   exact Rn.t (by simp [h']) (Rn.pure _)
 ·rw [if_neg (fun x=>h x.1)]
  exact Rn.f (by simp [h]) (Rn.pure _)
section
variable {x0 x2 y0 y2 : Bool} {x1 x3 y1 y3 : List Int} {x y : Rat} (hx : FrU x0 x1 x2 x3 x) (hy : FrU y0 y1 y2 y3 y) (l1 : x1.length ≤ 10000) (l3 : x3.length ≤ 10000) (m1 : y1.length ≤ 10000) (m3 : y3.length ≤ 10000)
include hx hy l1 l3 m1 m3
end
theorem qvp {s t:Bool} {p r:List Int} {z:Int} (h:Nm U s p z) (h1:Nm U t r 1):FrU s p t r (Rat.divInt z 1):=by
 have e:Rat.divInt z 1=(z:Rat):=Rat.num_divInt_den (z:Rat)
 rw [e]
 exact⟨h,h1⟩

structure OkW (w0:Int) (w1:List (Int×Int)) (w2:List Int):Prop where
 vals:∀j,0≤j→j<w1.length→okN (w1.getD j (0,0)).1 (w1.getD j (0,0)).2=true
 steps:∀j,0≤j→j<w2.length→0≤w2.getD j 0∧w2.getD j 0≤1000000000
 kind:w0=1∧w1.length=1∧w2.length=0∨w0=2∧w1.length=2∧w2.length=5∧1≤w2.getD 4 0∧w2.getD 1 0+w2.getD 2 0+w2.getD 3 0≤w2.getD 4 0∨
  w0=3∧w1.length=w2.length∧1≤w1.length∧w1.length≤16∧(∀j,1≤j→j<w2.length→w2.getD (j-1) 0<w2.getD j 0)∨w0=4∧1≤w1.length∧w1.length≤16∧w2.length=0
noncomputable def okW (w0:Int) (w1:List (Int×Int)) (w2:List Int):Bool:= @decide (OkW w0 w1 w2) (Classical.propDecidable _)
theorem qvq {w0:Int} {w1:List (Int×Int)} {w2:List Int}:okW w0 w1 w2=true↔OkW w0 w1 w2:= @decide_eq_true_iff _ (Classical.propDecidable _)
theorem qjZ {w0:Int} {w1:List (Int×Int)} {w2:List Int}:okW w0 w1 w2=false↔¬OkW w0 w1 w2:= @decide_eq_false_iff_not _ (Classical.propDecidable _)
section
variable (w0 : Int) (w1 : List (Int × Int)) (w2 : List Int) (h1 : w1.length ≤ 1000000000000000000) (h2 : w2.length ≤ 1000000000000000000)
include h1 h2
theorem qvr:∃o,Rl (fun k n=>qbO k n w1 w1.length 0 w0 w1 w2) o∧((∀j,0≤j→j<w1.length→okN (w1.getD j (0,0)).1 (w1.getD j (0,0)).2=true)∧o= .inr (w0,w1,w2)∨(¬ ∀j,0≤j→j<w1.length→okN (w1.getD j (0,0)).1 (w1.getD j (0,0)).2=true)∧∃a:Bool×Int×List (Int×Int)×List Int×Int×Int,a.1=false∧o= .inl a):=by
 refine qdb w1.length 0 (fun k n i=>qbO k n w1 w1.length i w0 w1 w2) (w0,w1,w2) (fun a=>a.1=false) (fun j=>okN (w1.getD j (0,0)).1 (w1.getD j (0,0)).2=true) ?_ ?_ ?_ w1.length 0 (by omega) (by omega)
 ·refine Rl.up (f:=fun k n=>qbO k n w1 w1.length w1.length w0 w1 w2) (Rl.of 0 fun k n _=> ?_)
  show qcA k (qbO k n) _ _ _ _ _ _=_
  unfold qcA
  exact if_neg (by simp)
 ·intro i hs hi hok o ho
  refine Rl.up (f:=fun k n=>qbO k n w1 w1.length i w0 w1 w2) ?_
  show Rl (fun k n=>qcA k (qbO k n) _ _ _ _ _ _) _
  unfold qcA
  refine Rl.t (decide_eq_true (by omega)) (Rl.t (by omega) (Rl.at (getD_some (0,0) (by omega)) (Rl.bind (qdo _ _) (Rl.f (by rw [Int.toNat_natCast,hok];decide) ?_))))
  rw [qf (by omega)]
  exact ho
 ·intro i hs hi hok
  refine⟨(false,w0,w1,w2,(w1.getD i (0,0)).1,(w1.getD i (0,0)).2),rfl,Rl.up (f:=fun k n=>qbO k n w1 w1.length i w0 w1 w2) ?_⟩
  show Rl (fun k n=>qcA k (qbO k n) _ _ _ _ _ _) _
  unfold qcA
  refine Rl.t (decide_eq_true (by omega)) (Rl.t (by omega) (Rl.at (getD_some (0,0) (by omega)) (Rl.bind (qdo _ _) (Rl.t (by rw [Int.toNat_natCast,Bool.eq_false_iff.2 hok];rfl) (Rl.pure _)))))
theorem qvs:∃o,Rl (fun k n=>qbe k n w2 w2.length 0 w0 w1 w2) o∧((∀j,0≤j→j<w2.length→0≤w2.getD j 0∧w2.getD j 0≤1000000000)∧o= .inr (w0,w1,w2)∨(¬ ∀j,0≤j→j<w2.length→0≤w2.getD j 0∧w2.getD j 0≤1000000000)∧∃a:Bool×Int×List (Int×Int)×List Int,a.1=false∧o= .inl a):=by
 refine qdb w2.length 0 (fun k n i=>qbe k n w2 w2.length i w0 w1 w2) (w0,w1,w2) (fun a=>a.1=false) (fun j=>0≤w2.getD j 0∧w2.getD j 0≤1000000000) ?_ ?_ ?_ w2.length 0 (by omega) (by omega)
 ·refine Rl.up (f:=fun k n=>qbe k n w2 w2.length w2.length w0 w1 w2) (Rl.of 0 fun k n _=> ?_)
  show qcB k (qbe k n) _ _ _ _ _ _=_
  unfold qcB
  exact if_neg (by simp)
 ·intro i hs hi hok o ho
  refine Rl.up (f:=fun k n=>qbe k n w2 w2.length i w0 w1 w2) ?_
  show Rl (fun k n=>qcB k (qbe k n) _ _ _ _ _ _) _
  unfold qcB
  refine Rl.t (decide_eq_true (by omega)) (Rl.t (by omega) (Rl.at (getD_some 0 (by omega)) (Rl.t (decide_eq_false (by rw [Int.toNat_natCast];omega)) (Rl.f (by rw [decide_eq_true_eq,Int.toNat_natCast];omega) ?_))))
  rw [qf (by omega)]
  exact ho
 ·intro i hs hi hok
  refine⟨(false,w0,w1,w2),rfl,Rl.up (f:=fun k n=>qbe k n w2 w2.length i w0 w1 w2) ?_⟩
  show Rl (fun k n=>qcB k (qbe k n) _ _ _ _ _ _) _
  unfold qcB
  refine Rl.t (decide_eq_true (by omega)) (Rl.t (by omega) (Rl.at (getD_some 0 (by omega)) ?_))
  rw [Int.toNat_natCast]
  by_cases h0:w2.getD i 0<0
  ·exact Rl.f (by rw [decide_eq_false_iff_not];omega) (Rl.pure _)
  ·exact Rl.t (decide_eq_false h0) (Rl.t (decide_eq_true (by omega)) (Rl.pure _))
theorem qvt (hlen:1≤w2.length):∃o,Rl (fun k n=>qaG k n 1 w0 w1 w2) o∧((∀j,1≤j→j<w2.length→w2.getD (j-1) 0<w2.getD j 0)∧o= .inr (w0,w1,w2)∨(¬ ∀j,1≤j→j<w2.length→w2.getD (j-1) 0<w2.getD j 0)∧∃a:Bool×Int×List (Int×Int)×List Int,a.1=false∧o= .inl a):=by
 refine qdb w2.length 1 (fun k n i=>qaG k n i w0 w1 w2) (w0,w1,w2) (fun a=>a.1=false) (fun j=>w2.getD (j-1) 0<w2.getD j 0) ?_ ?_ ?_ (w2.length-1) 1 (by omega) (by omega)
 ·refine Rl.up (f:=fun k n=>qaG k n w2.length w0 w1 w2) (Rl.of 0 fun k n _=> ?_)
  show qbT k (qaG k n) _ _ _ _=_
  unfold qbT
  exact if_neg (by simp)
 ·intro i hs hi hok o ho
  refine Rl.up (f:=fun k n=>qaG k n i w0 w1 w2) ?_
  show Rl (fun k n=>qbT k (qaG k n) _ _ _ _) _
  unfold qbT
  have e1:(IntKind.i64.wrap ((i:Int)-1))=((i-1:Nat):Int):=by rw [qf (by omega)];omega
  rw [e1]
  refine Rl.t (decide_eq_true (by omega)) (Rl.t (by omega) (Rl.at (getD_some 0 (by omega)) (Rl.t (by omega) (Rl.at (getD_some 0 (by omega)) (Rl.f (by rw [decide_eq_true_eq,Int.toNat_natCast,Int.toNat_natCast];omega) ?_)))))
  rw [qf (by omega)]
  exact ho
 ·intro i hs hi hok
  refine⟨(false,w0,w1,w2),rfl,Rl.up (f:=fun k n=>qaG k n i w0 w1 w2) ?_⟩
  show Rl (fun k n=>qbT k (qaG k n) _ _ _ _) _
  unfold qbT
  have e1:(IntKind.i64.wrap ((i:Int)-1))=((i-1:Nat):Int):=by rw [qf (by omega)];omega
  rw [e1]
  exact Rl.t (decide_eq_true (by omega)) (Rl.t (by omega) (Rl.at (getD_some 0 (by omega)) (Rl.t (by omega) (Rl.at (getD_some 0 (by omega)) (Rl.t (decide_eq_true (by rw [Int.toNat_natCast,Int.toNat_natCast];omega)) (Rl.pure _))))))
theorem qvu:∃o,Rl (fun k n=>qR k n 0 w0 w1 w2) o∧((∀j,0≤j→j<w1.length→okN (w1.getD j (0,0)).1 (w1.getD j (0,0)).2=true)∧o= .inr (w0,w1,w2)∨(¬ ∀j,0≤j→j<w1.length→okN (w1.getD j (0,0)).1 (w1.getD j (0,0)).2=true)∧∃a:Bool×Int×List (Int×Int)×List Int,a.1=false∧o= .inl a):=by
 refine qdb w1.length 0 (fun k n i=>qR k n i w0 w1 w2) (w0,w1,w2) (fun a=>a.1=false) (fun j=>okN (w1.getD j (0,0)).1 (w1.getD j (0,0)).2=true) ?_ ?_ ?_ w1.length 0 (by omega) (by omega)
 ·refine Rl.up (f:=fun k n=>qR k n w1.length w0 w1 w2) (Rl.of 0 fun k n _=> ?_)
  show qa1 k (qR k n) _ _ _ _=_
  unfold qa1
  exact if_neg (by simp)
 ·intro i hs hi hok o ho
  refine Rl.up (f:=fun k n=>qR k n i w0 w1 w2) ?_
  show Rl (fun k n=>qa1 k (qR k n) _ _ _ _) _
  unfold qa1
  refine Rl.t (decide_eq_true (by omega)) (Rl.t (by omega) (Rl.at (getD_some (0,0) (by omega)) (Rl.bind (qdp _ _) (Rl.f (by rw [Int.toNat_natCast,hok];decide) ?_))))
  rw [qf (by omega)]
  exact ho
 ·intro i hs hi hok
  refine⟨(false,w0,w1,w2),rfl,Rl.up (f:=fun k n=>qR k n i w0 w1 w2) ?_⟩
  show Rl (fun k n=>qa1 k (qR k n) _ _ _ _) _
  unfold qa1
  refine Rl.t (decide_eq_true (by omega)) (Rl.t (by omega) (Rl.at (getD_some (0,0) (by omega)) (Rl.bind (qdp _ _) (Rl.t (by rw [Int.toNat_natCast,Bool.eq_false_iff.2 hok];rfl) (Rl.pure _)))))
theorem qvv:∃o,Rl (fun k n=>qL k n 0 w0 w1 w2) o∧((∀j,0≤j→j<w2.length→0≤w2.getD j 0∧w2.getD j 0≤1000000000)∧o= .inr (w0,w1,w2)∨(¬ ∀j,0≤j→j<w2.length→0≤w2.getD j 0∧w2.getD j 0≤1000000000)∧∃a:Bool×Int×List (Int×Int)×List Int,a.1=false∧o= .inl a):=by
 refine qdb w2.length 0 (fun k n i=>qL k n i w0 w1 w2) (w0,w1,w2) (fun a=>a.1=false) (fun j=>0≤w2.getD j 0∧w2.getD j 0≤1000000000) ?_ ?_ ?_ w2.length 0 (by omega) (by omega)
 ·refine Rl.up (f:=fun k n=>qL k n w2.length w0 w1 w2) (Rl.of 0 fun k n _=> ?_)
  show qa2 k (qL k n) _ _ _ _=_
  unfold qa2
  exact if_neg (by simp)
 ·intro i hs hi hok o ho
  refine Rl.up (f:=fun k n=>qL k n i w0 w1 w2) ?_
  show Rl (fun k n=>qa2 k (qL k n) _ _ _ _) _
  unfold qa2
  refine Rl.t (decide_eq_true (by omega)) (Rl.t (by omega) (Rl.at (getD_some 0 (by omega)) (Rl.t (decide_eq_false (by rw [Int.toNat_natCast];omega)) (Rl.t (by omega) (Rl.at (getD_some 0 (by omega)) (Rl.f (by rw [decide_eq_true_eq,Int.toNat_natCast];omega) ?_))))))
  rw [qf (by omega)]
  exact ho
 ·intro i hs hi hok
  refine⟨(false,w0,w1,w2),rfl,Rl.up (f:=fun k n=>qL k n i w0 w1 w2) ?_⟩
  show Rl (fun k n=>qa2 k (qL k n) _ _ _ _) _
  unfold qa2
  refine Rl.t (decide_eq_true (by omega)) (Rl.t (by omega) (Rl.at (getD_some 0 (by omega)) ?_))
  rw [Int.toNat_natCast]
  by_cases h0:w2.getD i 0<0
  ·exact Rl.f (by rw [decide_eq_false_iff_not];omega) (Rl.pure _)
  ·exact Rl.t (decide_eq_false h0) (Rl.t (by omega) (Rl.at (getD_some 0 (by omega)) (Rl.t (decide_eq_true (by omega)) (Rl.pure _))))
end
theorem qrT (w2:List Int) (h2:w2.length≤1000000000000000000) (hlen:1≤w2.length):∃b,Rn (fun k=>qcZ k w2) b∧(b=true↔∀j,1≤j→j<w2.length→w2.getD (j-1) 0<w2.getD j 0):=by
 obtain⟨o,ho,h⟩:∃o,Rl (fun k n=>qP k n w2 1) o∧((∀j,1≤j→j<w2.length→w2.getD (j-1) 0<w2.getD j 0)∧o= .inr ()∨(¬ ∀j,1≤j→j<w2.length→w2.getD (j-1) 0<w2.getD j 0)∧∃a:Bool,a=false∧o= .inl a):=by
  refine qdb w2.length 1 (fun k n i=>qP k n w2 i) () (fun a=>a=false) (fun j=>w2.getD (j-1) 0<w2.getD j 0) ?_ ?_ ?_ (w2.length-1) 1 (by omega) (by omega)
  ·refine Rl.up (f:=fun k n=>qP k n w2 w2.length) (Rl.of 0 fun k n _=> ?_)
   show qaM k (qP k n) _ _=_
   unfold qaM
   exact if_neg (by simp)
  ·intro i hs hi hok o ho
   refine Rl.up (f:=fun k n=>qP k n w2 i) ?_
   show Rl (fun k n=>qaM k (qP k n) _ _) _
   unfold qaM
   have e1:(IntKind.i64.wrap ((i:Int)-1))=((i-1:Nat):Int):=by rw [qf (by omega)];omega
   rw [e1]
   refine Rl.t (decide_eq_true (by omega)) (Rl.t (by omega) (Rl.at (getD_some 0 (by omega)) (Rl.t (by omega) (Rl.at (getD_some 0 (by omega)) (Rl.f (by rw [decide_eq_true_eq,Int.toNat_natCast,Int.toNat_natCast];omega) ?_)))))
   rw [qf (by omega)]
   exact ho
  ·intro i hs hi hok
   refine⟨false,rfl,Rl.up (f:=fun k n=>qP k n w2 i) ?_⟩
   show Rl (fun k n=>qaM k (qP k n) _ _) _
   unfold qaM
   have e1:(IntKind.i64.wrap ((i:Int)-1))=((i-1:Nat):Int):=by rw [qf (by omega)];omega
   rw [e1]
   exact Rl.t (decide_eq_true (by omega)) (Rl.t (by omega) (Rl.at (getD_some 0 (by omega)) (Rl.t (by omega) (Rl.at (getD_some 0 (by omega)) (Rl.t (decide_eq_true (by rw [Int.toNat_natCast,Int.toNat_natCast];omega)) (Rl.pure _))))))
 rcases h with ⟨h,rfl⟩ | ⟨h,a,ha,rfl⟩
 ·exact⟨true,Rn.up (f:=fun k=>qcZ k w2) (Rn.bind ho.diag (Rn.pure _)),by simp only [true_iff];exact h⟩
 ·subst ha
  exact⟨false,Rn.up (f:=fun k=>qcZ k w2) (Rn.bind ho.diag (Rn.pure _)),by simp only [Bool.false_eq_true,false_iff];exact h⟩

theorem qc1 {w0:Int} {w1:List (Int×Int)} {w2:List Int} {b:Bool} (h:b=true↔OkW w0 w1 w2):b=okW w0 w1 w2:=Bool.eq_iff_iff.2 (h.trans qvq.symm)
section
variable (w0 : Int) (w1 : List (Int × Int)) (w2 : List Int) (h1 : w1.length ≤ 1000000000000000000) (h2 : w2.length ≤ 1000000000000000000)
include h1 h2
theorem qnY:Rn (fun k=>qeB k w0 w1 w2) (okW w0 w1 w2):=by
 refine Rn.up (f:=fun k=>qeB k w0 w1 w2) ?_
 show Rn (fun k=>qib k w0 w1 w2) _
 unfold qib
 obtain⟨o,ho,hv⟩:=qvr w0 w1 w2 h1 h2
 refine Rn.bind ho.diag ?_
 rcases hv with ⟨hv,rfl⟩ | ⟨hv,a,ha,rfl⟩
 case inr=>
  have:okW w0 w1 w2=false:=qjZ.2 fun h=>hv h.vals
  rw [this,←ha]
  exact Rn.pure _
 show Rn (fun k=>Option.bind (qbe k k w2 w2.length 0 w0 w1 w2) _) _
 obtain⟨o,ho,hs⟩:=qvs w0 w1 w2 h1 h2
 refine Rn.bind ho.diag ?_
 rcases hs with ⟨hs,rfl⟩ | ⟨hs,a,ha,rfl⟩
 case inr=>
  have:okW w0 w1 w2=false:=qjZ.2 fun h=>hs h.steps
  rw [this,←ha]
  exact Rn.pure _
 have hk:OkW w0 w1 w2↔_:=⟨fun h=>h.kind,fun h=>⟨hv,hs,h⟩⟩
 by_cases k1:w0=1
 ·refine Rn.t (by simp [k1]) (Rn.eq 0 fun k _=> ?_)
  dsimp only
  repeat' split
  all_goals refine congrArg some (qc1 (Iff.trans ?_ hk.symm))
  all_goals simp only [beq_iff_eq,decide_eq_true_eq,Bool.false_eq_true,false_iff,Bool.not_eq_true] at*
  all_goals omega
 refine Rn.f (by simpa using k1) ?_
 by_cases k2:w0=2
 ·refine Rn.t (by simp [k2]) ?_
  by_cases l1:w1.length=2
  ·refine Rn.t (by simp [l1]) ?_
   by_cases l2:w2.length=5
   ·refine Rn.t (by simp [l2]) ?_
    refine Rn.at (getD_some 0 (by show 4<w2.length;omega)) ?_
    by_cases l3:w2.getD 4 0≥1
    ·refine Rn.t (decide_eq_true l3) (Rn.at (getD_some 0 (by show 1<w2.length;omega)) (Rn.at (getD_some 0 (by show 2<w2.length;omega)) (Rn.at (getD_some 0 (by show 3<w2.length;omega)) (Rn.at (getD_some 0 (by show 4<w2.length;omega)) (Rn.const (congrArg some (qc1 (Iff.trans ?_ hk.symm))))))))
     have s1:=hs 1 (by omega) (by omega)
     have s2:=hs 2 (by omega) (by omega)
     have s3:=hs 3 (by omega) (by omega)
     dsimp only
     rw [qf (x:=w2.getD 1 0+w2.getD 2 0) (by omega),qf (by omega),decide_eq_true_eq]
     constructor
     ·intro h;exact .inr (.inl ⟨k2,l1,l2,l3,h⟩)
     ·rintro(⟨a,_⟩ | ⟨_,_,_,_,h⟩ | ⟨a,_⟩ | ⟨a,_⟩)<;>omega
    ·refine Rn.f (by rw [decide_eq_true_eq];exact l3) (Rn.const (congrArg some (qc1 (Iff.trans ?_ hk.symm))))
     simp only [Bool.false_eq_true,false_iff]
     omega
   ·refine Rn.f (by simpa using (by omega:¬(w2.length:Int)=5)) (Rn.const (congrArg some (qc1 (Iff.trans ?_ hk.symm))))
    simp only [Bool.false_eq_true,false_iff]
    omega
  ·refine Rn.f (by simpa using (by omega:¬(w1.length:Int)=2)) (Rn.const (congrArg some (qc1 (Iff.trans ?_ hk.symm))))
   simp only [Bool.false_eq_true,false_iff]
   omega
 refine Rn.f (by simpa using k2) ?_
 by_cases k3:w0=3
 ·refine Rn.t (by simp [k3]) ?_
  by_cases l0:w2.length=0
  ·have e5:Rn (fun k=>qaG k k 1 w0 w1 w2) (.inr (w0,w1,w2)):=Rn.eq 1 fun k hk=>by
    obtain⟨k,rfl⟩:∃m,k=m+1:=⟨k-1,by omega⟩
    show qbT (k+1) (qaG (k+1) k) _ _ _ _=_
    unfold qbT
    exact if_neg (by rw [l0];decide)
   refine Rn.bind e5 (Rn.eq 0 fun k _=> ?_)
   show(if _ then _ else _)=_
   dsimp only
   repeat' split
   all_goals refine congrArg some (qc1 (Iff.trans ?_ hk.symm))
   all_goals simp only [beq_iff_eq,decide_eq_true_eq,Bool.false_eq_true,false_iff,Bool.not_eq_true] at*
   all_goals omega
  obtain⟨o,ho,h5⟩:=qvt w0 w1 w2 h1 h2 (by omega)
  refine Rn.bind ho.diag ?_
  rcases h5 with ⟨h5,rfl⟩ | ⟨h5,a,ha,rfl⟩
  case inr=>
   have:okW w0 w1 w2=false:=qjZ.2 fun h=>by
    rcases h.kind with g | g | g | g
    ·omega
    ·omega
    ·exact h5 g.2.2.2.2
    ·omega
   rw [this,←ha]
   exact Rn.pure _
  refine Rn.eq 0 fun k _=> ?_
  show(if _ then _ else _)=_
  dsimp only
  have hk3:OkW w0 w1 w2↔(w1.length=w2.length∧1≤w1.length∧w1.length≤16):=hk.trans ⟨fun g=>by
   rcases g with g | g | g | g
   ·omega
   ·omega
   ·exact⟨g.2.1,g.2.2.1,g.2.2.2.1⟩
   ·omega,fun g=> .inr (.inr (.inl ⟨k3,g.1,g.2.1,g.2.2,h5⟩))⟩
  repeat' split
  all_goals refine congrArg some (qc1 (Iff.trans ?_ hk3.symm))
  all_goals simp only [beq_iff_eq,decide_eq_true_eq,Bool.false_eq_true,false_iff,Bool.not_eq_true] at*
  all_goals omega
 refine Rn.f (by simpa using k3) ?_
 by_cases k4:w0=4
 ·refine Rn.t (by simp [k4]) (Rn.eq 0 fun k _=> ?_)
  dsimp only
  repeat' split
  all_goals refine congrArg some (qc1 (Iff.trans ?_ hk.symm))
  all_goals simp only [beq_iff_eq,decide_eq_true_eq,Bool.false_eq_true,false_iff,Bool.not_eq_true] at*
  all_goals omega
 refine Rn.f (by simpa using k4) (Rn.const (congrArg some (qc1 (Iff.trans ?_ hk.symm))))
 simp only [Bool.false_eq_true,false_iff]
 omega
theorem qqr:Rn (fun k=>qY k w0 w1 w2) (okW w0 w1 w2):=by
 refine Rn.up (f:=fun k=>qY k w0 w1 w2) ?_
 show Rn (fun k=>qfA k w0 w1 w2) _
 unfold qfA
 obtain⟨o,ho,hv⟩:=qvu w0 w1 w2 h1 h2
 refine Rn.bind ho.diag ?_
 rcases hv with ⟨hv,rfl⟩ | ⟨hv,a,ha,rfl⟩
 case inr=>
  have:okW w0 w1 w2=false:=qjZ.2 fun h=>hv h.vals
  rw [this,←ha]
  exact Rn.pure _
 show Rn (fun k=>Option.bind (qL k k 0 w0 w1 w2) _) _
 obtain⟨o,ho,hs⟩:=qvv w0 w1 w2 h1 h2
 refine Rn.bind ho.diag ?_
 rcases hs with ⟨hs,rfl⟩ | ⟨hs,a,ha,rfl⟩
 case inr=>
  have:okW w0 w1 w2=false:=qjZ.2 fun h=>hs h.steps
  rw [this,←ha]
  exact Rn.pure _
 have hk:OkW w0 w1 w2↔_:=⟨fun h=>h.kind,fun h=>⟨hv,hs,h⟩⟩
 by_cases k1:w0=1
 ·refine Rn.t (by simp [k1]) (Rn.eq 0 fun k _=> ?_)
  dsimp only
  repeat' split
  all_goals refine congrArg some (qc1 (Iff.trans ?_ hk.symm))
  all_goals simp only [beq_iff_eq,decide_eq_true_eq,Bool.false_eq_true,false_iff,Bool.not_eq_true] at*
  all_goals omega
 refine Rn.f (by simpa using k1) ?_
 by_cases k2:w0=2
 ·refine Rn.t (by simp [k2]) ?_
  by_cases l1:w1.length=2
  ·refine Rn.t (by simp [l1]) ?_
   by_cases l2:w2.length=5
   ·refine Rn.t (by simp [l2]) ?_
    refine Rn.at (getD_some 0 (by show 4<w2.length;omega)) ?_
    by_cases l3:w2.getD 4 0>0
    ·refine Rn.t (decide_eq_true l3) (Rn.at (getD_some 0 (by show 1<w2.length;omega)) (Rn.at (getD_some 0 (by show 2<w2.length;omega)) (Rn.at (getD_some 0 (by show 3<w2.length;omega)) (Rn.at (getD_some 0 (by show 4<w2.length;omega)) (Rn.const (congrArg some (qc1 (Iff.trans ?_ hk.symm))))))))
     have s1:=hs 1 (by omega) (by omega)
     have s2:=hs 2 (by omega) (by omega)
     have s3:=hs 3 (by omega) (by omega)
     dsimp only
     rw [qf (x:=w2.getD 1 0+w2.getD 2 0) (by omega),qf (by omega),decide_eq_true_eq]
     constructor
     ·intro h;exact .inr (.inl ⟨k2,l1,l2,l3,h⟩)
     ·rintro(⟨a,_⟩ | ⟨_,_,_,_,h⟩ | ⟨a,_⟩ | ⟨a,_⟩)<;>omega
    ·refine Rn.f (by rw [decide_eq_true_eq];exact l3) (Rn.const (congrArg some (qc1 (Iff.trans ?_ hk.symm))))
     simp only [Bool.false_eq_true,false_iff]
     omega
   ·refine Rn.f (by simpa using (by omega:¬(w2.length:Int)=5)) (Rn.const (congrArg some (qc1 (Iff.trans ?_ hk.symm))))
    simp only [Bool.false_eq_true,false_iff]
    omega
  ·refine Rn.f (by simpa using (by omega:¬(w1.length:Int)=2)) (Rn.const (congrArg some (qc1 (Iff.trans ?_ hk.symm))))
   simp only [Bool.false_eq_true,false_iff]
   omega
 refine Rn.f (by simpa using k2) ?_
 by_cases k3:w0=3
 ·refine Rn.t (by simp [k3]) ?_
  by_cases l0:w1.length=w2.length∧1≤w1.length∧w1.length≤16
  ·refine Rn.t (by rw [beq_iff_eq];show(w1.length:Int)=w2.length;omega) (Rn.t (decide_eq_true (by show(w1.length:Int)≥1;omega)) (Rn.t (decide_eq_true (by show(w1.length:Int)≤16;omega)) ?_))
   obtain⟨b,hb,h5⟩:=qrT w2 h2 (by omega)
   have:b=okW w0 w1 w2:=qc1 (h5.trans (Iff.trans ⟨fun g=> .inr (.inr (.inl ⟨k3,l0.1,l0.2.1,l0.2.2,g⟩)),fun g=>by
    rcases g with g | g | g | g
    ·omega
    ·omega
    ·exact g.2.2.2.2
    ·omega⟩ hk.symm))
   rw [←this]
   exact Rn.bind hb (Rn.pure _)
  ·have:okW w0 w1 w2=false:=qjZ.2 fun h=>by have:=h.kind;omega
   rw [this]
   by_cases c1:w1.length=w2.length
   ·refine Rn.t (by rw [beq_iff_eq];show(w1.length:Int)=w2.length;omega) ?_
    by_cases c2:1≤w1.length
    ·refine Rn.t (decide_eq_true (by show(w1.length:Int)≥1;omega)) (Rn.f (by rw [decide_eq_true_eq];show ¬(w1.length:Int)≤16;omega) (Rn.pure _))
    ·exact Rn.f (by rw [decide_eq_true_eq];show ¬(w1.length:Int)≥1;omega) (Rn.pure _)
   ·exact Rn.f (by rw [beq_iff_eq];show ¬(w1.length:Int)=w2.length;omega) (Rn.pure _)
 refine Rn.f (by simpa using k3) ?_
 by_cases k4:w0=4
 ·refine Rn.t (by simp [k4]) (Rn.eq 0 fun k _=> ?_)
  dsimp only
  repeat' split
  all_goals refine congrArg some (qc1 (Iff.trans ?_ hk.symm))
  all_goals simp only [beq_iff_eq,decide_eq_true_eq,Bool.false_eq_true,false_iff,Bool.not_eq_true] at*
  all_goals omega
 refine Rn.f (by simpa using k4) (Rn.const (congrArg some (qc1 (Iff.trans ?_ hk.symm))))
 simp only [Bool.false_eq_true,false_iff]
 omega
end

def qed (w1:List (Int×Int)) (j:Nat):Rat:=qi0 (w1.getD j (0,0)).1 (w1.getD j (0,0)).2
section
variable {w0 : Int} {w1 : List (Int × Int)} {w2 : List Int} (hw : OkW w0 w1 w2) {step : Int} (h0 : 0 ≤ step) (h1 : step ≤ 1000000000)
include hw h0 h1
end
theorem qqs (c:Int) (hc:c≤18) (x0:Bool) (x1:Nat) (ms:List Int):∀(n:Nat) (i:Int) (s:Bool) (z:List Int) (p:Int),0≤i→i+n=c→Nm U s z p→(z.length:Int)≤4+4*i→
  ∃s' z',Rl (fun k m=>qbv k m c i x0 x1 s z ms) (x0,x1,s',z',ms)∧Nm U s' z' (p*((10^n:Nat):Int))∧z'.length≤80:=by
 intro n
 induction n with
 | zero=>
  intro i s z p h0 hi nz hz
  refine⟨s,z,Rl.up (f:=fun k m=>qbv k m c i x0 x1 s z ms) (Rl.of 0 fun k m _=> ?_),nz.cast (by simp),by omega⟩
  show qcp k (qbv k m) _ _ _ _ _ _ _=_
  unfold qcp
  exact if_neg (by simp;omega)
 | succ n ih=>
  intro i s z p h0 hi nz hz
  obtain⟨t,t1,t2,t3⟩:=qhM 10 (by decide)
  obtain⟨s1,p1,a1,a2,a3⟩:=qgO s _ z t nz t2 (by omega) (by omega)
  obtain⟨s',z',b1,b2,b3⟩:=ih (i+1) s1 p1 (p*10) (by omega) (by omega) a2 (by omega)
  refine⟨s',z',Rl.up (f:=fun k m=>qbv k m c i x0 x1 s z ms) ?_,b2.cast (by rw [Nat.pow_succ];grind),b3⟩
  show Rl (fun k m=>qcp k (qbv k m) _ _ _ _ _ _ _) _
  unfold qcp
  refine Rl.t (decide_eq_true (by omega)) (Rl.bind t1 (Rl.bind a1 ?_))
  rw [qf (by omega)]
  exact b1
theorem qnZ (c:Int) (h:0≤c∧c≤18):∃s z,Rn (fun k=>qdi k c) (s,z)∧Nm U s z ((10^c.toNat:Nat):Int)∧z.length≤80:=by
 obtain⟨l,a1,a2,a3⟩:=qhM 1 (by decide)
 obtain⟨s,z,c1,c2,c3⟩:=qqs c (by omega) false 0 [] c.toNat 0 _ l 1 (by omega) (by omega) a2 (by omega)
 exact⟨s,z,Rn.up (f:=fun k=>qdi k c) (Rn.bind a1 (Rn.bind c1.diag (Rn.pure _))),c2.cast (by simp),c3⟩
theorem qpb {m e:Int} (h:okN m e=true):∃s p t r,Rn (fun k=>qcg k m e) (s,p,t,r)∧FrU s p t r (qi0 m e)∧p.length≤90∧r.length≤90:=by
 have hr:=qpa h
 obtain⟨l,b1,b2,b3⟩:=qtp m (by omega)
 have up:∀ {q},Rn (fun k=>qiq k m e) q→Rn (fun k=>qcg k m e) q:=fun h=>Rn.up (f:=fun k=>qcg k m e) h
 by_cases he:e<0
 ·obtain⟨s1,z1,a1,a2,a3⟩:=qnZ (-e) (by omega)
  have hpos:=ql4 (-e).toNat
  obtain⟨s,p,t,r,c1,c2,c3,c4⟩:=qqq _ _ l z1 b2 a2 (by omega) (by omega) (by omega)
  refine⟨s,p,t,r,up (Rn.bind b1 (Rn.t (decide_eq_true he) ?_)),c2.cast (by rw [qi0,if_pos he]),by omega,by omega⟩
  rw [qf (by omega),show 0-e= -e by omega]
  exact Rn.bind a1 (Rn.bind c1 (Rn.pure _))
 ·obtain⟨s1,z1,a1,a2,a3⟩:=qnZ e (by omega)
  obtain⟨s2,p2,d1,d2,d3⟩:=qgO _ s1 l z1 b2 a2 (by omega) (by omega)
  obtain⟨o,o1,o2,o3⟩:=qhM 1 (by decide)
  refine⟨s2,p2,_,o,up (Rn.bind b1 (Rn.f (by rw [decide_eq_true_eq];exact he) (Rn.bind a1 (Rn.bind d1 (Rn.bind o1 (Rn.pure _)))))),(qvp d2 o2).cast (by rw [qi0,if_neg he,Int.mul_comm]),by omega,by omega⟩
section
variable {w0 : Int} {w1 : List (Int × Int)} {w2 : List Int} {step : Int} {x0 x2 : Bool} {x1 x3 : Nat} {m m1 : List Int} (hl : w2.length ≤ 16)
include hl
end
end Go.Proofs.YtlnailgfialgnaaGreatDoor.Am

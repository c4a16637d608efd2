/- qk reckoning: rounds enough, and what rows of digits are worth. -/
import Derived.Test.YtlnailgfialgnaaGreatDoorMP2

set_option linter.unusedVariables false
set_option linter.unusedSimpArgs false
namespace Go.Proofs.YtlnailgfialgnaaGreatDoor.Am

def Rn {α:Type} (f:Nat→Option α) (r:α):Prop:=∃K,∀k,K≤k→f k=some r
def Rl {α:Type} (f:Nat→Nat→Option α) (r:α):Prop:=∃K,∀k n,K≤k→K≤n→f k n=some r
section
variable {α β γ : Type}
theorem Rn.pure (r:α):Rn (fun _=>some r) r:=⟨0,fun _ _=>rfl⟩
theorem Rn.eq {f:Nat→Option α} {r:α} (K:Nat) (h:∀k,K≤k→f k=some r):Rn f r:=⟨K,h⟩
theorem Rn.bind {f:Nat→Option α} {g:Nat→α→Option β} {x:α} {r:β} (h1:Rn f x) (h2:Rn (fun k=>g k x) r):Rn (fun k=>Option.bind (f k) (g k)) r:=by
 obtain⟨K1,h1⟩:=h1
 obtain⟨K2,h2⟩:=h2
 exact⟨max K1 K2,fun k hk=>by show Option.bind (f k) (g k)=_;rw [h1 k (by omega)];exact h2 k (by omega)⟩
theorem Rn.up {f:Nat→Option α} {r:α} (h:Rn (fun k=>f (k+1)) r):Rn f r:=by
 obtain⟨K,h⟩:=h
 refine⟨K+1,fun k hk=> ?_⟩
 obtain⟨j,rfl⟩:∃j,k=j+1:=⟨k-1,by omega⟩
 exact h j (by omega)
theorem Rn.const {e:Option α} {r:α} (h:e=some r):Rn (fun _=>e) r:=⟨0,fun _ _=>h⟩
theorem Rn.t {c:Prop} [Decidable c] {f g:Nat→Option α} {r:α} (h:c) (hf:Rn f r):Rn (fun k=>if c then f k else g k) r:=by
 simpa only [if_pos h] using hf
theorem Rn.f {c:Prop} [Decidable c] {f g:Nat→Option α} {r:α} (h:¬c) (hg:Rn g r):Rn (fun k=>if c then f k else g k) r:=by
 simpa only [if_neg h] using hg
theorem Rn.at {o:Option α} {g:Nat→α→Option β} {x:α} {r:β} (h:o=some x) (hg:Rn (fun k=>g k x) r):Rn (fun k=>Option.bind o (g k)) r:=by
 simpa only [h,Option.bind_some] using hg
theorem Rl.diag {f:Nat→Nat→Option α} {r:α} (h:Rl f r):Rn (fun k=>f k k) r:=by
 obtain⟨K,h⟩:=h
 exact⟨K,fun k hk=>h k k hk hk⟩
theorem Rl.pure (r:α):Rl (fun _ _=>some r) r:=⟨0,fun _ _ _ _=>rfl⟩
theorem Rl.bind {f:Nat→Option α} {g:Nat→Nat→α→Option β} {x:α} {r:β} (h1:Rn f x) (h2:Rl (fun k n=>g k n x) r):Rl (fun k n=>Option.bind (f k) (g k n)) r:=by
 obtain⟨K1,h1⟩:=h1
 obtain⟨K2,h2⟩:=h2
 exact⟨max K1 K2,fun k n hk hn=>by show Option.bind (f k) (g k n)=_;rw [h1 k (by omega)];exact h2 k n (by omega) (by omega)⟩
theorem Rl.up {f:Nat→Nat→Option α} {r:α} (h:Rl (fun k n=>f k (n+1)) r):Rl f r:=by
 obtain⟨K,h⟩:=h
 refine⟨K+1,fun k n hk hn=> ?_⟩
 obtain⟨j,rfl⟩:∃j,n=j+1:=⟨n-1,by omega⟩
 exact h k j (by omega) (by omega)
theorem Rl.of {f:Nat→Nat→Option α} {r:α} (K:Nat) (h:∀k n,K≤n→f k n=some r):Rl f r:=⟨K,fun k n _ hn=>h k n hn⟩
end

theorem qfH {x:Int} (h:0≤x∧x<4294967296):IntKind.u32.wrap x=x:=by rw [qeY];omega
theorem qbG {x:Int} (h:0≤x∧x<18446744073709551616):IntKind.u64.wrap x=x:=by rw [qgJ];omega
theorem qpg {x:Int} (h:0≤x∧x<256):IntKind.u8.wrap x=x:=by rw [quz];omega
theorem qcB (x:Int) {d:Int} (h:0≤d):x.fdiv d=x / d:=by
 rw [Int.fdiv_eq_ediv_of_nonneg _ h]
theorem qc2 {x d:Int} (h:0≤x):x.tdiv d=x / d:=Int.tdiv_eq_ediv_of_nonneg h
theorem qc3 {x d:Int} (h:0≤x):x.tmod d=x % d:=Int.tmod_eq_emod_of_nonneg h
theorem ps:
 (∀ {p:Prop} [inst:Decidable p],(Decidable.decide p=Bool.true)=p)∧
 (∀ {p:Prop} {x:Decidable p},Decidable.decide p=Bool.false↔¬p)∧
 (∀ {α:Type} [inst:BEq α] [LawfulBEq α] {a b:α},(a == b)=Bool.true↔a=b)∧
 (∀ {α:Type} [inst:BEq α] [LawfulBEq α] {a b:α},(a != b)=Bool.true↔a≠b)∧
 (∀ {α:Type} (a b:α),(a≠b)=¬a=b)∧
 (∀ {α:Type} [inst:LT α] {x y:α},x>y↔y<x)∧
 (∀ {α:Type} [inst:LE α] {x y:α},x≥y↔y≤x)∧
 (∀ {a b:Int},a≤b→(a≤b)=True)∧
 (∀ {a b:Int},¬a≤b→(a≤b)=False)∧
 (∀ {a b:Int},a<b→(a<b)=True)∧
 (∀ {a b:Int},¬a<b→(a<b)=False)∧
 (∀ {a b:Int},a=b→(a=b)=True)∧
 (∀ {a b:Int},¬a=b→(a=b)=False)∧
 (∀ {a b:Nat},a≤b→(a≤b)=True)∧
 (∀ {a b:Nat},¬a≤b→(a≤b)=False)∧
 (∀ {a b:Nat},a<b→(a<b)=True)∧
 (∀ {a b:Nat},¬a<b→(a<b)=False)∧
 ((¬True)=False)∧
 ((¬False)=True)∧
 (∀(p:Prop),(True∧p)=p)∧
 (∀(p:Prop),(p∧True)=p)∧
 (∀(p:Prop),(False∧p)=False)∧
 (∀(p:Prop),(p∧False)=False)∧
 (∀(p:Prop),(p∧p)=p)∧
 (∀(p:Prop),(p∨True)=True)∧
 (∀(p:Prop),(True∨p)=True)∧
 (∀(p:Prop),(p∨False)=p)∧
 (∀(p:Prop),(False∨p)=p)∧
 (∀ {α β:Type} (a:α) (f:α→Option β),(Option.some a).bind f=f a)∧
 (∀(n:Nat),(0:Nat)+n=n)∧
 (∀(n:Nat),n+(0:Nat)=n)∧
 (∀(n:Nat),n-(0:Nat)=n)∧
 (∀(n:Nat),(↑n:Int).toNat=n)∧
 (Int.toNat (0:Int)=(0:Nat))∧
 (∀ {x:Int},(-9223372036854775808:Int)≤x∧x≤(9223372036854775807:Int)→Go.IntKind.i64.wrap x=x)∧
 (∀ {x:Int},(0:Int)≤x∧x<(4294967296:Int)→Go.IntKind.u32.wrap x=x)∧
 (∀ {x:Int},(0:Int)≤x∧x<(18446744073709551616:Int)→Go.IntKind.u64.wrap x=x)∧
 (∀ {x:Int},(0:Int)≤x∧x<(256:Int)→Go.IntKind.u8.wrap x=x)∧
 (∀ {α:Type} {l:List α},List.take (0:Nat) l= [])∧
 (∀ {α:Type} (zs:List α),[]++zs=zs)∧
 (∀ {α:Type} [inst:BEq α] [ReflBEq α] (a:α),(a == a)=Bool.true)∧
 (∀ {α:Type} [inst:BEq α] [LawfulBEq α] (a:α),(a != a)=Bool.false)∧
 (∀ {α:Type} (a:α),(a=a)=True)∧
 ((Bool.false=Bool.true)=False)∧
 ((Bool.true=Bool.false)=False)∧
 (∀ {α:Type},([]:List α).length=(0:Nat))∧
 ((↑(0:Nat):Int)=(0:Int))∧
 ((!Bool.true)=Bool.false)∧
 ((!Bool.false)=Bool.true)∧
 (∀ {α β:Type} (f:α→Option β),Option.none.bind f=Option.none)∧
 (∀ {α:Type} [inst:BEq α] [LawfulBEq α] {a b:α},(a != b)=Bool.false↔a=b)∧
 (∀ {α:Type} [inst:BEq α] [LawfulBEq α] {a b:α},(a == b)=Bool.false↔a≠b)∧
 (∀(b:Bool),((!b)=Bool.true)=(b=Bool.false))∧
 (∀(b:Bool),((!b)=Bool.false)=(b=Bool.true)):=
 ⟨@decide_eq_true_eq,@decide_eq_false_iff_not,@beq_iff_eq.{0},@bne_iff_ne.{0},@ne_eq.{1},@gt_iff_lt.{0},@ge_iff_le.{0},@qzc,@qzd,@qze,@qzf,@qzg,@qzh,@qzi,@qzj,@qzk,@qzl,@not_true_eq_false,@not_false_eq_true,@true_and,@and_true,@false_and,@and_false,@and_self,@or_true,@true_or,@or_false,@false_or,@Option.bind_some.{0,0},@Nat.zero_add,@Nat.add_zero,@Nat.sub_zero,@Int.toNat_natCast,@Int.toNat_zero,@qe,@qfH,@qbG,@qpg,@List.take_zero.{0},@List.nil_append.{0},@beq_self_eq_true.{0},@bne_self_eq_false.{0},@eq_self.{1},@Bool.false_eq_true,@Bool.true_eq_false,@List.length_nil.{0},@Int.natCast_zero,@Bool.not_true,@Bool.not_false,@Option.bind_none.{0,0},@bne_eq_false_iff_eq.{0},@beq_eq_false_iff_ne.{0},@Bool.not_eq_true',@Bool.not_eq_false'⟩
theorem qmH {x y:Int} (hx:0≤x∧x<4294967296) (hy:0≤y∧y<4294967296):
  ((BitVec.toNat ((BitVec.ofInt 64 (x*4294967296)) ||| (BitVec.ofInt 64 y)):Nat):Int)=x*4294967296+y:=by
 obtain⟨a,rfl⟩:=Int.eq_ofNat_of_zero_le hx.1
 obtain⟨b,rfl⟩:=Int.eq_ofNat_of_zero_le hy.1
 have h1:(BitVec.ofInt 64 ((a:Int)*4294967296)).toNat=a <<< 32:=by
  rw [BitVec.toNat_ofInt,Nat.shiftLeft_eq]
  have:((a:Int)*4294967296)=((a*2^32:Nat):Int):=by simp
  rw [this]
  have ha:a*2^32<2^64:=by omega
  omega
 have h2:(BitVec.ofInt 64 (b:Int)).toNat=b:=by
  rw [BitVec.toNat_ofInt]
  omega
 rw [BitVec.toNat_or,h1,h2,←Nat.shiftLeft_add_eq_or_of_lt (by omega:b<2^32),Nat.shiftLeft_eq]
 simp
theorem qor {x:Int} (hx:0≤x∧x<18446744073709551616):((BitVec.toNat ((BitVec.ofInt 64 x) &&& (BitVec.ofInt 64 4294967295)):Nat):Int)=x % 4294967296:=by
 obtain⟨a,rfl⟩:=Int.eq_ofNat_of_zero_le hx.1
 have h1:(BitVec.ofInt 64 (a:Int)).toNat=a:=by rw [BitVec.toNat_ofInt];omega
 have h2:(BitVec.ofInt 64 (4294967295:Int)).toNat=2^32-1:=by decide
 rw [BitVec.toNat_and,h1,h2,Nat.and_two_pow_sub_one_eq_mod]
 omega

def V (B:Int):List Int→Int
 | []=>0
 | x::r=>x+B*V B r
def Dg (B:Int) (l:List Int):Prop:=∀x∈l,0≤x∧x<B
def tl:List Int→List Int
 | []=> []
 | x::r=>if x=0∧tl r= [] then [] else x::tl r
theorem qh8 (l:List Int) (x:Int):tl (l++ [x])=if x=0 then tl l else l++ [x]:=by
 induction l with
 | nil=>by_cases h:x=0<;>simp [tl,h]
 | cons y l ih=>
  simp only [List.cons_append,tl,ih]
  by_cases h:x=0
  ·simp [h]
  ·simp [h]
theorem qcx (l:List Int):(tl l).length≤l.length:=by
 induction l with
 | nil=>exact Nat.le_refl _
 | cons x r ih=>simp only [tl];split<;>simp;omega
theorem qgK (l:List Int):l.take (tl l).length=tl l:=by
 induction l with
 | nil=>rfl
 | cons x r ih=>
  simp only [tl]
  split
  ·rfl
  ·simp [ih]
theorem qzm (l:List Int):tl (tl l)=tl l:=by
 induction l with
 | nil=>rfl
 | cons x r ih=>
  simp only [tl]
  split
  ·rfl
  ·rename_i h
   simp only [tl,ih]
   rw [if_neg h]
section
variable {B : Int}
theorem qmI (l m:List Int):V B (l++m)=V B l+B^l.length*V B m:=by
 induction l with
 | nil=>simp [V]
 | cons x l ih=>
  simp only [List.cons_append,V,ih,List.length_cons,Int.pow_succ]
  rw [Int.mul_add,Int.add_assoc,Int.mul_comm (B^l.length) B,Int.mul_assoc]
theorem qg5 (l:List Int) (x:Int):V B (l++ [x])=V B l+B^l.length*x:=by rw [qmI];simp [V]
theorem Dg.nil:Dg B []:=fun x h=>by cases h
theorem Dg.cons {x:Int} {l:List Int} (h:0≤x∧x<B) (hl:Dg B l):Dg B (x::l):=fun y hy=>by
 rcases List.mem_cons.1 hy with rfl | hy
 ·exact h
 ·exact hl y hy
theorem Dg.tail {x:Int} {l:List Int} (h:Dg B (x::l)):Dg B l:=fun y hy=>h y (List.mem_cons_of_mem _ hy)
theorem Dg.head {x:Int} {l:List Int} (h:Dg B (x::l)):0≤x∧x<B:=h x (List.mem_cons_self ..)
theorem Dg.append {l m:List Int} (h1:Dg B l) (h2:Dg B m):Dg B (l++m):=fun y hy=>by
 rcases List.mem_append.1 hy with hy | hy
 ·exact h1 y hy
 ·exact h2 y hy
theorem Dg.snoc {x:Int} {l:List Int} (hl:Dg B l) (h:0≤x∧x<B):Dg B (l++ [x]):=hl.append (Dg.cons h Dg.nil)
theorem Dg.take {l:List Int} (h:Dg B l) (n:Nat):Dg B (l.take n):=fun y hy=>h y (List.mem_of_mem_take hy)
theorem Dg.drop {l:List Int} (h:Dg B l) (n:Nat):Dg B (l.drop n):=fun y hy=>h y (List.mem_of_mem_drop hy)
theorem Dg.get {l:List Int} (h:Dg B l) {i:Nat} {x:Int} (e:l[i]? =some x):0≤x∧x<B:=h x (List.mem_of_getElem? e)
theorem Dg.rep (n:Nat) (h:0<B):Dg B (List.replicate n 0):=fun y hy=>by
 rw [(List.mem_replicate.1 hy).2];omega
theorem Dg.set {l:List Int} (h:Dg B l) (i:Nat) {x:Int} (hx:0≤x∧x<B):Dg B (l.set i x):=fun y hy=>by
 rcases List.mem_or_eq_of_mem_set hy with hy | rfl
 ·exact h y hy
 ·exact hx
theorem Dg.tl {l:List Int} (h:Dg B l):Dg B (tl l):=by rw [←qgK];exact h.take _
theorem qr (hB:0≤B) {l:List Int} (h:Dg B l):0≤V B l:=by
 induction l with
 | nil=>exact Int.le_refl _
 | cons x l ih=>have:=Int.mul_nonneg hB (ih h.tail);have:=h.head;simp only [V];omega
theorem qeL (hB:0<B) {l:List Int} (h:Dg B l):V B l<B^l.length:=by
 induction l with
 | nil=>simp [V]
 | cons x l ih=>
  have h1:=ih h.tail
  have h2:=h.head
  have h3:B*(V B l+1)≤B*B^l.length:=Int.mul_le_mul_of_nonneg_left (by omega) (by omega)
  simp only [V,List.length_cons,Int.pow_succ]
  rw [Int.mul_add] at h3
  rw [Int.mul_comm (B^l.length) B]
  omega
theorem qlZ (n:Nat):V B (List.replicate n 0)=0:=by
 induction n with
 | zero=>rfl
 | succ n ih=>simp [List.replicate_succ,V,ih]
theorem qha (l:List Int):V B (tl l)=V B l:=by
 induction l with
 | nil=>rfl
 | cons x l ih=>
  simp only [tl]
  split
  ·rename_i h
   rw [h.2] at ih
   simp only [V] at ih ⊢
   rw [←ih,h.1];simp
  ·simp only [V,ih]
def Cn (B:Int) (l:List Int):Prop:=Dg B l∧tl l=l
theorem Cn.of {l:List Int} (h:Dg B l):Cn B (tl l):=⟨h.tl,qzm l⟩
theorem Cn.nil:Cn B []:=⟨Dg.nil,rfl⟩
theorem Cn.tail {x:Int} {l:List Int} (h:Cn B (x::l)):Cn B l:=by
 refine⟨h.1.tail,?_⟩
 have:=h.2
 simp only [tl] at this
 split at this
 ·cases this
 ·simpa using this
theorem Cn.pos {x:Int} {l:List Int} (hB:0<B) (h:Cn B (x::l)):0<V B (x::l):=by
 induction l generalizing x with
 | nil=>
  have h1:=h.1.head
  have h2:=h.2
  simp only [tl,and_true] at h2
  simp only [V,Int.mul_zero,Int.add_zero]
  split at h2
  ·cases h2
  ·omega
 | cons y l ih=>
  have:=ih h.tail
  have:=Int.mul_pos hB this
  have:=h.1.head
  rw [V]
  omega
theorem Cn.ext (hB:0<B):∀ {l m:List Int},Cn B l→Cn B m→V B l=V B m→l=m:=by
 intro l
 induction l with
 | nil=>
  intro m h1 h2 e
  cases m with
  | nil=>rfl
  | cons y m=>have:=h2.pos hB;rw [←e] at this;simp [V] at this
 | cons x l ih=>
  intro m h1 h2 e
  cases m with
  | nil=>have:=h1.pos hB;rw [e] at this;simp [V] at this
  | cons y m=>
   have hx:=h1.1.head
   have hy:=h2.1.head
   simp only [V] at e
   have e1:x=y:=by
    have a1:(x+B*V B l) % B=x:=by rw [Int.add_mul_emod_self_left];exact Int.emod_eq_of_lt hx.1 hx.2
    have a2:(y+B*V B m) % B=y:=by rw [Int.add_mul_emod_self_left];exact Int.emod_eq_of_lt hy.1 hy.2
    rw [←a1,←a2,e]
   subst e1
   have e2:B*V B l=B*V B m:=by omega
   have e3:=Int.eq_of_mul_eq_mul_left (by omega) e2
   rw [ih h1.tail h2.tail e3]
theorem Cn.nil_iff (hB:0<B) {l:List Int} (h:Cn B l):l= []↔V B l=0:=by
 constructor
 ·rintro rfl;rfl
 ·intro e;exact Cn.ext hB h Cn.nil e
theorem Cn.last {l:List Int} (h:Dg B l):tl l=l↔l= []∨∃m x,l=m++ [x]∧x≠0:=by
 rcases List.eq_nil_or_concat l with rfl | ⟨m,x,rfl⟩
 ·simp [tl]
 ·simp only [List.concat_eq_append,qh8]
  constructor
  ·intro e
   refine .inr ⟨m,x,rfl,fun h0=> ?_⟩
   rw [if_pos h0] at e
   have:=qcx m
   rw [e] at this
   simp at this
   omega
  ·rintro(e | ⟨m',x',e,h0⟩)
   ·simp at e
   ·obtain⟨h1,h2⟩:=List.append_inj' e rfl
    simp only [List.cons.injEq,and_true] at h2
    rw [h2,if_neg h0]
theorem Cn.ge (hB:0<B) {l:List Int} (h:Cn B l) (h0:l≠ []):B^(l.length-1)≤V B l:=by
 rcases(Cn.last h.1).1 h.2 with e | ⟨m,x,rfl,hx⟩
 ·exact absurd e h0
 ·have h1:=h.1 x (by simp)
  have h2:Dg B m:=fun y hy=>h.1 y (by simp [hy])
  have h3:=qr (by omega) h2
  rw [qg5]
  have hp:0<B^m.length:=Int.pow_pos hB
  have h4:B^m.length*1≤B^m.length*x:=Int.mul_le_mul_of_nonneg_left (by omega) (by omega)
  simp only [List.length_append,List.length_cons,List.length_nil,Nat.zero_add,Nat.add_sub_cancel]
  omega
theorem qjU (hB:1≤B) {a b:Nat} (h:a≤b):B^a≤B^b:=by
 obtain⟨c,rfl⟩:=Nat.exists_eq_add_of_le h
 rw [Int.pow_add]
 have h1:0<B^a:=Int.pow_pos (by omega)
 have h2:(1:Int)≤B^c:=by have:0<B^c:=Int.pow_pos (by omega);omega
 have:=Int.mul_le_mul_of_nonneg_left h2 (Int.le_of_lt h1)
 omega
theorem Cn.len_lt (hB:1<B) {l m:List Int} (h1:Cn B l) (h2:Cn B m) (h:l.length<m.length):V B l<V B m:=by
 have a:=qeL (by omega) h1.1
 have b:=h2.ge (by omega) (by rintro rfl;simp at h)
 have c:=qjU (B:=B) (by omega) (show l.length≤m.length-1 by omega)
 omega
theorem Cn.len_le (hB:1<B) {l:List Int} (h:Cn B l) (n:Nat):l.length≤n↔V B l<B^n:=by
 constructor
 ·intro e
  have a:=qeL (by omega) h.1
  have c:=qjU (B:=B) (by omega) e
  omega
 ·intro e
  by_cases h0:l= []
  ·simp [h0]
  ·have b:=h.ge (by omega) h0
   refine Nat.le_of_not_lt fun hlt=> ?_
   have c:=qjU (B:=B) (by omega) (show n≤l.length-1 by omega)
   omega
theorem qdS {l:List Int} {i:Nat} {x:Int} (e:l[i]? =some x):V B (l.take (i+1))=V B (l.take i)+B^i*x:=by
 rw [List.take_add_one,e]
 have:(l.take i).length=i:=by rw [List.length_take];have:=(List.getElem?_eq_some_iff.1 e).1;omega
 simp only [Option.toList_some]
 rw [qg5,this]
theorem qfe (l:List Int) (i:Nat) (h:i≤l.length):V B l=V B (l.take i)+B^i*V B (l.drop i):=by
 conv=>lhs;rw [←List.take_append_drop i l,qmI,List.length_take,Nat.min_eq_left h]
theorem qb8 {l:List Int} {i:Nat} {x:Int} (e:l[i]? =some x):V B (l.drop i)=x+B*V B (l.drop (i+1)):=by
 obtain⟨h,rfl⟩:=List.getElem?_eq_some_iff.1 e
 rw [List.drop_eq_getElem_cons h]
 rfl
end
theorem qH {l:List Int} {i:Nat} (h:i<l.length):∃x,l[i]? =some x:=⟨l[i],List.getElem?_eq_getElem h⟩
theorem qlQ (l:List Int) (i:Nat) (x:Int) (h:i<l.length):(l.set i x).take (i+1)=l.take i++ [x]:=by
 rw [List.take_add_one,List.take_set_of_le (Nat.le_refl i),List.getElem?_set_self h]
 rfl

structure Nm (B:Int) (s:Bool) (l:List Int) (z:Int):Prop where
 c:Cn B l
 sg:s=true→l≠ []
 z:(if s then -(V B l)else V B l)=z
theorem Nm.cast {B:Int} {s:Bool} {l:List Int} {z z':Int} (h:Nm B s l z) (e:z=z'):Nm B s l z':=e▸h
theorem Nm.ext {B:Int} (hB:0<B) {s t:Bool} {l m:List Int} {z:Int} (h1:Nm B s l z) (h2:Nm B t m z):s=t∧l=m:=by
 have p1:=qr (B:=B) (by omega) h1.c.1
 have p2:=qr (B:=B) (by omega) h2.c.1
 have q1:=h1.c.nil_iff hB
 have q2:=h2.c.nil_iff hB
 have e1:=h1.z
 have e2:=h2.z
 have s1:=h1.sg
 have s2:=h2.sg
 cases s<;>cases t
 ·refine⟨rfl,Cn.ext hB h1.c h2.c ?_⟩
  simp at e1 e2;omega
 ·have:=s2 rfl
  simp at e1 e2
  exact absurd (q2.2 (by omega)) this
 ·have:=s1 rfl
  simp at e1 e2
  exact absurd (q1.2 (by omega)) this
 ·refine⟨rfl,Cn.ext hB h1.c h2.c ?_⟩
  simp at e1 e2;omega
theorem Nm.abs {B:Int} (hB:0<B) {s:Bool} {l:List Int} {z:Int} (h:Nm B s l z):V B l=z.natAbs:=by
 have p:=qr (B:=B) (by omega) h.c.1
 have:=h.z
 cases s<;>simp at this<;>omega
theorem Nm.neg {B:Int} (hB:0<B) {s:Bool} {l:List Int} {z:Int} (h:Nm B s l z):s=decide (z<0):=by
 have p:=qr (B:=B) (by omega) h.c.1
 have e:=h.z
 cases s
 ·simp at e
  rw [eq_comm,decide_eq_false_iff_not];omega
 ·have:=h.sg rfl
  have q:=mt (h.c.nil_iff hB).2 this
  simp at e
  rw [eq_comm,decide_eq_true_eq];omega
theorem Nm.of {B:Int} (hB:0<B) {l:List Int} (h:Cn B l) {z:Int} (e:V B l=z.natAbs):Nm B (decide (z<0)) l z:=by
 have p:=qr (B:=B) (by omega) h.1
 refine⟨h,fun hs h0=> ?_,?_⟩
 ·have:=(h.nil_iff hB).1 h0
  simp at hs;omega
 ·by_cases hz:z<0
  ·simp [hz];omega
  ·simp [hz];omega
end Go.Proofs.YtlnailgfialgnaaGreatDoor.Am
namespace Go.Proofs.YtlnailgfialgnaaGreatDoor.Am
open Go
theorem Rl.t {α:Type} {c:Prop} [Decidable c] {f g:Nat→Nat→Option α} {r:α} (h:c) (hf:Rl f r):Rl (fun k n=>if c then f k n else g k n) r:=by
 simpa only [if_pos h] using hf
theorem Rl.f {α:Type} {c:Prop} [Decidable c] {f g:Nat→Nat→Option α} {r:α} (h:¬c) (hg:Rl g r):Rl (fun k n=>if c then f k n else g k n) r:=by
 simpa only [if_neg h] using hg
theorem Rl.at {α β:Type} {o:Option α} {g:Nat→Nat→α→Option β} {x:α} {r:β} (h:o=some x) (hg:Rl (fun k n=>g k n x) r):Rl (fun k n=>Option.bind o (g k n)) r:=by
 simpa only [h,Option.bind_some] using hg
theorem getD_some {α:Type} {l:List α} {i:Nat} (d:α) (h:i<l.length):l[i]? =some (l.getD i d):=by
 rw [List.getElem?_eq_getElem h];simp [List.getD,h]
theorem qdG {A B:Type} (L s:Nat) (F:Nat→Nat→Int→Option (A ⊕ B)) (b:B) (P:A→Prop) (ok:Nat→Prop)
  (hend:Rl (fun k n=>F k n (L:Int)) (.inr b))
  (hgo:∀i:Nat,s≤i→i<L→ok i→∀o,Rl (fun k n=>F k n ((i:Int)+1)) o→Rl (fun k n=>F k n (i:Int)) o)
  (hno:∀i:Nat,s≤i→i<L→¬ok i→∃a,P a∧Rl (fun k n=>F k n (i:Int)) (.inl a)):
  ∀d i:Nat,s≤i→i+d=L→∃o,Rl (fun k n=>F k n (i:Int)) o∧((∀j,i≤j→j<L→ok j)∧o= .inr b∨(¬ ∀j,i≤j→j<L→ok j)∧∃a,P a∧o= .inl a):=by
 intro d
 induction d with
 | zero=>
  intro i hs hi
  obtain rfl:i=L:=by omega
  exact⟨_,hend,.inl ⟨fun j h1 h2=>absurd h2 (by omega),rfl⟩⟩
 | succ d ih=>
  intro i hs hi
  by_cases h:ok i
  ·obtain⟨o,h1,h2⟩:=ih (i+1) (by omega) (by omega)
   refine⟨o,hgo i hs (by omega) h o h1,?_⟩
   have e:(∀j,i+1≤j→j<L→ok j)↔(∀j,i≤j→j<L→ok j):=⟨fun g j j1 j2=>by
    rcases Nat.lt_or_ge i j with k | k
    ·exact g j k j2
    ·exact(show i=j by omega)▸h,fun g j j1 j2=>g j (by omega) j2⟩
   rwa [e] at h2
  ·obtain⟨a,h1,h2⟩:=hno i hs (by omega) h
   exact⟨_,h2,.inr ⟨fun g=>h (g i (Nat.le_refl _) (by omega)),a,h1,rfl⟩⟩
theorem qzn {A B:Type} (L s:Nat) (F:Nat→Nat→Int→Option (A ⊕ B)) (b:B) (P:A→Prop) (ok:Nat→Prop)
  (hend:Rl (fun k n=>F k n (L:Int)) (.inr b))
  (hgo:∀i:Nat,s≤i→i<L→(∀j,s≤j→j<i→ok j)→ok i→∀o,Rl (fun k n=>F k n ((i:Int)+1)) o→Rl (fun k n=>F k n (i:Int)) o)
  (hno:∀i:Nat,s≤i→i<L→(∀j,s≤j→j<i→ok j)→¬ok i→∃a,P a∧Rl (fun k n=>F k n (i:Int)) (.inl a)):
  ∀d i:Nat,s≤i→i+d=L→(∀j,s≤j→j<i→ok j)→∃o,Rl (fun k n=>F k n (i:Int)) o∧((∀j,s≤j→j<L→ok j)∧o= .inr b∨(¬ ∀j,s≤j→j<L→ok j)∧∃a,P a∧o= .inl a):=by
 intro d
 induction d with
 | zero=>
  intro i hs hi hp
  obtain rfl:i=L:=by omega
  exact⟨_,hend,.inl ⟨hp,rfl⟩⟩
 | succ d ih=>
  intro i hs hi hp
  by_cases h:ok i
  ·obtain⟨o,h1,h2⟩:=ih (i+1) (by omega) (by omega) (fun j j1 j2=>by
    rcases Nat.lt_or_ge j i with k | k
    ·exact hp j j1 k
    ·exact(show i=j by omega)▸h)
   exact⟨o,hgo i hs (by omega) hp h o h1,h2⟩
  ·obtain⟨a,h1,h2⟩:=hno i hs (by omega) hp h
   exact⟨_,h2,.inr ⟨fun g=>h (g i hs (by omega)),a,h1,rfl⟩⟩
end Go.Proofs.YtlnailgfialgnaaGreatDoor.Am
set_option maxRecDepth 10000
namespace Go.Proofs.YtlnailgfialgnaaGreatDoor.Am
open Go
structure UF (n:Nat) (ss:List Int) (rt:Nat→Nat) (dp:Nat→Nat):Prop where
 len:ss.length=n
 par:∀i,i<n→∃p:Nat,p<n∧ss[i]? =some (p:Int)∧rt p=rt i∧(p≠i→dp p<dp i)∧(p=i→rt i=i)
 lt:∀i,i<n→rt i<n
 self:∀i,i<n→ss[rt i]? =some ((rt i:Nat):Int)
 idem:∀i,i<n→rt (rt i)=rt i
theorem UF.half {n:Nat} {ss:List Int} {rt dp:Nat→Nat} (h:UF n ss rt dp) {i p q:Nat} (hi:i<n) (e1:ss[i]? =some (p:Int)) (hp:p≠i) (hpn:p<n) (hq:q<n) (e2:ss[p]? =some (q:Int)):UF n (ss.set i (q:Int)) rt dp:=by
 obtain⟨p',a1,a2,a3,a4,a5⟩:=h.par i hi
 obtain⟨q',b1,b2,b3,b4,b5⟩:=h.par p hpn
 have e:p'=p:=by have:=Option.some.inj (e1.symm.trans a2);omega
 subst e
 have e:q'=q:=by have:=Option.some.inj (e2.symm.trans b2);omega
 subst e
 have hdq:dp q'<dp i:=by
  by_cases c:q'=p'
  ·rw [c];exact a4 hp
  ·have:=b4 c;have:=a4 hp;omega
 have hir:rt i≠i:=by
  intro c
  have:=h.self i hi
  rw [c,e1] at this
  have:=Option.some.inj this
  exact hp (by omega)
 refine⟨by rw [List.length_set];exact h.len,fun j hj=> ?_,h.lt,fun j hj=> ?_,h.idem⟩
 ·by_cases c:j=i
  ·subst c
   refine⟨q',hq,by rw [List.getElem?_set_self (by rw [h.len];exact hj)],by rw [b3,a3],fun _=>hdq,fun e=> ?_⟩
   rw [e] at hdq
   omega
  ·rw [List.getElem?_set_ne (fun e=>c e.symm)]
   exact h.par j hj
 ·have hne:i≠rt j:=by
   intro c
   have:=h.idem j hj
   rw [←c] at this
   exact hir this
  rw [List.getElem?_set_ne hne]
  exact h.self j hj
theorem qrc {n:Nat} (hn:n≤1000000000000000000) {rt dp:Nat→Nat}:∀(D i:Nat) (ss:List Int),UF n ss rt dp→i<n→dp i≤D→
  ∃s2,UF n s2 rt dp∧Rl (fun k q=>qO k q n (i:Int) ss) ((rt i:Nat),s2):=by
 intro D
 induction D with
 | zero=>
  intro i ss h hi hd
  obtain⟨p,a1,a2,a3,a4,a5⟩:=h.par i hi
  have hp:p=i:=by
   by_cases c:p=i
   ·exact c
   ·have:=a4 c;omega
  refine⟨ss,h,Rl.up (f:=fun k q=>qO k q n (i:Int) ss) ?_⟩
  show Rl (fun k q=>qam k (qO k q) _ _ _) _
  unfold qam
  rw [Int.toNat_natCast,Nat.zero_add,a5 hp]
  exact Rl.t (by omega) (Rl.at a2 (Rl.f (by simp [hp]) (Rl.pure _)))
 | succ D ih=>
  intro i ss h hi hd
  obtain⟨p,a1,a2,a3,a4,a5⟩:=h.par i hi
  by_cases hp:p=i
  ·refine⟨ss,h,Rl.up (f:=fun k q=>qO k q n (i:Int) ss) ?_⟩
   show Rl (fun k q=>qam k (qO k q) _ _ _) _
   unfold qam
   rw [Int.toNat_natCast,Nat.zero_add,a5 hp]
   exact Rl.t (by omega) (Rl.at a2 (Rl.f (by simp [hp]) (Rl.pure _)))
  ·obtain⟨q,b1,b2,b3,b4,b5⟩:=h.par p a1
   have hu:=h.half hi a2 hp a1 b1 b2
   have hdq:dp q≤D:=by
    have:=a4 hp
    by_cases c:q=p
    ·rw [c];omega
    ·have:=b4 c;omega
   obtain⟨s2,c1,c2⟩:=ih q _ hu b1 hdq
   refine⟨s2,c1,Rl.up (f:=fun k q=>qO k q n (i:Int) ss) ?_⟩
   show Rl (fun k q=>qam k (qO k q) _ _ _) _
   unfold qam
   rw [Int.toNat_natCast,Nat.zero_add]
   refine Rl.t (by omega) (Rl.at a2 (Rl.t (by simp;omega) (Rl.t (by omega) (Rl.at a2 (Rl.t (by omega) (Rl.at (x:=(q:Int)) (by rw [Int.toNat_natCast,Nat.zero_add];exact b2) (Rl.t (by omega) (Rl.at a2 (Rl.t (by omega) (Rl.at (x:=(q:Int)) (by rw [List.getElem?_set_self (by rw [h.len];exact hi)]) ?_))))))))))
   rw [←a3,←b3]
   exact c2
theorem qjv {n:Nat} (hn:n≤1000000000000000000) {rt dp:Nat→Nat} {ss:List Int} (h:UF n ss rt dp) {i:Nat} (hi:i<n):
  ∃s2,UF n s2 rt dp∧Rn (fun k=>qa1 k n (i:Int) ss) ((rt i:Nat),s2):=by
 obtain⟨s2,h1,h2⟩:=qrc hn (dp i) i ss h hi (Nat.le_refl _)
 refine⟨s2,h1,Rn.up (f:=fun k=>qa1 k n (i:Int) ss) ?_⟩
 show Rn (fun k=>qer k _ _ _) _
 unfold qer
 exact Rn.bind h2.diag (Rn.pure _)
def jn (rt:Nat→Nat) (a b:Nat):Nat→Nat:=fun x=>if rt x=rt a then rt b else rt x
theorem UF.join {n:Nat} {ss:List Int} {rt dp:Nat→Nat} (h:UF n ss rt dp) {a b:Nat} (ha:a<n) (hb:b<n):∃dp',UF n (ss.set (rt a) (rt b:Int)) (jn rt a b) dp':=by
 have la:=h.lt a ha
 have lb:=h.lt b hb
 by_cases c:rt a=rt b
 ·have e1:jn rt a b=rt:=by
   funext x;unfold jn
   by_cases d:rt x=rt a
   ·rw [if_pos d,d,c]
   ·rw [if_neg d]
  have e2:ss.set (rt a) (rt b:Int)=ss:=by
   have:=h.self a ha
   apply List.ext_getElem?
   intro j
   by_cases d:rt a=j
   ·subst d;rw [List.getElem?_set_self (by rw [h.len];exact la),this,c]
   ·rw [List.getElem?_set_ne d]
  rw [e1,e2];exact⟨dp,h⟩
 ·refine⟨fun x=>if rt x=rt a then dp x+dp (rt b)+1 else dp x,?_⟩
  have jb:∀x,rt x≠rt a→jn rt a b x=rt x:=fun x hx=>if_neg hx
  have ja:∀x,rt x=rt a→jn rt a b x=rt b:=fun x hx=>if_pos hx
  have ib:=h.idem b hb
  have ia:=h.idem a ha
  have jrb:jn rt a b (rt b)=rt b:=by rw [jb _ (by rw [ib];exact fun e=>c e.symm),ib]
  refine⟨by rw [List.length_set];exact h.len,fun j hj=> ?_,fun j hj=> ?_,fun j hj=> ?_,fun j hj=> ?_⟩
  ·by_cases d:j=rt a
   ·subst d
    refine⟨rt b,lb,by rw [List.getElem?_set_self (by rw [h.len];exact hj)],by rw [jrb,ja _ ia],fun _=> ?_,fun e=>absurd e.symm c⟩
    simp only [ib,ia,if_neg (fun e=>c (Eq.symm e):¬rt b=rt a),if_pos]
    omega
   ·obtain⟨p,a1,a2,a3,a4,a5⟩:=h.par j hj
    refine⟨p,a1,by rw [List.getElem?_set_ne (fun e=>d e.symm)];exact a2,by unfold jn;rw [a3],fun e=> ?_,fun e=> ?_⟩
    ·have:=a4 e
     simp only [a3]
     split<;>omega
    ·have e5:=a5 e
     rw [jb _ (by rw [e5];exact d),e5]
  ·by_cases d:rt j=rt a
   ·rw [ja _ d];exact lb
   ·rw [jb _ d];exact h.lt j hj
  ·by_cases d:rt j=rt a
   ·rw [ja _ d,List.getElem?_set_ne c];exact h.self b hb
   ·rw [jb _ d,List.getElem?_set_ne (fun e=>d e.symm)];exact h.self j hj
  ·by_cases d:rt j=rt a
   ·rw [ja _ d,jrb]
   ·rw [jb _ d,jb _ (by rw [h.idem j hj];exact d),h.idem j hj]
theorem qjw {n:Nat} (hn:n≤1000000000000000000) {rt dp:Nat→Nat} {ss:List Int} (h:UF n ss rt dp) {a b:Nat} (ha:a<n) (hb:b<n):
  ∃s2 dp',UF n s2 (jn rt a b) dp'∧Rn (fun k=>qaa k n (a:Int) (b:Int) ss) (decide (rt a≠rt b),s2):=by
 obtain⟨s1,h1,h2⟩:=qjv hn h ha
 obtain⟨s2,h3,h4⟩:=qjv hn h1 hb
 obtain⟨dp',h5⟩:=h3.join ha hb
 refine⟨_,dp',h5,Rn.up (f:=fun k=>qaa k n (a:Int) (b:Int) ss) ?_⟩
 show Rn (fun k=>qes k _ _ _ _) _
 unfold qes
 have la:=h.lt a ha
 refine Rn.bind h2 (Rn.bind h4 (Rn.t (by simp;omega) (Rn.at (x:=((rt a:Nat):Int)) (by simp only [Int.toNat_natCast,Nat.zero_add];exact h3.self a ha) (Rn.const ?_))))
 simp only [Int.toNat_natCast,Nat.zero_add]
 congr 2
 by_cases c:rt a=rt b
 ·simp [c]
 ·have:¬((rt a:Nat):Int)=((rt b:Nat):Int):=by omega
  simp [c,this]
theorem qng (n:Nat) (hn:n≤1000000000):∀(d i:Nat) (ss:List Int),i+d=n→ss.length=n→(∀j,j<i→ss[j]? =some (j:Int))→
  ∃s2,s2.length=n∧(∀j,j<n→s2[j]? =some (j:Int))∧Rl (fun k q=>qcq k q n n (i:Int) ss) (n,s2):=by
 intro d
 induction d with
 | zero=>
  intro i ss e hl h
  refine⟨ss,hl,fun j hj=>h j (by omega),Rl.up (f:=fun k q=>qcq k q n n (i:Int) ss) ?_⟩
  show Rl (fun k q=>qdA k (qcq k q) _ _ _ _) _
  unfold qdA
  exact Rl.f (by first | omega | (simp only [decide_eq_true_eq,decide_eq_false_iff_not,Int.toNat_natCast,beq_iff_eq,bne_iff_ne,ne_eq,Int.not_lt,Int.not_le,ge_iff_le,gt_iff_lt,beq_eq_false_iff_ne,Nat.zero_add];omega)) (Rl.pure _)
 | succ d ih=>
  intro i ss e hl h
  obtain⟨s2,a1,a2,a3⟩:=ih (i+1) (ss.set i (i:Int)) (by omega) (by rw [List.length_set];exact hl) (fun j hj=>by
   by_cases c:i=j
   ·subst c;rw [List.getElem?_set_self (by omega)]
   ·rw [List.getElem?_set_ne c];exact h j (by omega))
  refine⟨s2,a1,a2,Rl.up (f:=fun k q=>qcq k q n n (i:Int) ss) ?_⟩
  show Rl (fun k q=>qdA k (qcq k q) _ _ _ _) _
  unfold qdA
  rw [qe (x:=(i:Int)+1) (by omega),Int.toNat_natCast,Nat.zero_add]
  exact Rl.t (by first | omega | (simp only [decide_eq_true_eq,decide_eq_false_iff_not,Int.toNat_natCast,beq_iff_eq,bne_iff_ne,ne_eq,Int.not_lt,Int.not_le,ge_iff_le,gt_iff_lt,beq_eq_false_iff_ne,Nat.zero_add];omega)) (Rl.t (by omega) (Rl.at (getD_some 0 (by omega)) a3))
theorem UF.new {n:Nat} {ss:List Int} (hl:ss.length=n) (h:∀j,j<n→ss[j]? =some (j:Int)):UF n ss id (fun _=>0):=
 ⟨hl,fun i hi=>⟨i,hi,h i hi,rfl,fun e=>absurd rfl e,fun _=>rfl⟩,fun i hi=>hi,fun i hi=>h i hi,fun i hi=>rfl⟩
theorem qkL (n:Nat) (hn:n≤1000000000):∃ss,UF n ss id (fun _=>0)∧Rn (fun k=>qeC k n) (n,ss):=by
 obtain⟨s2,a1,a2,a3⟩:=qng n hn n 0 (List.replicate n 0) (by omega) (by simp) (fun j hj=>absurd hj (by omega))
 refine⟨s2,UF.new a1 a2,Rn.up (f:=fun k=>qeC k n) ?_⟩
 show Rn (fun k=>qhd k _) _
 unfold qhd
 rw [Int.toNat_natCast]
 exact Rn.t (by omega) (Rn.bind a3.diag (Rn.pure _))
def flo (rt:Nat→Nat):Nat→List Int
 | 0=> []
 | i+1=>if rt i=rt 0 then flo rt i else flo rt i++ [(i:Int)]
theorem qjx (rt:Nat→Nat):∀i,(flo rt i).length≤i
 | 0=>Nat.le_refl _
 | i+1=>by
  have:=qjx rt i
  unfold flo
  split
  ·omega
  ·rw [List.length_append];simp only [List.length_singleton];omega
theorem qoA {n:Nat} (hn:n≤1000000000) {rt dp:Nat→Nat}:∀(d i:Nat) (ss:List Int),UF n ss rt dp→i+d=n→
  ∃s2,Rl (fun k q=>qcc k q n (flo rt i).length n (i:Int) ss (flo rt i)) ((flo rt n).length,s2,flo rt n):=by
 intro d
 induction d with
 | zero=>
  intro i ss h e
  obtain rfl:i=n:=by omega
  refine⟨ss,Rl.up (f:=fun k q=>qcc k q i (flo rt i).length i (i:Int) ss (flo rt i)) ?_⟩
  show Rl (fun k q=>qdO k (qcc k q) _ _ _ _ _ _) _
  unfold qdO
  exact Rl.f (by first | omega | (simp only [decide_eq_true_eq,decide_eq_false_iff_not,Int.toNat_natCast,beq_iff_eq,bne_iff_ne,ne_eq,Int.not_lt,Int.not_le,ge_iff_le,gt_iff_lt,beq_eq_false_iff_ne,Nat.zero_add];omega)) (Rl.pure _)
 | succ d ih=>
  intro i ss h e
  obtain⟨s1,h1,h2⟩:=qjv (by omega) h (show i<n by omega)
  obtain⟨s2,h3,h4⟩:=qjv (by omega) h1 (show 0<n by omega)
  obtain⟨s3,h5⟩:=ih (i+1) s2 h3 (by omega)
  have hlen:=qjx rt i
  refine⟨s3,Rl.up (f:=fun k q=>qcc k q n (flo rt i).length n (i:Int) ss (flo rt i)) ?_⟩
  show Rl (fun k q=>qdO k (qcc k q) _ _ _ _ _ _) _
  unfold qdO
  rw [qe (x:=(i:Int)+1) (by omega)]
  refine Rl.t (by first | omega | (simp only [decide_eq_true_eq,decide_eq_false_iff_not,Int.toNat_natCast,beq_iff_eq,bne_iff_ne,ne_eq,Int.not_lt,Int.not_le,ge_iff_le,gt_iff_lt,beq_eq_false_iff_ne,Nat.zero_add];omega)) (Rl.bind h2 (Rl.bind h4 ?_))
  have e1:List.take 1 [(i:Int)]= [(i:Int)]:=rfl
  by_cases c:rt i=rt 0
  ·have ef:flo rt (i+1)=flo rt i:=if_pos c
   rw [ef] at h5
   exact Rl.f (by simp [c]) h5
  ·have ef:flo rt (i+1)=flo rt i++ [(i:Int)]:=if_neg c
   rw [ef] at h5
   have cc:¬((rt i:Nat):Int)=((rt 0:Nat):Int):=by omega
   refine Rl.t (by simp [cc]) (Rl.t (Nat.le_refl _) (Rl.t (by rw [e1];simp only [List.length_singleton];omega) ?_))
   rw [e1,List.take_length]
   rw [List.length_append] at h5
   exact h5
abbrev Dv:=Int×ByteArray×List Int×Int×(Int×Int)×(Int×List (Int×Int)×List Int)×ByteArray×Int×List (Int×Int)×List (Int×Int)
def qi6:ByteArray:=ByteArray.mk (List.toArray [101,103,116])
structure OkD (n:Nat) (d:Dv):Prop where
 rng:∀i,i<d.2.2.1.length→0≤d.2.2.1.getD i 0∧d.2.2.1.getD i 0<n
 two:2≤d.2.2.1.length
 four:0≤qci qi6 d.1→4≤d.2.2.1.length
def nd (d:Dv) (i:Nat):Nat:=(d.2.2.1.getD i 0).toNat
theorem OkD.at {n:Nat} {d:Dv} (h:OkD n d) {i:Nat} (hi:i<d.2.2.1.length):d.2.2.1[i]? =some ((nd d i:Nat):Int)∧nd d i<n:=by
 obtain⟨h1,h2⟩:=h.rng i hi
 have e:=getD_some (l:=d.2.2.1) (0:Int) hi
 unfold nd
 exact⟨by rw [e];congr 1;omega,by omega⟩
def tie (first:ByteArray) (rt:Nat→Nat) (d:Dv):Nat→Nat:=
 if 0≤qci qi6 d.1 then jn (if 0≤qci first d.1 then jn rt (nd d 0) (nd d 1)else rt) (nd d 2) (nd d 3)else if 0≤qci first d.1 then jn rt (nd d 0) (nd d 1)else rt
theorem qcs (s:ByteArray) (c:Int):Rn (fun k=>qas k s c) (qci s c):=by
 refine Rn.up (f:=fun k=>qas k s c) ?_
 show Rn (fun k=>qe5 k s c) _
 unfold qe5
 exact Rn.pure _
theorem qoB {n:Nat} (hn:n≤1000000000) (first:ByteArray) (f0:List ByteArray) (f1:List Dv) (f2 f3 f4:Int) (hl:f1.length≤1000000000) (hd:∀d∈f1,OkD n d):
  ∀(D i:Nat) (ss:List Int) (rt dp:Nat→Nat),UF n ss rt dp→i+D=f1.length→
  ∃s2 dp',UF n s2 ((f1.drop i).foldl (tie first) rt) dp'∧Rl (fun k q=>qbM k q n first f1 f1.length (i:Int) f0 f1 f2 f3 f4 ss) (n,f0,f1,f2,f3,f4,s2):=by
 intro D
 induction D with
 | zero=>
  intro i ss rt dp h e
  obtain rfl:i=f1.length:=by omega
  refine⟨ss,dp,by rw [List.drop_length];exact h,Rl.up (f:=fun k q=>qbM k q n first f1 f1.length (f1.length:Int) f0 f1 f2 f3 f4 ss) ?_⟩
  show Rl (fun k q=>qbU k (qbM k q) _ _ _ _ _ _ _ _ _ _ _) _
  unfold qbU
  exact Rl.f (by first | omega | (simp only [decide_eq_true_eq,decide_eq_false_iff_not,Int.toNat_natCast,beq_iff_eq,bne_iff_ne,ne_eq,Int.not_lt,Int.not_le,ge_iff_le,gt_iff_lt,beq_eq_false_iff_ne,Nat.zero_add];omega)) (Rl.pure _)
 | succ D ih=>
  intro i ss rt dp h e
  have hi:i<f1.length:=by omega
  have eg:f1[i]? =some f1[i]:=List.getElem?_eq_getElem hi
  have edr:f1.drop i=f1[i]::f1.drop (i+1):=List.drop_eq_getElem_cons hi
  have ok:=hd f1[i] (List.getElem_mem hi)
  generalize f1[i]=d at eg edr ok
  rw [edr,List.foldl_cons]
  have up:∀o,Rl (fun k q=>qbU k (qbM k q) n first f1 f1.length (i:Int) f0 f1 f2 f3 f4 ss) o→Rl (fun k q=>qbM k q n first f1 f1.length (i:Int) f0 f1 f2 f3 f4 ss) o:=fun o h=>Rl.up (f:=fun k q=>qbM k q n first f1 f1.length (i:Int) f0 f1 f2 f3 f4 ss) h
  have ew:IntKind.i64.wrap ((i:Int)+1)=((i+1:Nat):Int):=by rw [qe (by omega)];omega
  have two:=ok.two
  obtain⟨g0,l0⟩:=ok.at (i:=0) (by omega)
  obtain⟨g1,l1⟩:=ok.at (i:=1) (by omega)
  by_cases c1:0≤qci first d.1
  ·obtain⟨s1,dp1,h1,h2⟩:=qjw (by omega) h l0 l1
   by_cases c2:0≤qci qi6 d.1
   ·have four:=ok.four c2
    obtain⟨g2,l2⟩:=ok.at (i:=2) (by omega)
    obtain⟨g3,l3⟩:=ok.at (i:=3) (by omega)
    obtain⟨s3,dp3,h3,h4⟩:=qjw (by omega) h1 l2 l3
    have et:tie first rt d=jn (jn rt (nd d 0) (nd d 1)) (nd d 2) (nd d 3):=by unfold tie;rw [if_pos c2,if_pos c1]
    rw [et]
    obtain⟨s4,dp4,h5,h6⟩:=ih (i+1) s3 _ dp3 h3 (by omega)
    refine⟨s4,dp4,h5,up _ ?_⟩
    unfold qbU
    rw [ew]
    exact Rl.t (by first | omega | (simp only [decide_eq_true_eq,decide_eq_false_iff_not,Int.toNat_natCast,beq_iff_eq,bne_iff_ne,ne_eq,Int.not_lt,Int.not_le,ge_iff_le,gt_iff_lt,beq_eq_false_iff_ne,Nat.zero_add];omega)) (Rl.t (by first | omega | (simp only [decide_eq_true_eq,decide_eq_false_iff_not,Int.toNat_natCast,beq_iff_eq,bne_iff_ne,ne_eq,Int.not_lt,Int.not_le,ge_iff_le,gt_iff_lt,beq_eq_false_iff_ne,Nat.zero_add];omega)) (Rl.at (by rw [Int.toNat_natCast];exact eg) (Rl.bind (qcs _ _) (Rl.t (decide_eq_true c1) (Rl.at g0 (Rl.at g1 (Rl.bind h2 (Rl.bind (qcs _ _) (Rl.t (decide_eq_true c2) (Rl.at g2 (Rl.at g3 (Rl.bind h4 h6))))))))))))
   ·have et:tie first rt d=jn rt (nd d 0) (nd d 1):=by unfold tie;rw [if_neg c2,if_pos c1]
    rw [et]
    obtain⟨s4,dp4,h5,h6⟩:=ih (i+1) s1 _ dp1 h1 (by omega)
    refine⟨s4,dp4,h5,up _ ?_⟩
    unfold qbU
    rw [ew]
    exact Rl.t (by first | omega | (simp only [decide_eq_true_eq,decide_eq_false_iff_not,Int.toNat_natCast,beq_iff_eq,bne_iff_ne,ne_eq,Int.not_lt,Int.not_le,ge_iff_le,gt_iff_lt,beq_eq_false_iff_ne,Nat.zero_add];omega)) (Rl.t (by first | omega | (simp only [decide_eq_true_eq,decide_eq_false_iff_not,Int.toNat_natCast,beq_iff_eq,bne_iff_ne,ne_eq,Int.not_lt,Int.not_le,ge_iff_le,gt_iff_lt,beq_eq_false_iff_ne,Nat.zero_add];omega)) (Rl.at (by rw [Int.toNat_natCast];exact eg) (Rl.bind (qcs _ _) (Rl.t (decide_eq_true c1) (Rl.at g0 (Rl.at g1 (Rl.bind h2 (Rl.bind (qcs _ _) (Rl.f (fun e=>c2 (of_decide_eq_true e)) h6)))))))))
  ·by_cases c2:0≤qci qi6 d.1
   ·have four:=ok.four c2
    obtain⟨g2,l2⟩:=ok.at (i:=2) (by omega)
    obtain⟨g3,l3⟩:=ok.at (i:=3) (by omega)
    obtain⟨s3,dp3,h3,h4⟩:=qjw (by omega) h l2 l3
    have et:tie first rt d=jn rt (nd d 2) (nd d 3):=by unfold tie;rw [if_pos c2,if_neg c1]
    rw [et]
    obtain⟨s4,dp4,h5,h6⟩:=ih (i+1) s3 _ dp3 h3 (by omega)
    refine⟨s4,dp4,h5,up _ ?_⟩
    unfold qbU
    rw [ew]
    exact Rl.t (by first | omega | (simp only [decide_eq_true_eq,decide_eq_false_iff_not,Int.toNat_natCast,beq_iff_eq,bne_iff_ne,ne_eq,Int.not_lt,Int.not_le,ge_iff_le,gt_iff_lt,beq_eq_false_iff_ne,Nat.zero_add];omega)) (Rl.t (by first | omega | (simp only [decide_eq_true_eq,decide_eq_false_iff_not,Int.toNat_natCast,beq_iff_eq,bne_iff_ne,ne_eq,Int.not_lt,Int.not_le,ge_iff_le,gt_iff_lt,beq_eq_false_iff_ne,Nat.zero_add];omega)) (Rl.at (by rw [Int.toNat_natCast];exact eg) (Rl.bind (qcs _ _) (Rl.f (fun e=>c1 (of_decide_eq_true e)) (Rl.bind (qcs _ _) (Rl.t (decide_eq_true c2) (Rl.at g2 (Rl.at g3 (Rl.bind h4 h6)))))))))
   ·have et:tie first rt d=rt:=by unfold tie;rw [if_neg c2,if_neg c1]
    rw [et]
    obtain⟨s4,dp4,h5,h6⟩:=ih (i+1) ss _ dp h (by omega)
    refine⟨s4,dp4,h5,up _ ?_⟩
    unfold qbU
    rw [ew]
    exact Rl.t (by first | omega | (simp only [decide_eq_true_eq,decide_eq_false_iff_not,Int.toNat_natCast,beq_iff_eq,bne_iff_ne,ne_eq,Int.not_lt,Int.not_le,ge_iff_le,gt_iff_lt,beq_eq_false_iff_ne,Nat.zero_add];omega)) (Rl.t (by first | omega | (simp only [decide_eq_true_eq,decide_eq_false_iff_not,Int.toNat_natCast,beq_iff_eq,bne_iff_ne,ne_eq,Int.not_lt,Int.not_le,ge_iff_le,gt_iff_lt,beq_eq_false_iff_ne,Nat.zero_add];omega)) (Rl.at (by rw [Int.toNat_natCast];exact eg) (Rl.bind (qcs _ _) (Rl.f (fun e=>c1 (of_decide_eq_true e)) (Rl.bind (qcs _ _) (Rl.f (fun e=>c2 (of_decide_eq_true e)) h6))))))
def LK (mode:Int) (d:Dv):Prop:=d.1=118∨d.1=108∧mode=1
instance (mode:Int) (d:Dv):Decidable (LK mode d):=by unfold LK;infer_instance
def lps (mode:Int):List Dv→Nat→(Nat→Nat)→List Int
 | [],_,_=> []
 | d::l,i,rt=>if LK mode d then(if rt (nd d 0)=rt (nd d 1)then(i:Int)::lps mode l (i+1) (jn rt (nd d 0) (nd d 1))else lps mode l (i+1) (jn rt (nd d 0) (nd d 1)))else lps mode l (i+1) rt
theorem qyO {n:Nat} (hn:n≤1000000000) (mode:Int) (f1:List Dv) (hl:f1.length≤1000000000) (hd:∀d∈f1,OkD n d):
  ∀(D i:Nat) (ss:List Int) (rt dp:Nat→Nat) (ls:List Int),UF n ss rt dp→i+D=f1.length→ls.length≤i→
  ∃s2,Rl (fun k q=>qbc k q mode n ls.length f1 f1.length (i:Int) ss ls) ((ls++lps mode (f1.drop i) i rt).length,s2,ls++lps mode (f1.drop i) i rt):=by
 intro D
 induction D with
 | zero=>
  intro i ss rt dp ls h e hls
  obtain rfl:i=f1.length:=by omega
  refine⟨ss,?_⟩
  rw [List.drop_length]
  show Rl _ ((ls++ []).length,ss,ls++ [])
  rw [List.append_nil]
  refine Rl.up (f:=fun k q=>qbc k q mode n ls.length f1 f1.length (f1.length:Int) ss ls) ?_
  show Rl (fun k q=>qcd k (qbc k q) _ _ _ _ _ _ _ _) _
  unfold qcd
  exact Rl.f (by first | omega | (simp only [decide_eq_true_eq,decide_eq_false_iff_not,Int.toNat_natCast,beq_iff_eq,bne_iff_ne,ne_eq,Int.not_lt,Int.not_le,ge_iff_le,gt_iff_lt,beq_eq_false_iff_ne,Nat.zero_add];omega)) (Rl.pure _)
 | succ D ih=>
  intro i ss rt dp ls h e hls
  have hi:i<f1.length:=by omega
  have eg:f1[i]? =some f1[i]:=List.getElem?_eq_getElem hi
  have edr:f1.drop i=f1[i]::f1.drop (i+1):=List.drop_eq_getElem_cons hi
  have ok:=hd f1[i] (List.getElem_mem hi)
  generalize f1[i]=d at eg edr ok
  rw [edr]
  have up:∀s2 o,Rl (fun k q=>qcd k (qbc k q) mode n ls.length f1 f1.length (i:Int) ss ls) (o.length,s2,o)→Rl (fun k q=>qbc k q mode n ls.length f1 f1.length (i:Int) ss ls) (o.length,s2,o):=fun s2 o h=>Rl.up (f:=fun k q=>qbc k q mode n ls.length f1 f1.length (i:Int) ss ls) h
  have ew:IntKind.i64.wrap ((i:Int)+1)=((i+1:Nat):Int):=by rw [qe (by omega)];omega
  have two:=ok.two
  obtain⟨g0,l0⟩:=ok.at (i:=0) (by omega)
  obtain⟨g1,l1⟩:=ok.at (i:=1) (by omega)
  obtain⟨s1,dp1,h1,h2⟩:=qjw (by omega) h l0 l1
  have e1:List.take 1 [(i:Int)]= [(i:Int)]:=rfl
  have body:LK mode d→∃s2,Rl (fun k q=>Option.bind (qaa k n ((nd d 0:Nat):Int) ((nd d 1:Nat):Int) ss) fun r3=>
    if((!r3.1)=true)then(if(ls.length≤(List.length ls))then(if(((ls.length+(List.length (List.take 1 ((i:Int):: []))))*8)≤140737488355328)then qbc k q mode n (ls.length+(List.length (List.take 1 ((i:Int):: [])))) f1 f1.length (IntKind.i64.wrap ((i:Int)+1)) r3.2 ((List.take ls.length ls)++(List.take 1 ((i:Int):: [])))else none)else none)
    else qbc k q mode n ls.length f1 f1.length (IntKind.i64.wrap ((i:Int)+1)) r3.2 ls) ((ls++lps mode (d::f1.drop (i+1)) i rt).length,s2,ls++lps mode (d::f1.drop (i+1)) i rt):=by
   intro hk
   by_cases c:rt (nd d 0)=rt (nd d 1)
   ·have el:lps mode (d::f1.drop (i+1)) i rt=(i:Int)::lps mode (f1.drop (i+1)) (i+1) (jn rt (nd d 0) (nd d 1)):=by rw [lps,if_pos hk,if_pos c]
    obtain⟨s2,h3⟩:=ih (i+1) s1 _ dp1 (ls++ [(i:Int)]) h1 (by omega) (by rw [List.length_append];simp only [List.length_singleton];omega)
    refine⟨s2,Rl.bind h2 (Rl.t (by simp [c]) (Rl.t (Nat.le_refl _) (Rl.t (by rw [e1];simp only [List.length_singleton];omega) ?_)))⟩
    rw [e1,List.take_length,ew,el]
    simp only [List.append_assoc,List.singleton_append] at h3
    rw [List.length_append] at h3
    exact h3
   ·have el:lps mode (d::f1.drop (i+1)) i rt=lps mode (f1.drop (i+1)) (i+1) (jn rt (nd d 0) (nd d 1)):=by rw [lps,if_pos hk,if_neg c]
    obtain⟨s2,h3⟩:=ih (i+1) s1 _ dp1 ls h1 (by omega) (by omega)
    refine⟨s2,Rl.bind h2 (Rl.f (by simp [c]) ?_)⟩
    rw [ew,el]
    exact h3
  have skip:¬LK mode d→∃s2,Rl (fun k q=>qbc k q mode n ls.length f1 f1.length (IntKind.i64.wrap ((i:Int)+1)) ss ls) ((ls++lps mode (d::f1.drop (i+1)) i rt).length,s2,ls++lps mode (d::f1.drop (i+1)) i rt):=by
   intro hk
   have el:lps mode (d::f1.drop (i+1)) i rt=lps mode (f1.drop (i+1)) (i+1) rt:=by rw [lps,if_neg hk]
   obtain⟨s2,h3⟩:=ih (i+1) ss _ dp ls h (by omega) (by omega)
   rw [ew,el]
   exact⟨s2,h3⟩
  by_cases c1:d.1=118
  ·obtain⟨s2,h3⟩:=body (.inl c1)
   refine⟨s2,up _ _ ?_⟩
   unfold qcd
   exact Rl.t (by first | omega | (simp only [decide_eq_true_eq,decide_eq_false_iff_not,Int.toNat_natCast,beq_iff_eq,bne_iff_ne,ne_eq,Int.not_lt,Int.not_le,ge_iff_le,gt_iff_lt,beq_eq_false_iff_ne,Nat.zero_add];omega)) (Rl.t (by first | omega | (simp only [decide_eq_true_eq,decide_eq_false_iff_not,Int.toNat_natCast,beq_iff_eq,bne_iff_ne,ne_eq,Int.not_lt,Int.not_le,ge_iff_le,gt_iff_lt,beq_eq_false_iff_ne,Nat.zero_add];omega)) (Rl.at (by rw [Int.toNat_natCast];exact eg) (Rl.f (by simp [c1]) (Rl.at g0 (Rl.at g1 h3)))))
  ·by_cases c2:d.1=108
   ·by_cases c3:mode=1
    ·obtain⟨s2,h3⟩:=body (.inr ⟨c2,c3⟩)
     refine⟨s2,up _ _ ?_⟩
     unfold qcd
     exact Rl.t (by first | omega | (simp only [decide_eq_true_eq,decide_eq_false_iff_not,Int.toNat_natCast,beq_iff_eq,bne_iff_ne,ne_eq,Int.not_lt,Int.not_le,ge_iff_le,gt_iff_lt,beq_eq_false_iff_ne,Nat.zero_add];omega)) (Rl.t (by first | omega | (simp only [decide_eq_true_eq,decide_eq_false_iff_not,Int.toNat_natCast,beq_iff_eq,bne_iff_ne,ne_eq,Int.not_lt,Int.not_le,ge_iff_le,gt_iff_lt,beq_eq_false_iff_ne,Nat.zero_add];omega)) (Rl.at (by rw [Int.toNat_natCast];exact eg) (Rl.t (by simp [c1]) (Rl.t (by simp [c2]) (Rl.t (by simp [c3]) (Rl.at g0 (Rl.at g1 h3)))))))
    ·obtain⟨s2,h3⟩:=skip (fun h=>h.elim c1 (fun h=>c3 h.2))
     refine⟨s2,up _ _ ?_⟩
     unfold qcd
     exact Rl.t (by first | omega | (simp only [decide_eq_true_eq,decide_eq_false_iff_not,Int.toNat_natCast,beq_iff_eq,bne_iff_ne,ne_eq,Int.not_lt,Int.not_le,ge_iff_le,gt_iff_lt,beq_eq_false_iff_ne,Nat.zero_add];omega)) (Rl.t (by first | omega | (simp only [decide_eq_true_eq,decide_eq_false_iff_not,Int.toNat_natCast,beq_iff_eq,bne_iff_ne,ne_eq,Int.not_lt,Int.not_le,ge_iff_le,gt_iff_lt,beq_eq_false_iff_ne,Nat.zero_add];omega)) (Rl.at (by rw [Int.toNat_natCast];exact eg) (Rl.t (by simp [c1]) (Rl.t (by simp [c2]) (Rl.f (by simp [c3]) h3)))))
   ·obtain⟨s2,h3⟩:=skip (fun h=>h.elim c1 (fun h=>c2 h.1))
    refine⟨s2,up _ _ ?_⟩
    unfold qcd
    exact Rl.t (by first | omega | (simp only [decide_eq_true_eq,decide_eq_false_iff_not,Int.toNat_natCast,beq_iff_eq,bne_iff_ne,ne_eq,Int.not_lt,Int.not_le,ge_iff_le,gt_iff_lt,beq_eq_false_iff_ne,Nat.zero_add];omega)) (Rl.t (by first | omega | (simp only [decide_eq_true_eq,decide_eq_false_iff_not,Int.toNat_natCast,beq_iff_eq,bne_iff_ne,ne_eq,Int.not_lt,Int.not_le,ge_iff_le,gt_iff_lt,beq_eq_false_iff_ne,Nat.zero_add];omega)) (Rl.at (by rw [Int.toNat_natCast];exact eg) (Rl.t (by simp [c1]) (Rl.f (by simp [c2]) h3))))
def Ref (A B:Nat→Nat):Prop:=∀x y,A x=A y→B x=B y
theorem Ref.jn {A B:Nat→Nat} (h:Ref A B) (a b:Nat):Ref (Am.jn A a b) (Am.jn B a b):=by
 intro x y e
 unfold Am.jn at e ⊢
 by_cases c1:A x=A a
 ·have d1:=h _ _ c1
  rw [if_pos c1] at e
  rw [if_pos d1]
  by_cases c2:A y=A a
  ·rw [if_pos (h _ _ c2)]
  ·rw [if_neg c2] at e
   have d2:=h _ _ e
   split<;>simp_all
 ·rw [if_neg c1] at e
  by_cases c2:A y=A a
  ·rw [if_pos c2] at e
   have d2:=h _ _ c2
   have d3:=h _ _ e
   rw [if_pos d2]
   split<;>simp_all
  ·rw [if_neg c2] at e
   rw [h _ _ e]
theorem Ref.jn1 {A B:Nat→Nat} (h:Ref A B) (a b:Nat):Ref A (Am.jn B a b):=by
 intro x y e
 unfold Am.jn
 rw [h _ _ e]
theorem Ref.tie {A B:Nat→Nat} (h:Ref A B) {s t:ByteArray} (d:Dv) (hs:0≤qci s d.1→0≤qci t d.1):Ref (Am.tie s A d) (Am.tie t B d):=by
 have key:Ref (if 0≤qci s d.1 then Am.jn A (nd d 0) (nd d 1)else A) (if 0≤qci t d.1 then Am.jn B (nd d 0) (nd d 1)else B):=by
  by_cases c1:0≤qci s d.1
  ·rw [if_pos c1,if_pos (hs c1)];exact h.jn _ _
  ·rw [if_neg c1]
   split
   ·exact h.jn1 _ _
   ·exact h
 unfold Am.tie
 split
 ·exact key.jn _ _
 ·exact key
theorem Ref.ties {s t:ByteArray} (hs:∀c,0≤qci s c→0≤qci t c):∀(l:List Dv) (A B:Nat→Nat),Ref A B→Ref (l.foldl (Am.tie s) A) (l.foldl (Am.tie t) B)
 | [],_,_,h=>h
 | d::l,A,B,h=>Ref.ties hs l _ _ (h.tie d (hs _))
def J (rt:Nat→Nat) (p:Nat×Nat):Nat→Nat:=jn rt p.1 p.2
theorem Ref.rfl' (A:Nat→Nat):Ref A A:=fun _ _ e=>e
theorem Ref.trans' {A B C:Nat→Nat} (h:Ref A B) (k:Ref B C):Ref A C:=fun x y e=>k x y (h x y e)
theorem qsV (A B C D X Y:Nat)
  (e:(if(if X=A then B else X)=(if C=A then B else C)then(if D=A then B else D)else(if X=A then B else X))=(if(if Y=A then B else Y)=(if C=A then B else C)then(if D=A then B else D)else(if Y=A then B else Y))):
  (if(if X=C then D else X)=(if A=C then D else A)then(if B=C then D else B)else(if X=C then D else X))=(if(if Y=C then D else Y)=(if A=C then D else A)then(if B=C then D else B)else(if Y=C then D else Y)):=by
 grind
theorem Ref.swap (rt:Nat→Nat) (p q:Nat×Nat):Ref (J (J rt p) q) (J (J rt q) p):=by
 intro x y e
 unfold Am.J Am.jn at e ⊢
 exact qsV _ _ _ _ _ _ e
theorem Ref.J {A B:Nat→Nat} (h:Ref A B) (p:Nat×Nat):Ref (Am.J A p) (Am.J B p):=h.jn _ _
theorem Ref.folds:∀(l:List (Nat×Nat)) {A B:Nat→Nat},Ref A B→Ref (l.foldl Am.J A) (l.foldl Am.J B)
 | [],_,_,h=>h
 | p::l,_,_,h=>Ref.folds l (h.J p)
theorem Ref.perm {l m:List (Nat×Nat)} (hp:l.Perm m):∀ {A B:Nat→Nat},Ref A B→Ref (l.foldl Am.J A) (m.foldl Am.J B):=by
 induction hp with
 | nil=>exact fun h=>h
 | cons p _ ih=>exact fun h=>ih (h.J p)
 | swap p q l=>exact fun h=>Ref.folds l (((h.J q).J p).trans' (Ref.swap _ _ _))
 | trans _ _ ih1 ih2=>exact fun h=>(ih1 h).trans' (ih2 (Ref.rfl' _))
def qfU:List (Nat×Nat)→(Nat→Nat)→Nat
 | [],_=>0
 | p::l,rt=>(if rt p.1=rt p.2 then 1 else 0)+qfU l (J rt p)
theorem qh4:∀(l:List (Nat×Nat)) {A B:Nat→Nat},Ref A B→Ref B A→qfU l A=qfU l B
 | [],_,_,_,_=>rfl
 | p::l,A,B,h,k=>by
  rw [qfU,qfU,qh4 l (h.J p) (k.J p)]
  by_cases c:A p.1=A p.2
  ·rw [if_pos c,if_pos (h _ _ c)]
  ·rw [if_neg c,if_neg fun e=>c (k _ _ e)]
theorem qsW (A B C D:Nat):(if A=B then 1 else 0)+(if(if C=A then B else C)=(if D=A then B else D)then 1 else 0)=(if C=D then 1 else 0)+(if(if A=C then D else A)=(if B=C then D else B)then 1 else(0:Nat)):=by
 grind
theorem qpM {l m:List (Nat×Nat)} (hp:l.Perm m):∀ {A B:Nat→Nat},Ref A B→Ref B A→qfU l A=qfU m B:=by
 induction hp with
 | nil=>exact fun _ _=>rfl
 | cons p _ ih=>
  intro A B h k
  rw [qfU,qfU,ih (h.J p) (k.J p)]
  by_cases c:A p.1=A p.2
  ·rw [if_pos c,if_pos (h _ _ c)]
  ·rw [if_neg c,if_neg fun e=>c (k _ _ e)]
 | swap p q l=>
  intro A B h k
  rw [qh4 (q::p::l) h k]
  simp only [qfU]
  rw [qh4 l (Ref.swap B q p) (Ref.swap B p q),←Nat.add_assoc,←Nat.add_assoc]
  congr 1
  unfold J jn
  exact qsW _ _ _ _
 | trans _ _ ih1 ih2=>exact fun h k=>(ih1 h k).trans (ih2 (Ref.rfl' _) (Ref.rfl' _))
def edg (first:ByteArray) (d:Dv):List (Nat×Nat):=(if 0≤qci first d.1 then [(nd d 0,nd d 1)] else [])++(if 0≤qci qi6 d.1 then [(nd d 2,nd d 3)] else [])
theorem quW (first:ByteArray) (rt:Nat→Nat) (d:Dv):tie first rt d=(edg first d).foldl J rt:=by
 unfold tie edg
 by_cases c1:0≤qci first d.1<;>by_cases c2:0≤qci qi6 d.1<;>simp [c1,c2,J]
theorem qiJ (first:ByteArray):∀(l:List Dv) (rt:Nat→Nat),l.foldl (tie first) rt=(l.flatMap (edg first)).foldl J rt
 | [],_=>rfl
 | d::l,rt=>by rw [List.foldl_cons,qiJ first l,List.flatMap_cons,List.foldl_append,quW]
def lkE (mode:Int) (d:Dv):List (Nat×Nat):=if LK mode d then [(nd d 0,nd d 1)] else []
theorem qi7 (mode:Int):∀(l:List Dv) (i:Nat) (rt:Nat→Nat),(lps mode l i rt).length=qfU (l.flatMap (lkE mode)) rt
 | [],_,_=>rfl
 | d::l,i,rt=>by
  have ih:=fun rt=>qi7 mode l (i+1) rt
  rw [lps,List.flatMap_cons]
  by_cases c:LK mode d
  ·rw [if_pos c,lkE,if_pos c,List.singleton_append,qfU]
   split
   ·rename_i h
    rw [List.length_cons,ih,Nat.add_comm];rfl
   ·rename_i h
    rw [ih,Nat.zero_add];rfl
  ·rw [if_neg c,lkE,if_neg c,ih];rfl
theorem qlt {A B:Nat→Nat} (h:Ref A B) (k:Ref B A):∀n,flo A n=flo B n
 | 0=>rfl
 | n+1=>by
  rw [flo,flo,qlt h k n]
  by_cases c:A n=A 0
  ·rw [if_pos c,if_pos (h _ _ c)]
  ·rw [if_neg c,if_neg fun e=>c (k _ _ e)]
def qgZ (l m:List Dv):Prop:=(l.map fun d=>(d.1,d.2.2.1)).Perm (m.map fun d=>(d.1,d.2.2.1))
theorem qgZ.flat {l m:List Dv} (h:qgZ l m) {β:Type} (f:Dv→List β) (g:Int×List Int→List β) (hg:∀d,f d=g (d.1,d.2.2.1)):(l.flatMap f).Perm (m.flatMap f):=by
 have e:∀l:List Dv,l.flatMap f=(l.map fun d=>(d.1,d.2.2.1)).flatMap g:=fun l=>by
  rw [List.flatMap_map]
  congr 1
  funext d
  exact hg d
 rw [e,e]
 exact h.flatMap_right _
theorem qgZ.symm {l m:List Dv} (h:qgZ l m):qgZ m l:=List.Perm.symm h
theorem qgZ.flo {l m:List Dv} (h:qgZ l m) (first:ByteArray) (n:Nat):Am.flo (l.foldl (tie first) id) n=Am.flo (m.foldl (tie first) id) n:=by
 have key:∀ {l m:List Dv},qgZ l m→Ref (l.foldl (tie first) id) (m.foldl (tie first) id):=by
  intro l m h
  rw [qiJ,qiJ]
  refine Ref.perm (h.flat (edg first) (fun p=>(if 0≤qci first p.1 then [((p.2.getD 0 0).toNat,(p.2.getD 1 0).toNat)] else [])++(if 0≤qci qi6 p.1 then [((p.2.getD 2 0).toNat,(p.2.getD 3 0).toNat)] else [])) (fun d=>rfl)) (Ref.rfl' _)
 exact qlt (key h) (key h.symm) n
theorem qgZ.lps {l m:List Dv} (h:qgZ l m) (mode:Int):(Am.lps mode l 0 id).length=(Am.lps mode m 0 id).length:=by
 rw [qi7,qi7]
 refine qpM (h.flat (lkE mode) (fun p=>if p.1=118∨p.1=108∧mode=1 then [((p.2.getD 0 0).toNat,(p.2.getD 1 0).toNat)] else []) (fun d=> ?_)) (Ref.rfl' _) (Ref.rfl' _)
 unfold lkE LK nd
 rfl
def stB (m:Nat→Bool) (p:Nat×Nat):Nat→Bool:=fun v=>m v || ((m p.1 || m p.2) && (v == p.1 || v == p.2))
def qeS (ts:List (Nat×Nat)) (m:Nat→Bool):Nat→Bool:=ts.foldl stB m
def qb6 (ts:List (Nat×Nat)):Nat→(Nat→Bool)→Nat→Bool
 | 0,m=>m
 | r+1,m=>qeS ts (qb6 ts r m)
def qhe (m:Nat→Bool):Nat→Nat
 | 0=>0
 | n+1=>qhe m n+(if m n then 1 else 0)
theorem qrd {m:Nat→Bool} (p:Nat×Nat) {v:Nat} (h:m v=true):stB m p v=true:=by simp [stB,h]
theorem qid:∀(ts:List (Nat×Nat)) {m:Nat→Bool} {v:Nat},m v=true→qeS ts m v=true
 | [],_,_,h=>h
 | p::ts,_,_,h=>qid ts (qrd p h)
theorem qoC (m:Nat→Bool):∀n,qhe m n≤n
 | 0=>Nat.le_refl _
 | n+1=>by have:=qoC m n;rw [qhe];split<;>omega
theorem qlu {m m':Nat→Bool} (h:∀v,m v=true→m' v=true):∀n,qhe m n≤qhe m' n∧(∀v,v<n→m v=false→m' v=true→qhe m n<qhe m' n)
 | 0=>⟨Nat.le_refl _,fun v hv=>absurd hv (by omega)⟩
 | n+1=>by
  obtain⟨h1,h2⟩:=qlu h n
  rw [qhe,qhe]
  constructor
  ·by_cases c:m n=true
   ·rw [if_pos c,if_pos (h n c)];omega
   ·rw [if_neg c];split<;>omega
  ·intro v hv a b
   by_cases e:v=n
   ·subst e
    rw [if_neg (by simp [a]),if_pos b]
    omega
   ·have:=h2 v (by omega) a b
    by_cases c:m n=true
    ·rw [if_pos c,if_pos (h n c)];omega
    ·rw [if_neg c];split<;>omega
theorem qnh {m:Nat→Bool} {v:Nat} (h:m v=true):∀n,v<n→1≤qhe m n
 | 0,hv=>absurd hv (by omega)
 | n+1,hv=>by
  rw [qhe]
  by_cases e:v=n
  ·subst e;rw [if_pos h];omega
  ·have:=qnh h n (by omega);omega
def InB (n:Nat) (m:Nat→Bool):Prop:=∀v,m v=true→v<n
theorem InB.pas {n:Nat}:∀(ts:List (Nat×Nat)) {m:Nat→Bool},(∀p∈ts,p.1<n∧p.2<n)→InB n m→InB n (qeS ts m)
 | [],_,_,h=>h
 | p::ts,m,ht,h=>by
  refine InB.pas ts (m:=stB m p) (fun q hq=>ht q (List.mem_cons_of_mem _ hq)) fun v hv=> ?_
  have:=ht p (List.mem_cons_self ..)
  simp only [stB,Bool.or_eq_true,Bool.and_eq_true,beq_iff_eq] at hv
  rcases hv with hv | ⟨_,rfl | rfl⟩
  ·exact h v hv
  ·exact this.1
  ·exact this.2
theorem InB.rnd {n:Nat} (ts:List (Nat×Nat)) {m:Nat→Bool} (ht:∀p∈ts,p.1<n∧p.2<n) (h:InB n m):∀r,InB n (qb6 ts r m)
 | 0=>h
 | r+1=>InB.pas ts ht (InB.rnd ts ht h r)
theorem qni (ts:List (Nat×Nat)) {m:Nat→Bool} {v:Nat} (h:m v=true):∀r,qb6 ts r m v=true
 | 0=>h
 | r+1=>qid ts (qni ts h r)
theorem qnj {n at1:Nat} (ts:List (Nat×Nat)) {m:Nat→Bool} (ht:∀p∈ts,p.1<n∧p.2<n) (h:InB n m) (hm:m at1=true):∀r,qeS ts (qb6 ts r m)=qb6 ts r m∨r+1≤qhe (qb6 ts r m) n
 | 0=> .inr (qnh hm n (h at1 hm))
 | r+1=>by
  have ih:=qnj ts ht h hm r
  rw [qb6]
  rcases ih with e | ih
  ·left;rw [e,e]
  ·by_cases e:qeS ts (qb6 ts r m)=qb6 ts r m
   ·left;rw [e,e]
   ·right
    obtain⟨v,hv⟩:∃v,qeS ts (qb6 ts r m) v≠qb6 ts r m v:=Classical.not_forall.1 fun q=>e (funext q)
    have hf:qb6 ts r m v=false:=by
     cases c:qb6 ts r m v with
     | false=>rfl
     | true=>rw [c,qid ts c] at hv;exact absurd rfl hv
    have hp:qeS ts (qb6 ts r m) v=true:=by
     cases c:qeS ts (qb6 ts r m) v with
     | true=>rfl
     | false=>rw [c,hf] at hv;exact absurd rfl hv
    have:=(qlu (m:=qb6 ts r m) (m':=qeS ts (qb6 ts r m)) (fun v=>qid ts) n).2 v (InB.pas ts ht (InB.rnd ts ht h r) v hp) hf hp
    omega
theorem qsX {n at1:Nat} (ts:List (Nat×Nat)) {m:Nat→Bool} (ht:∀p∈ts,p.1<n∧p.2<n) (h:InB n m) (hm:m at1=true):qeS ts (qb6 ts n m)=qb6 ts n m:=by
 rcases qnj ts ht h hm n with e | e
 ·exact e
 ·have:=qoC (qb6 ts n m) n;omega
theorem qoD:∀(ts:List (Nat×Nat)) {m:Nat→Bool},qeS ts m=m→∀p∈ts,m p.1=m p.2
 | [],_,_,p,hp=>by cases hp
 | q::ts,m,e,p,hp=>by
  have hs:stB m q=m:=by
   funext v
   cases c:stB m q v with
   | false=>
    cases d:m v with
    | false=>rfl
    | true=>rw [qrd q d] at c;cases c
   | true=>
    have:qeS (q::ts) m v=true:=qid ts c
    rw [e] at this
    exact this.symm
  have e2:qeS ts m=m:=by
   have:qeS (q::ts) m=qeS ts (stB m q):=rfl
   rw [hs] at this
   rw [←this,e]
  rcases List.mem_cons.1 hp with rfl | hp
  ·have h1:=congrFun hs p.1
   have h2:=congrFun hs p.2
   simp only [stB,beq_self_eq_true,Bool.true_or,Bool.or_true,Bool.and_true] at h1 h2
   cases a:m p.1<;>cases b:m p.2<;>simp [a,b] at h1 h2 ⊢
  ·exact qoD ts e2 p hp
theorem Ref.under {A B:Nat→Nat} (h:Ref A B) {a b:Nat} (e:B a=B b):Ref (Am.jn A a b) B:=by
 intro x y
 unfold Am.jn
 split
 ·rename_i c1
  have d1:=h _ _ c1
  split
  ·rename_i c2
   have d2:=h _ _ c2
   intro _;rw [d1,d2]
  ·intro q
   rw [d1,e]
   exact h _ _ q
 ·split
  ·rename_i c2
   have d2:=h _ _ c2
   intro q
   rw [d2,e]
   exact h _ _ q
  ·exact fun q=>h _ _ q
theorem Ref.unders {B:Nat→Nat}:∀(ts:List (Nat×Nat)) {A:Nat→Nat},Ref A B→(∀p∈ts,B p.1=B p.2)→Ref (ts.foldl Am.J A) B
 | [],_,h,_=>h
 | p::ts,_,h,ht=>Ref.unders ts (h.under (ht p (List.mem_cons_self ..))) fun q hq=>ht q (List.mem_cons_of_mem _ hq)
theorem qlv:∀(ts:List (Nat×Nat)) (A:Nat→Nat),Ref A (ts.foldl Am.J A)
 | [],A=>Ref.rfl' A
 | p::ts,A=>Ref.trans' ((Ref.rfl' A).jn1 p.1 p.2) (qlv ts _)
theorem qlw:∀(ts:List (Nat×Nat)) (A:Nat→Nat),∀p∈ts,ts.foldl Am.J A p.1=ts.foldl Am.J A p.2
 | [],_,_,hp=>by cases hp
 | q::ts,A,p,hp=>by
  rcases List.mem_cons.1 hp with rfl | hp
  ·refine qlv ts (Am.J A p) _ _ ?_
   show Am.jn A p.1 p.2 p.1=Am.jn A p.1 p.2 p.2
   unfold Am.jn
   rw [if_pos rfl]
   split<;>rfl
  ·exact qlw ts _ p hp
theorem qlx {rt:Nat→Nat} {x:Nat}:∀(ts:List (Nat×Nat)) {m:Nat→Bool},(∀p∈ts,rt p.1=rt p.2)→(∀v,m v=true→rt v=x)→∀v,qeS ts m v=true→rt v=x
 | [],_,_,h=>h
 | p::ts,m,ht,h=>by
  refine qlx ts (m:=stB m p) (fun q hq=>ht q (List.mem_cons_of_mem _ hq)) fun v hv=> ?_
  have e:=ht p (List.mem_cons_self ..)
  simp only [stB,Bool.or_eq_true,Bool.and_eq_true,beq_iff_eq] at hv
  rcases hv with hv | ⟨h1 | h1,rfl | rfl⟩
  ·exact h v hv
  ·exact h _ h1
  ·rw [←e];exact h _ h1
  ·rw [e];exact h _ h1
  ·exact h _ h1
theorem qly {rt:Nat→Nat} {x:Nat} (ts:List (Nat×Nat)) {m:Nat→Bool} (ht:∀p∈ts,rt p.1=rt p.2) (h:∀v,m v=true→rt v=x):∀r v,qb6 ts r m v=true→rt v=x
 | 0=>h
 | r+1=>qlx ts ht (qly ts ht h r)
theorem qre {n at1:Nat} (ts:List (Nat×Nat)) (ht:∀p∈ts,p.1<n∧p.2<n) (ha:at1<n) (v:Nat):
  qb6 ts n (fun v=>v == at1) v=decide (ts.foldl Am.J id v=ts.foldl Am.J id at1):=by
 have hin:InB n (fun v=>v == at1):=fun v hv=>by rw [beq_iff_eq] at hv;omega
 have hat:(fun v=>v == at1) at1=true:=beq_self_eq_true at1
 have hsh:=qoD ts (qsX ts ht hin hat)
 rw [Bool.eq_iff_iff,decide_eq_true_eq]
 constructor
 ·exact qly ts (qlw ts id) (fun v hv=>by rw [beq_iff_eq] at hv;rw [hv]) n v
 ·intro e
  have hr:Ref (ts.foldl Am.J id) (fun v=>if qb6 ts n (fun v=>v == at1) v=true then 1 else 0):=
   Ref.unders ts (A:=id) (fun x y q=>by rw [show x=y from q]) fun p hp=>by simp only [hsh p hp]
  have h1:=hr v at1 e
  have h2:qb6 ts n (fun v=>v == at1) at1=true:=qni ts (m:=fun v=>v == at1) (v:=at1) hat n
  simp only [] at h1
  rw [if_pos h2] at h1
  split at h1
  ·assumption
  ·omega

abbrev W:Int:=4294967296
theorem qBg (i:Nat):(0:Int)<W^i:=Int.pow_pos (by decide)
theorem qrf (k:Nat) (w:List Int) (hl:w.length≤140737488355328):∀(i n:Nat),i≤w.length→i<n→qfJ k n w i=some (w,((tl (w.take i)).length:Int)):=by
 intro i
 induction i with
 | zero=>
  intro n hi hn
  obtain⟨n,rfl⟩:∃m,n=m+1:=⟨n-1,by omega⟩
  show qe0 k (qfJ k n) w _=_
  unfold qe0
  simp -implicitDefEqProofs (maxSteps:=2000000) (disch:=omega) only [ps,↓reduceIte,reduceCtorEq,Int.reduceLT,Int.reduceLE,Int.reduceEq,Nat.reduceLT,Nat.reduceLeDiff,Nat.reduceEqDiff,Int.reduceNeg,qc]
  rfl
 | succ i ih=>
  intro n hi hn
  obtain⟨n,rfl⟩:∃m,n=m+1:=⟨n-1,by omega⟩
  show qe0 k (qfJ k n) w _=_
  unfold qe0
  obtain⟨x,hx⟩:=qH (show i<w.length by omega)
  have h1:(((i+1:Nat):Int)-1)=(i:Int):=by omega
  have ht:w.take (i+1)=w.take i++ [x]:=by rw [List.take_add_one,hx];rfl
  simp -implicitDefEqProofs (maxSteps:=2000000) (disch:=omega) only [ps,↓reduceIte,reduceCtorEq,Int.reduceLT,Int.reduceLE,Int.reduceEq,Nat.reduceLT,Nat.reduceLeDiff,Nat.reduceEqDiff,Int.reduceNeg,qc,h1,hx]
  by_cases h:x=0
  ·simp -implicitDefEqProofs (maxSteps:=2000000) (disch:=omega) only [ps,↓reduceIte,reduceCtorEq,Int.reduceLT,Int.reduceLE,Int.reduceEq,Nat.reduceLT,Nat.reduceLeDiff,Nat.reduceEqDiff,Int.reduceNeg,qc,h]
   rw [ih n (by omega) (by omega),ht,qh8,if_pos h]
  ·simp -implicitDefEqProofs (maxSteps:=2000000) (disch:=omega) only [ps,↓reduceIte,reduceCtorEq,Int.reduceLT,Int.reduceLE,Int.reduceEq,Nat.reduceLT,Nat.reduceLeDiff,Nat.reduceEqDiff,Int.reduceNeg,qc,h]
   rw [ht,qh8,if_neg h]
   simp
   omega
theorem qie (w:List Int) (hl:w.length≤140737488355328):Rn (fun k=>qdJ k w) (tl w):=by
 refine Rn.eq (w.length+2) fun k hk=> ?_
 obtain⟨k,rfl⟩:∃m,k=m+1:=⟨k-1,by omega⟩
 show qi2 k w=_
 unfold qi2
 have:=qcx w
 rw [qrf k w hl w.length k (Nat.le_refl _) (by omega)]
 simp -implicitDefEqProofs (maxSteps:=2000000) (disch:=omega) only [ps,↓reduceIte,reduceCtorEq,Int.reduceLT,Int.reduceLE,Int.reduceEq,Nat.reduceLT,Nat.reduceLeDiff,Nat.reduceEqDiff,Int.reduceNeg,qc,List.take_length,qgK]

theorem qsY (k:Nat) (a b:List Int) (hl:a.length=b.length) (hla:a.length≤140737488355328) (ha:Dg W a) (hb:Dg W b):∀(i n:Nat),i≤a.length→i<n→V W (a.drop i)=V W (b.drop i)→
  ∃r,qek k n a b ((i:Int)-1)=some r∧(match r with | .inl c=>c | .inr _=>0)=(if V W a<V W b then -1 else if V W a=V W b then 0 else 1):=by
 intro i
 induction i with
 | zero=>
  intro n hi hn e
  obtain⟨n,rfl⟩:∃m,n=m+1:=⟨n-1,by omega⟩
  refine⟨.inr (),?_,?_⟩
  ·show qcN k (qek k n) a b _=_
   unfold qcN
   simp -implicitDefEqProofs (maxSteps:=2000000) (disch:=omega) only [ps,↓reduceIte,reduceCtorEq,Int.reduceLT,Int.reduceLE,Int.reduceEq,Nat.reduceLT,Nat.reduceLeDiff,Nat.reduceEqDiff,Int.reduceNeg,qc]
  ·simp only [List.drop_zero] at e
   simp [e]
 | succ i ih=>
  intro n hi hn e
  obtain⟨n,rfl⟩:∃m,n=m+1:=⟨n-1,by omega⟩
  obtain⟨x,hx⟩:=qH (show i<a.length by omega)
  obtain⟨y,hy⟩:=qH (show i<b.length by omega)
  have h1:(((i+1:Nat):Int)-1)=(i:Int):=by omega
  have hxb:=ha.get hx
  have hyb:=hb.get hy
  have sa:=qfe (B:=W) a i (by omega)
  have sb:=qfe (B:=W) b i (by omega)
  have la:V W (a.take i)<W^i:=by have:=qeL (B:=W) (by decide) (ha.take i);rwa [List.length_take,Nat.min_eq_left (by omega)] at this
  have lb:V W (b.take i)<W^i:=by have:=qeL (B:=W) (by decide) (hb.take i);rwa [List.length_take,Nat.min_eq_left (by omega)] at this
  have na:=qr (B:=W) (by decide) (ha.take i)
  have nb:=qr (B:=W) (by decide) (hb.take i)
  rw [qb8 hx,e] at sa
  rw [qb8 hy] at sb
  by_cases h:x=y
  ·subst h
   obtain⟨r,h2,h3⟩:=ih n (by omega) (by omega) (by rw [qb8 hx,qb8 hy,e])
   refine⟨r,?_,h3⟩
   show qcN k (qek k n) a b _=_
   unfold qcN
   simp -implicitDefEqProofs (maxSteps:=2000000) (disch:=omega) only [ps,↓reduceIte,reduceCtorEq,Int.reduceLT,Int.reduceLE,Int.reduceEq,Nat.reduceLT,Nat.reduceLeDiff,Nat.reduceEqDiff,Int.reduceNeg,qc,h1,hx,hy,h2]
  ·have hP:=qBg i
   by_cases h2:x<y
   ·have hlt:V W a<V W b:=by
     have:W^i*(x+1)≤W^i*y:=Int.mul_le_mul_of_nonneg_left (by omega) (by omega)
     rw [sa,sb]
     grind
    refine⟨.inl (-1),?_,by rw [if_pos hlt]⟩
    show qcN k (qek k n) a b _=_
    unfold qcN
    simp -implicitDefEqProofs (maxSteps:=2000000) (disch:=omega) only [ps,↓reduceIte,reduceCtorEq,Int.reduceLT,Int.reduceLE,Int.reduceEq,Nat.reduceLT,Nat.reduceLeDiff,Nat.reduceEqDiff,Int.reduceNeg,qc,h1,hx,hy,h,h2]
   ·have hlt:V W b<V W a:=by
     have:W^i*(y+1)≤W^i*x:=Int.mul_le_mul_of_nonneg_left (by omega) (by omega)
     rw [sa,sb]
     grind
    refine⟨.inl 1,?_,by rw [if_neg (by omega),if_neg (by omega)]⟩
    show qcN k (qek k n) a b _=_
    unfold qcN
    simp -implicitDefEqProofs (maxSteps:=2000000) (disch:=omega) only [ps,↓reduceIte,reduceCtorEq,Int.reduceLT,Int.reduceLE,Int.reduceEq,Nat.reduceLT,Nat.reduceLeDiff,Nat.reduceEqDiff,Int.reduceNeg,qc,h1,hx,hy,h,h2]
theorem qrg (a b:List Int) (hla:a.length≤140737488355328) (hlb:b.length≤140737488355328) (ha:Cn W a) (hb:Cn W b):Rn (fun k=>qiF k a b) (if V W a<V W b then -1 else if V W a=V W b then 0 else 1):=by
 refine Rn.eq (a.length+2) fun k hk=> ?_
 obtain⟨k,rfl⟩:∃m,k=m+1:=⟨k-1,by omega⟩
 show qj1 k a b=_
 unfold qj1
 by_cases h:a.length=b.length
 ·obtain⟨r,h1,h2⟩:=qsY k a b h hla ha.1 hb.1 a.length k (Nat.le_refl _) (by omega) (by rw [List.drop_length,h,List.drop_length])
  simp -implicitDefEqProofs (maxSteps:=2000000) (disch:=omega) only [ps,↓reduceIte,reduceCtorEq,Int.reduceLT,Int.reduceLE,Int.reduceEq,Nat.reduceLT,Nat.reduceLeDiff,Nat.reduceEqDiff,Int.reduceNeg,qc,h1]
  rw [←h2]
  cases r<;>simp [qc]
 ·by_cases h2:a.length<b.length
  ·have:=Cn.len_lt (by decide) ha hb h2
   simp -implicitDefEqProofs (maxSteps:=2000000) (disch:=omega) only [ps,↓reduceIte,reduceCtorEq,Int.reduceLT,Int.reduceLE,Int.reduceEq,Nat.reduceLT,Nat.reduceLeDiff,Nat.reduceEqDiff,Int.reduceNeg,qc,h,h2]
  ·have:=Cn.len_lt (by decide) hb ha (by omega)
   simp -implicitDefEqProofs (maxSteps:=2000000) (disch:=omega) only [ps,↓reduceIte,reduceCtorEq,Int.reduceLT,Int.reduceLE,Int.reduceEq,Nat.reduceLT,Nat.reduceLeDiff,Nat.reduceEqDiff,Int.reduceNeg,qc,h,h2]


theorem Dg.ext:∀ {l m:List Int},Dg W l→Dg W m→l.length=m.length→V W l=V W m→l=m:=by
 intro l
 induction l with
 | nil=>intro m _ _ hl _;cases m with
  | nil=>rfl
  | cons y m=>simp at hl
 | cons x l ih=>
  intro m d1 d2 hl e
  cases m with
  | nil=>simp at hl
  | cons y m=>
   have hx:=d1.head
   have hy:=d2.head
   simp only [V] at e
   have a1:(x+W*V W l) % W=x:=by rw [Int.add_mul_emod_self_left];exact Int.emod_eq_of_lt hx.1 hx.2
   have a2:(y+W*V W m) % W=y:=by rw [Int.add_mul_emod_self_left];exact Int.emod_eq_of_lt hy.1 hy.2
   have e1:x=y:=by rw [←a1,←a2,e]
   subst e1
   have e2:W*V W l=W*V W m:=by omega
   have e3:V W l=V W m:=Int.eq_of_mul_eq_mul_left (by decide) e2
   rw [ih d1.tail d2.tail (by simpa using hl) e3]

def sgn (neg:Bool) (w:List Int):Bool:=if neg then decide (0<(tl w).length)else false
theorem qkM {neg:Bool} {w:List Int} {v:Int} (h:Dg W w) (e:V W w=v):Nm W (sgn neg w) (tl w) (if neg then -v else v):=by
 refine⟨Cn.of h,fun hs h0=> ?_,?_⟩
 ·unfold sgn at hs;split at hs
  ·rw [h0] at hs;simp at hs
  ·cases hs
 ·rw [qha,e]
  unfold sgn
  cases neg
  ·simp
  ·by_cases h0:tl w= []
   ·have:=qha (B:=W) w
    rw [h0,e] at this
    simp [h0,←this,V]
   ·have:0<(tl w).length:=by cases hq:tl w with
     | nil=>exact absurd hq h0
     | cons _ _=>simp
    simp [this]
theorem qjy (neg z:Bool) (w:List Int) (hl:w.length≤1000000001):Rn (fun k=>qbw k neg w z) (sgn neg w,tl w):=by
 refine Rn.up (f:=fun k=>qbw k neg w z) ?_
 show Rn (fun k=>qfW k neg w z) _
 unfold qfW
 refine Rn.bind (qie w (by omega)) ?_
 unfold sgn
 cases neg
 ·simp -implicitDefEqProofs (maxSteps:=2000000) (disch:=omega) only [ps,↓reduceIte,reduceCtorEq,Int.reduceLT,Int.reduceLE,Int.reduceEq,Nat.reduceLT,Nat.reduceLeDiff,Nat.reduceEqDiff,Int.reduceNeg,qc];exact Rn.pure _
 ·simp -implicitDefEqProofs (maxSteps:=2000000) (disch:=omega) only [ps,↓reduceIte,reduceCtorEq,Int.reduceLT,Int.reduceLE,Int.reduceEq,Nat.reduceLT,Nat.reduceLeDiff,Nat.reduceEqDiff,Int.reduceNeg,qc]
  have:(decide ((0:Int)<((tl w).length:Int)))=decide (0<(tl w).length):=by congr 1;simp
  rw [this];exact Rn.pure _
theorem quX (neg z:Bool) (w zs:List Int) (hl:w.length≤1000000001):Rn (fun k=>qei k neg w z zs) (sgn neg w,tl w):=by
 refine Rn.up (f:=fun k=>qei k neg w z zs) ?_
 show Rn (fun k=>qfX k neg w z zs) _
 unfold qfX
 refine Rn.bind (qie w (by omega)) ?_
 unfold sgn
 cases neg
 ·simp -implicitDefEqProofs (maxSteps:=2000000) (disch:=omega) only [ps,↓reduceIte,reduceCtorEq,Int.reduceLT,Int.reduceLE,Int.reduceEq,Nat.reduceLT,Nat.reduceLeDiff,Nat.reduceEqDiff,Int.reduceNeg,qc];exact Rn.pure _
 ·simp -implicitDefEqProofs (maxSteps:=2000000) (disch:=omega) only [ps,↓reduceIte,reduceCtorEq,Int.reduceLT,Int.reduceLE,Int.reduceEq,Nat.reduceLT,Nat.reduceLeDiff,Nat.reduceEqDiff,Int.reduceNeg,qc]
  have:(decide ((0:Int)<((tl w).length:Int)))=decide (0<(tl w).length):=by congr 1;simp
  rw [this];exact Rn.pure _


def qe9 (x y:Int):Int:=if x<y then -1 else if x=y then 0 else 1
theorem qfl (x y:Int):∃c,qe9 x y=c∧(c= -1∧x<y∨c=0∧x=y∨c=1∧y<x):=by
 unfold qe9
 rcases Int.lt_trichotomy x y with h | h | h
 ·exact⟨-1,by rw [if_pos h],.inl ⟨rfl,h⟩⟩
 ·exact⟨0,by rw [if_neg (by omega),if_pos h],.inr (.inl ⟨rfl,h⟩)⟩
 ·exact⟨1,by rw [if_neg (by omega),if_neg (by omega)],.inr (.inr ⟨rfl,h⟩)⟩
theorem qyP (x0 y0:Bool) (x1 y1:List Int) {x y:Int} (nx:Nm W x0 x1 x) (ny:Nm W y0 y1 y) (hx:x1.length≤1000000000) (hy:y1.length≤1000000000):
  Rn (fun k=>qel k x0 x1 y0 y1) (qe9 x y,x0,x1,y0,y1):=by
 refine Rn.up (f:=fun k=>qel k x0 x1 y0 y1) ?_
 show Rn (fun k=>qf0 k x0 x1 y0 y1) _
 unfold qf0
 have px:=qr (B:=W) (by decide) nx.c.1
 have py:=qr (B:=W) (by decide) ny.c.1
 have qx:=nx.c.nil_iff (B:=W) (by decide)
 have qy:=ny.c.nil_iff (B:=W) (by decide)
 have zx:=nx.z
 have zy:=ny.z
 have sx:=nx.sg
 have sy:=ny.sg
 have hc:=qrg x1 y1 (by omega) (by omega) nx.c ny.c
 unfold qe9
 cases x0<;>cases y0<;>simp only [Bool.false_eq_true,if_false,if_true] at zx zy
 ·simp -implicitDefEqProofs (maxSteps:=2000000) (disch:=omega) only [ps,↓reduceIte,reduceCtorEq,Int.reduceLT,Int.reduceLE,Int.reduceEq,Nat.reduceLT,Nat.reduceLeDiff,Nat.reduceEqDiff,Int.reduceNeg,qc]
  refine Rn.bind hc ?_
  rw [zx,zy];exact Rn.pure _
 ·have:=mt qy.2 (sy rfl)
  simp -implicitDefEqProofs (maxSteps:=2000000) (disch:=omega) only [ps,↓reduceIte,reduceCtorEq,Int.reduceLT,Int.reduceLE,Int.reduceEq,Nat.reduceLT,Nat.reduceLeDiff,Nat.reduceEqDiff,Int.reduceNeg,qc]
  exact Rn.pure _
 ·have:=mt qx.2 (sx rfl)
  simp -implicitDefEqProofs (maxSteps:=2000000) (disch:=omega) only [ps,↓reduceIte,reduceCtorEq,Int.reduceLT,Int.reduceLE,Int.reduceEq,Nat.reduceLT,Nat.reduceLeDiff,Nat.reduceEqDiff,Int.reduceNeg,qc]
  exact Rn.pure _
 ·simp -implicitDefEqProofs (maxSteps:=2000000) (disch:=omega) only [ps,↓reduceIte,reduceCtorEq,Int.reduceLT,Int.reduceLE,Int.reduceEq,Nat.reduceLT,Nat.reduceLeDiff,Nat.reduceEqDiff,Int.reduceNeg,qc]
  refine Rn.bind hc ?_
  have:IntKind.i64.wrap (0-(if V W x1<V W y1 then -1 else if V W x1=V W y1 then 0 else 1))=(if x<y then -1 else if x=y then 0 else 1):=by
   by_cases a:V W x1<V W y1
   ·simp -implicitDefEqProofs (maxSteps:=2000000) (disch:=omega) only [ps,↓reduceIte,reduceCtorEq,Int.reduceLT,Int.reduceLE,Int.reduceEq,Nat.reduceLT,Nat.reduceLeDiff,Nat.reduceEqDiff,Int.reduceNeg,qc]
   ·by_cases b:V W x1=V W y1
    ·simp -implicitDefEqProofs (maxSteps:=2000000) (disch:=omega) only [ps,↓reduceIte,reduceCtorEq,Int.reduceLT,Int.reduceLE,Int.reduceEq,Nat.reduceLT,Nat.reduceLeDiff,Nat.reduceEqDiff,Int.reduceNeg,qc]
    ·simp -implicitDefEqProofs (maxSteps:=2000000) (disch:=omega) only [ps,↓reduceIte,reduceCtorEq,Int.reduceLT,Int.reduceLE,Int.reduceEq,Nat.reduceLT,Nat.reduceLeDiff,Nat.reduceEqDiff,Int.reduceNeg,qc]
  rw [this];exact Rn.pure _

def Ri (a0:Bool) (a1:List Int):Prop:=a1.length≤72∧tl a1=a1∧(a0=true→a1≠ [])
instance (a0:Bool) (a1:List Int):Decidable (Ri a0 a1):=by unfold Ri;infer_instance
def Zv (B:Int) (a0:Bool) (a1:List Int):Int:=if a0 then -(V B a1)else V B a1
theorem Ri.nm {a0:Bool} {a1:List Int} (h:Ri a0 a1) (hd:Dg W a1):Nm W a0 a1 (Zv W a0 a1):=⟨⟨hd,h.2.1⟩,h.2.2,rfl⟩
theorem Nm.ri {a0:Bool} {a1:List Int} {z:Int} (h:Nm W a0 a1 z) (hl:a1.length≤72):Ri a0 a1:=⟨hl,h.c.2,h.sg⟩
theorem qAv (neg:Bool) (w:List Int) (hl:w.length≤1000000000):Rn (fun k=>qib k neg w) (sgn neg w,tl w):=by
 refine Rn.up (f:=fun k=>qib k neg w) ?_
 show Rn (fun k=>qle k neg w) _
 unfold qle
 simp -implicitDefEqProofs (maxSteps:=2000000) (disch:=omega) only [ps,↓reduceIte,reduceCtorEq,Int.reduceLT,Int.reduceLE,Int.reduceEq,Nat.reduceLT,Nat.reduceLeDiff,Nat.reduceEqDiff,Int.reduceNeg,qc,List.take_length]
 refine Rn.bind (qie w (by omega)) ?_
 unfold sgn
 cases neg
 ·simp -implicitDefEqProofs (maxSteps:=2000000) (disch:=omega) only [ps,↓reduceIte,reduceCtorEq,Int.reduceLT,Int.reduceLE,Int.reduceEq,Nat.reduceLT,Nat.reduceLeDiff,Nat.reduceEqDiff,Int.reduceNeg,qc];exact Rn.pure _
 ·simp -implicitDefEqProofs (maxSteps:=2000000) (disch:=omega) only [ps,↓reduceIte,reduceCtorEq,Int.reduceLT,Int.reduceLE,Int.reduceEq,Nat.reduceLT,Nat.reduceLeDiff,Nat.reduceEqDiff,Int.reduceNeg,qc]
  have:(decide ((0:Int)<((tl w).length:Int)))=decide (0<(tl w).length):=by congr 1;simp
  rw [this];exact Rn.pure _

theorem qhS {B:Int}:∀ {l:List Int} {p:Nat} {o:Int} (v:Int),l[p]? =some o→V B (l.set p v)=V B l+B^p*(v-o):=by
 intro l
 induction l with
 | nil=>intro p o v h;simp at h
 | cons x l ih=>
  intro p o v h
  cases p with
  | zero=>simp at h;subst h;simp [V];omega
  | succ p=>
   simp only [List.getElem?_cons_succ] at h
   simp only [List.set_cons_succ,V,ih v h,Int.pow_succ]
   grind
theorem qnk {x y:Int} (hx:0≤x∧x<4294967296) (hy:0≤y∧y<4294967296):0≤x*y∧x*y≤18446744065119617025:=by
 refine⟨Int.mul_nonneg hx.1 hy.1,?_⟩
 have h1:x*y≤4294967295*y:=Int.mul_le_mul_of_nonneg_right (by omega) hy.1
 omega

theorem qrh (k:Nat) (x y1 x11:List Int) (x1 x2:Int) (z x0 y0:Bool) (hy:Dg W y1) (i:Nat) (a:Int) (ha:0≤a∧a<W) (n12:Nat) (hn12:n12≤2000000000) (hi:i+y1.length<n12):
  ∀(d j n:Nat) (carry:Int) (outs:List Int),j+d=y1.length→d<n→0≤carry∧carry<W→outs.length=n12→Dg W outs→
  ∃carry' outs',qab k n n12 i a carry x x1 x2 y1 y1.length j z x0 x11 y0 y1 outs=some (n12,(i:Int),carry',x,x1,x2,z,x0,x11,y0,y1,outs')∧(0≤carry'∧carry'<W)∧outs'.length=n12∧Dg W outs'∧
   V W outs'+carry'*W^(i+y1.length)=V W outs+carry*W^(i+j)+a*W^(i+j)*V W (y1.drop j)∧∀p,i+y1.length≤p→outs'[p]? =outs[p]? :=by
 intro d
 induction d with
 | zero=>
  intro j n carry outs hj hn hc hl hd
  obtain⟨n,rfl⟩:∃m,n=m+1:=⟨n-1,by omega⟩
  have:j=y1.length:=by omega
  subst this
  refine⟨carry,outs,?_,hc,hl,hd,?_,fun p _=>rfl⟩
  ·show qaf k (qab k n) _ _ _ _ _ _ _ _ _ _ _ _ _ _ _ _=_
   unfold qaf
   simp -implicitDefEqProofs (maxSteps:=2000000) (disch:=omega) only [ps,↓reduceIte,reduceCtorEq,Int.reduceLT,Int.reduceLE,Int.reduceEq,Nat.reduceLT,Nat.reduceLeDiff,Nat.reduceEqDiff,Int.reduceNeg,qc]
  ·rw [List.drop_length];simp [V]
 | succ d ih=>
  intro j n carry outs hj hn hc hl hd
  obtain⟨n,rfl⟩:∃m,n=m+1:=⟨n-1,by omega⟩
  obtain⟨b,hb⟩:=qH (show j<y1.length by omega)
  obtain⟨o,ho⟩:=qH (show i+j<outs.length by omega)
  have hbb:=hy.get hb
  have hob:=hd.get ho
  have h1:((j:Int)+1)=((j+1:Nat):Int):=rfl
  have h2:((i:Int)+(j:Int))=((i+j:Nat):Int):=rfl
  unfold W at ha hbb hob hc
  have hm:=qnk ha hbb
  have hdm:=Int.emod_add_mul_ediv (a*b+o+carry) W
  obtain⟨c',o',q1,q2,q3,q4,q5,q6⟩:=ih (j+1) n ((a*b+o+carry) / W) (outs.set (i+j) ((a*b+o+carry) % W)) (by omega) (by omega) (by unfold W;omega) (by simpa using hl) (hd.set _ (by unfold W;omega))
  refine⟨c',o',?_,q2,q3,q4,?_,fun p hp=> ?_⟩
  ·rw [←q1]
   show qaf k (qab k n) _ _ _ _ _ _ _ _ _ _ _ _ _ _ _ _=_
   unfold qaf
   simp -implicitDefEqProofs (maxSteps:=2000000) (disch:=omega) only [ps,↓reduceIte,reduceCtorEq,Int.reduceLT,Int.reduceLE,Int.reduceEq,Nat.reduceLT,Nat.reduceLeDiff,Nat.reduceEqDiff,Int.reduceNeg,qc,hb,h1,h2,ho,qcB,qeY]
  ·rw [q5,qhS _ ho,qb8 hb,←Nat.add_assoc,Int.pow_succ]
   grind
  ·rw [q6 p hp,List.getElem?_set_ne (by omega)]
theorem qlz (k:Nat) (x1 y1:List Int) (z x0 y0:Bool) (hx:Dg W x1) (hy:Dg W y1) (hlx:x1.length≤1000000000) (hly:y1.length≤1000000000) (hk:y1.length<k):
  ∀(d i n:Nat) (outs:List Int),i+d=x1.length→d<n→outs.length=x1.length+y1.length→Dg W outs→V W outs=V W (x1.take i)*V W y1→(∀p,i+y1.length≤p→p<outs.length→outs[p]? =some 0)→
  ∃outs',qP k n (x1.length+y1.length) x1 x1.length i z x0 x1 y0 y1 outs=some (x1.length+y1.length,z,x0,x1,y0,y1,outs')∧outs'.length=x1.length+y1.length∧Dg W outs'∧V W outs'=V W x1*V W y1:=by
 intro d
 induction d with
 | zero=>
  intro i n outs hi hn hl hd e h0
  obtain⟨n,rfl⟩:∃m,n=m+1:=⟨n-1,by omega⟩
  have:i=x1.length:=by omega
  subst this
  refine⟨outs,?_,hl,hd,by rw [e,List.take_length]⟩
  show qag k (qP k n) _ _ _ _ _ _ _ _ _ _=_
  unfold qag
  simp -implicitDefEqProofs (maxSteps:=2000000) (disch:=omega) only [ps,↓reduceIte,reduceCtorEq,Int.reduceLT,Int.reduceLE,Int.reduceEq,Nat.reduceLT,Nat.reduceLeDiff,Nat.reduceEqDiff,Int.reduceNeg,qc]
 | succ d ih=>
  intro i n outs hi hn hl hd e h0
  obtain⟨n,rfl⟩:∃m,n=m+1:=⟨n-1,by omega⟩
  obtain⟨a,ha⟩:=qH (show i<x1.length by omega)
  have hab:=hx.get ha
  obtain⟨c',o',q1,q2,q3,q4,q5,q6⟩:=qrh k x1 y1 x1 x1.length i z x0 y0 hy i a hab (x1.length+y1.length) (by omega) (by omega) y1.length 0 k 0 outs (by omega) (by omega) (by decide) hl hd
  have hz:o'[i+y1.length]? =some 0:=by rw [q6 _ (Nat.le_refl _)];exact h0 _ (Nat.le_refl _) (by omega)
  have h1:((i:Int)+1)=((i+1:Nat):Int):=rfl
  have h2:((i:Int)+(y1.length:Int))=((i+y1.length:Nat):Int):=rfl
  have e2:V W (o'.set (i+y1.length) c')=V W (x1.take (i+1))*V W y1:=by
   rw [qhS _ hz,qdS ha,Int.sub_zero]
   simp only [Nat.add_zero,List.drop_zero,Int.zero_mul,Int.add_zero] at q5
   rw [e] at q5
   rw [Int.add_mul,Int.mul_comm (W^i) a,←q5,Int.mul_comm c']
  have e3:∀p,(i+1)+y1.length≤p→p<(o'.set (i+y1.length) c').length→(o'.set (i+y1.length) c')[p]? =some 0:=by
   intro p hp hpl
   rw [List.getElem?_set_ne (by omega),q6 p (by omega)]
   exact h0 p (by omega) (by simp at hpl;omega)
  obtain⟨o2,r1,r2⟩:=ih (i+1) n (o'.set (i+y1.length) c') (by omega) (by omega) (by simpa using q3) (q4.set _ q2) e2 e3
  refine⟨o2,?_,r2⟩
  rw [←r1]
  show qag k (qP k n) _ _ _ _ _ _ _ _ _ _=_
  unfold qag
  have q1':qab k k (x1.length+y1.length) i a 0 x1 x1.length i y1 y1.length 0 z x0 x1 y0 y1 outs=_:=q1
  unfold W at q2
  simp -implicitDefEqProofs (maxSteps:=2000000) (disch:=omega) only [ps,↓reduceIte,reduceCtorEq,Int.reduceLT,Int.reduceLE,Int.reduceEq,Nat.reduceLT,Nat.reduceLeDiff,Nat.reduceEqDiff,Int.reduceNeg,qc,ha,q1',h1,h2,hz]
theorem quY (z x0 y0:Bool) (x1 y1:List Int) {x y:Int} (nx:Nm W x0 x1 x) (ny:Nm W y0 y1 y) (hx:x1.length≤1000000) (hy:y1.length≤1000000):
  ∃s l,Rn (fun k=>qeh k z x0 x1 y0 y1) (s,l,x0,x1,y0,y1)∧Nm W s l (x*y)∧l.length≤x1.length+y1.length:=by
 have hW:(0:Int)<W:=by decide
 have main:∀k,x1.length+y1.length<k→∃outs',qP k k (x1.length+y1.length) x1 x1.length (0:Int) z x0 x1 y0 y1 (List.replicate (x1.length+y1.length) 0)=some (x1.length+y1.length,z,x0,x1,y0,y1,outs')∧outs'.length=x1.length+y1.length∧Dg W outs'∧V W outs'=V W x1*V W y1:=by
  intro k hk
  refine qlz k x1 y1 z x0 y0 nx.c.1 ny.c.1 (by omega) (by omega) (by omega) x1.length 0 k _ (by omega) (by omega) (by simp) (Dg.rep _ hW) (by rw [qlZ];simp [V]) ?_
  intro p _ hp
  rw [List.getElem?_replicate_of_lt (by simpa using hp)]
 obtain⟨o,q1,q2,q3,q4⟩:=main (x1.length+y1.length+1) (by omega)
 refine⟨sgn (!(x0 == y0)) o,tl o,?_,?_,by have:=qcx o;omega⟩
 ·obtain⟨K,hK⟩:=qjy (!(x0 == y0)) z o (by omega)
  refine Rn.up (f:=fun k=>qeh k z x0 x1 y0 y1) (Rn.eq (max K (x1.length+y1.length+1)) fun k hk=> ?_)
  show qdq k z x0 x1 y0 y1=_
  unfold qdq
  obtain⟨o',r1,r2,r3,r4⟩:=main k (by omega)
  have ho:o'=o:=Dg.ext r3 q3 (by omega) (by omega)
  subst ho
  have h2:((x1.length:Int)+(y1.length:Int))=((x1.length+y1.length:Nat):Int):=rfl
  have hs:=hK k (by omega)
  have ht:List.take (x1.length+y1.length) o'=o':=List.take_of_length_le (by omega)
  simp -implicitDefEqProofs (maxSteps:=2000000) (disch:=omega) only [ps,↓reduceIte,reduceCtorEq,Int.reduceLT,Int.reduceLE,Int.reduceEq,Nat.reduceLT,Nat.reduceLeDiff,Nat.reduceEqDiff,Int.reduceNeg,qc,h2,r1,r2,ht,hs]
 ·refine(qkM (neg:= !(x0 == y0)) q3 q4).cast ?_
  rw [←nx.z,←ny.z]
  cases x0<;>cases y0<;>simp [Int.neg_mul,Int.mul_neg]

section
variable {α β γ : Type}
theorem qnl {c:Prop} [Decidable c] (f:α→β) (a b:Option α):Option.map f (if c then a else b)=if c then Option.map f a else Option.map f b:=by split<;>rfl
theorem qnm (f:β→γ) (o:Option α) (g:α→Option β):Option.map f (Option.bind o g)=Option.bind o fun x=>Option.map f (g x):=by cases o<;>rfl
theorem qpN (f:α→β) (o:Option α) (g:β→Option γ):Option.bind (Option.map f o) g=Option.bind o fun x=>g (f x):=by cases o<;>rfl
theorem Rn.map {f:Nat→Option α} {r:α} (h:Rn f r) (g:α→β):Rn (fun k=>Option.map g (f k)) (g r):=by
 obtain⟨K,h⟩:=h
 exact⟨K,fun k hk=>by show Option.map g (f k)=_;rw [h k hk];rfl⟩
theorem Rn.congr {f g:Nat→Option α} {r:α} (h:∀k,f k=g k) (hg:Rn g r):Rn f r:=by
 obtain⟨K,hg⟩:=hg
 exact⟨K,fun k hk=>by rw [h k];exact hg k hk⟩
end
abbrev T12:=Nat×Int×Int×List Int×Int×Int×Bool×Bool×List Int×Bool×List Int×List Int
abbrev T7:=Nat×Bool×Bool×List Int×Bool×List Int×List Int
abbrev T6:=Bool×List Int×Bool×List Int×Bool×List Int

/- Both words in one block with another: the first factor. -/
def uo2 (a:Bool) (b:List Int) (r:T12):Nat×Int×Int×List Int×Int×Int×Bool×Bool×List Int×Bool×List Int×Bool×List Int×List Int:=
 (r.1,r.2.1,r.2.2.1,r.2.2.2.1,r.2.2.2.2.1,r.2.2.2.2.2.1,r.2.2.2.2.2.2.1,r.2.2.2.2.2.2.2.1,r.2.2.2.2.2.2.2.2.1,a,b,r.2.2.2.2.2.2.2.2.2)
theorem quj (k:Nat):∀(n o:Nat) (i a c:Int) (x:List Int) (x1 x2:Int) (x3:List Int) (x4 x5:Int) (z x0:Bool) (x11:List Int) (p:Bool) (q:List Int) (y0:Bool) (y1 outs:List Int),
  qdM k n o i a c x x1 x2 x3 x4 x5 z x0 x11 p q y0 y1 outs=Option.map (uo2 p q) (qab k n o i a c x x1 x2 x3 x4 x5 z x0 x11 y0 y1 outs)
 | 0=>fun o i a c x x1 x2 x3 x4 x5 z x0 x11 p q y0 y1 outs=>rfl
 | n+1=>fun o i a c x x1 x2 x3 x4 x5 z x0 x11 p q y0 y1 outs=>by
  show qeP k (qdM k n) _ _ _ _ _ _ _ _ _ _ _ _ _ _ _ _ _ _=Option.map (uo2 p q) (qaf k (qab k n) _ _ _ _ _ _ _ _ _ _ _ _ _ _ _ _)
  unfold qeP qaf
  simp only [qnl,qnm,Option.map_some,Option.map_none,quj k n,uo2]
def uo0 (a:Bool) (b:List Int) (r:T7):Nat×Bool×Bool×List Int×Bool×List Int×Bool×List Int×List Int:=
 (r.1,r.2.1,r.2.2.1,r.2.2.2.1,a,b,r.2.2.2.2)
theorem quk (k:Nat):∀(n o:Nat) (x:List Int) (x1 x2:Int) (z x0:Bool) (x11:List Int) (p:Bool) (q:List Int) (y0:Bool) (y1 outs:List Int),
  qdN k n o x x1 x2 z x0 x11 p q y0 y1 outs=Option.map (uo0 p q) (qP k n o x x1 x2 z x0 x11 y0 y1 outs)
 | 0=>fun o x x1 x2 z x0 x11 p q y0 y1 outs=>rfl
 | n+1=>fun o x x1 x2 z x0 x11 p q y0 y1 outs=>by
  show qeQ k (qdN k n) _ _ _ _ _ _ _ _ _ _ _ _=Option.map (uo0 p q) (qag k (qP k n) _ _ _ _ _ _ _ _ _ _)
  unfold qeQ qag
  simp only [qnl,qnm,qpN,Option.map_some,Option.map_none,quj k k,quk k n,uo2,uo0]
  rfl
theorem qAw (k:Nat) (z x0:Bool) (x1:List Int) (p:Bool) (q:List Int) (y0:Bool) (y1:List Int):
  qds k z x0 x1 p q y0 y1=Option.map (fun r:T6=>(r.1,r.2.1,r.2.2.1,r.2.2.2.1,p,q,r.2.2.2.2)) (qeh k z x0 x1 y0 y1):=by
 cases k with
 | zero=>rfl
 | succ k=>
  show qfZ k z x0 x1 p q y0 y1=Option.map _ (qdq k z x0 x1 y0 y1)
  unfold qfZ qdq
  simp only [qnl,qnm,qpN,Option.map_some,Option.map_none,quk k k,uo0]
  rfl
theorem qoE (z x0 y0 p:Bool) (x1 y1 q:List Int) {x y:Int} (nx:Nm W x0 x1 x) (ny:Nm W y0 y1 y) (hx:x1.length≤1000000) (hy:y1.length≤1000000):
  ∃s l,Rn (fun k=>qds k z x0 x1 p q y0 y1) (s,l,x0,x1,p,q,y0,y1)∧Nm W s l (x*y)∧l.length≤x1.length+y1.length:=by
 obtain⟨s,l,h1,h2,h3⟩:=quY z x0 y0 x1 y1 nx ny hx hy
 exact⟨s,l,Rn.congr (fun k=>qAw k z x0 x1 p q y0 y1) (h1.map _),h2,h3⟩

/- Both factors in blocks with another. -/
/- The second factor in a block with another. -/
/- The product laid where the first factor lay. -/
def jo2 (r:T12):Nat×Int×Int×List Int×Int×Int×Bool×List Int×Bool×List Int×List Int:=
 (r.1,r.2.1,r.2.2.1,r.2.2.2.1,r.2.2.2.2.1,r.2.2.2.2.2.1,r.2.2.2.2.2.2.2)
theorem qul (k:Nat):∀(n o:Nat) (i a c:Int) (x:List Int) (x1 x2:Int) (x3:List Int) (x4 x5:Int) (z x0:Bool) (x11:List Int) (y0:Bool) (y1 outs:List Int),
  qdK k n o i a c x x1 x2 x3 x4 x5 x0 x11 y0 y1 outs=Option.map jo2 (qab k n o i a c x x1 x2 x3 x4 x5 z x0 x11 y0 y1 outs)
 | 0=>fun o i a c x x1 x2 x3 x4 x5 z x0 x11 y0 y1 outs=>rfl
 | n+1=>fun o i a c x x1 x2 x3 x4 x5 z x0 x11 y0 y1 outs=>by
  show qeM k (qdK k n) _ _ _ _ _ _ _ _ _ _ _ _ _ _ _=Option.map jo2 (qaf k (qab k n) _ _ _ _ _ _ _ _ _ _ _ _ _ _ _ _)
  unfold qeM qaf
  simp only [qnl,qnm,Option.map_some,Option.map_none,fun o i a c x x1 x2 x3 x4 x5 x0 x11 y0 y1 outs=>qul k n o i a c x x1 x2 x3 x4 x5 z x0 x11 y0 y1 outs,jo2]
def jo0 (r:T7):Nat×Bool×List Int×Bool×List Int×List Int:=(r.1,r.2.2)
theorem qum (k:Nat):∀(n o:Nat) (x:List Int) (x1 x2:Int) (z x0:Bool) (x11:List Int) (y0:Bool) (y1 outs:List Int),
  Option.map jo0 (qP k n o x x1 x2 z x0 x11 y0 y1 outs)=qcP k n o x x1 x2 x0 x11 y0 y1 outs
 | 0=>fun o x x1 x2 z x0 x11 y0 y1 outs=>rfl
 | n+1=>fun o x x1 x2 z x0 x11 y0 y1 outs=>by
  show Option.map jo0 (qag k (qP k n) _ _ _ _ _ _ _ _ _ _)=qeN k (qcP k n) _ _ _ _ _ _ _ _ _
  unfold qeN qag
  simp only [qnl,qnm,qpN,Option.map_some,Option.map_none,fun o i a c x x1 x2 x3 x4 x5 x0 x11 y0 y1 outs=>qul k k o i a c x x1 x2 x3 x4 x5 z x0 x11 y0 y1 outs,jo2,qum k n]
  rfl
theorem qoF (x0 y0:Bool) (x1 y1:List Int) {x y:Int} (nx:Nm W x0 x1 x) (ny:Nm W y0 y1 y) (hx:x1.length≤1000000) (hy:y1.length≤1000000):
  ∃s l,Rn (fun k=>qdr k x0 x1 y0 y1) (s,l,y0,y1)∧Nm W s l (x*y)∧l.length≤x1.length+y1.length:=by
 have hW:(0:Int)<W:=by decide
 have main:∀k,x1.length+y1.length<k→∃outs',qcP k k (x1.length+y1.length) x1 x1.length (0:Int) x0 x1 y0 y1 (List.replicate (x1.length+y1.length) 0)=some (x1.length+y1.length,x0,x1,y0,y1,outs')∧outs'.length=x1.length+y1.length∧Dg W outs'∧V W outs'=V W x1*V W y1:=by
  intro k hk
  obtain⟨o,h1,h2⟩:=qlz k x1 y1 false x0 y0 nx.c.1 ny.c.1 (by omega) (by omega) (by omega) x1.length 0 k (List.replicate (x1.length+y1.length) 0) (by omega) (by omega) (by simp) (Dg.rep _ hW) (by rw [qlZ];simp [V]) (by
   intro p _ hp
   rw [List.getElem?_replicate_of_lt (by simpa using hp)])
  have h1':qP k k (x1.length+y1.length) x1 x1.length (0:Int) false x0 x1 y0 y1 (List.replicate (x1.length+y1.length) 0)=_:=h1
  refine⟨o,?_,h2⟩
  rw [←qum k k _ _ _ _ false,h1']
  rfl
 obtain⟨o,q1,q2,q3,q4⟩:=main (x1.length+y1.length+1) (by omega)
 refine⟨sgn (!(x0 == y0)) o,tl o,?_,?_,by have:=qcx o;omega⟩
 ·obtain⟨K,hK⟩:=quX (!(x0 == y0)) x0 o x1 (by omega)
  refine Rn.up (f:=fun k=>qdr k x0 x1 y0 y1) (Rn.eq (max K (x1.length+y1.length+1)) fun k hk=> ?_)
  show qfY k x0 x1 y0 y1=_
  unfold qfY
  obtain⟨o',r1,r2,r3,r4⟩:=main k (by omega)
  have ho:o'=o:=Dg.ext r3 q3 (by omega) (by omega)
  subst ho
  have h2:((x1.length:Int)+(y1.length:Int))=((x1.length+y1.length:Nat):Int):=rfl
  have hs:=hK k (by omega)
  have ht:List.take (x1.length+y1.length) o'=o':=List.take_of_length_le (by omega)
  simp -implicitDefEqProofs (maxSteps:=2000000) (disch:=omega) only [ps,↓reduceIte,reduceCtorEq,Int.reduceLT,Int.reduceLE,Int.reduceEq,Nat.reduceLT,Nat.reduceLeDiff,Nat.reduceEqDiff,Int.reduceNeg,qc,h2,r1,r2,ht,hs]
 ·refine(qkM (neg:= !(x0 == y0)) q3 q4).cast ?_
  rw [←nx.z,←ny.z]
  cases x0<;>cases y0<;>simp [Int.neg_mul,Int.mul_neg]

theorem qpO (k:Nat) (a:List Int) (dd:Int) (hla:a.length≤1000000000) (ha:Dg W a) (hd:0<dd∧dd<W):
  ∀(m n:Nat) (r:Int) (qs:List Int),m≤a.length→m<n→0≤r∧r<dd→qs.length=a.length→Dg W qs→V W (a.drop m)=dd*V W (qs.drop m)+r→
  ∃r' qs',qd7 k n a dd a.length r ((m:Int)-1) qs=some (a.length,r',qs')∧(0≤r'∧r'<dd)∧qs'.length=a.length∧Dg W qs'∧V W a=dd*V W qs'+r':=by
 intro m
 induction m with
 | zero=>
  intro n r qs hm hn hr hl hq e
  obtain⟨n,rfl⟩:∃m,n=m+1:=⟨n-1,by omega⟩
  refine⟨r,qs,?_,hr,hl,hq,e⟩
  show qez k (qd7 k n) _ _ _ _ _ _=_
  unfold qez
  simp -implicitDefEqProofs (maxSteps:=2000000) (disch:=omega) only [ps,↓reduceIte,reduceCtorEq,Int.reduceLT,Int.reduceLE,Int.reduceEq,Nat.reduceLT,Nat.reduceLeDiff,Nat.reduceEqDiff,Int.reduceNeg,qc]
 | succ i ih=>
  intro n r qs hm hn hr hl hq e
  obtain⟨n,rfl⟩:∃m,n=m+1:=⟨n-1,by omega⟩
  obtain⟨x,hx⟩:=qH (show i<a.length by omega)
  obtain⟨o,ho⟩:=qH (show i<qs.length by omega)
  have hxb:=ha.get hx
  have h1:(((i+1:Nat):Int)-1)=(i:Int):=by omega
  unfold W at hxb hd
  have hdm:=Int.emod_add_mul_ediv (r*4294967296+x) dd
  have hr1:0≤(r*4294967296+x) % dd∧(r*4294967296+x) % dd<dd:=⟨Int.emod_nonneg _ (by omega),Int.emod_lt_of_pos _ (by omega)⟩
  have hq1:0≤(r*4294967296+x) / dd:=Int.ediv_nonneg (by omega) (by omega)
  have hq2:(r*4294967296+x) / dd<4294967296:=by
   refine Int.ediv_lt_of_lt_mul (by omega) ?_
   have:r*4294967296+4294967296≤dd*4294967296:=by omega
   rw [Int.mul_comm];omega
  have hdrop:(qs.set i ((r*4294967296+x) / dd)).drop i=((r*4294967296+x) / dd)::qs.drop (i+1):=by
   rw [List.drop_eq_getElem_cons (by simp;omega),List.getElem_set_self,List.drop_set_of_lt (by omega)]
  obtain⟨r',qs',q1,q2⟩:=ih n ((r*4294967296+x) % dd) (qs.set i ((r*4294967296+x) / dd)) (by omega) (by omega) hr1 (by simpa using hl) (hq.set _ (by unfold W;omega)) (by
   rw [qb8 hx,e,hdrop]
   simp only [V]
   unfold W
   grind)
  refine⟨r',qs',?_,q2⟩
  rw [←q1]
  show qez k (qd7 k n) _ _ _ _ _ _=_
  unfold qez
  have e0:IntKind.u64.wrap (r*4294967296)=r*4294967296:=qbG (by omega)
  have e2:IntKind.u64.wrap x=x:=qbG (by omega)
  have e1:=qmH (x:=r) (y:=x) (by omega) (by omega)
  have e3:IntKind.u64.wrap (r*4294967296+x)=r*4294967296+x:=qbG (by omega)
  have e4:IntKind.u64.wrap dd=dd:=qbG (by omega)
  have e5:Int.tdiv (r*4294967296+x) dd=(r*4294967296+x) / dd:=qc2 (by omega)
  have e6:Int.tmod (r*4294967296+x) dd=(r*4294967296+x) % dd:=qc3 (by omega)
  simp -implicitDefEqProofs (maxSteps:=2000000) (disch:=omega) only [ps,↓reduceIte,reduceCtorEq,Int.reduceLT,Int.reduceLE,Int.reduceEq,Nat.reduceLT,Nat.reduceLeDiff,Nat.reduceEqDiff,Int.reduceNeg,qc,hx,ho,h1,e0,e2,e1,e3,e4,e5,e6]
theorem qsZ (a:List Int) (dd:Int) (hla:a.length≤1000000000) (ha:Dg W a) (hd:0<dd∧dd<W):
  ∃q r,(∀k,a.length+2≤k→qiH k a dd=some (q,r))∧(0≤r∧r<dd)∧q.length=a.length∧Dg W q∧V W a=dd*V W q+r:=by
 have main:∀k,a.length<k→∃r' qs',qd7 k k a dd a.length 0 ((a.length:Int)-1) (List.replicate a.length 0)=some (a.length,r',qs')∧(0≤r'∧r'<dd)∧qs'.length=a.length∧Dg W qs'∧V W a=dd*V W qs'+r':=by
  intro k hk
  exact qpO k a dd hla ha hd a.length k 0 _ (Nat.le_refl _) hk (by omega) (by simp) (Dg.rep _ (by decide)) (by rw [List.drop_length,List.drop_of_length_le (by simp)];simp [V])
 obtain⟨r,q,h1,h2,h3,h4,h5⟩:=main (a.length+1) (by omega)
 refine⟨q,r,fun k hk=> ?_,h2,h3,h4,h5⟩
 obtain⟨k,rfl⟩:∃m,k=m+1:=⟨k-1,by omega⟩
 obtain⟨r',q',g1,g2,g3,g4,g5⟩:=main k (by omega)
 have hq:V W q'=V W q∧r'=r:=by
  have a1:(dd*V W q'+r') % dd=r':=by rw [Int.add_comm,Int.add_mul_emod_self_left];exact Int.emod_eq_of_lt g2.1 g2.2
  have a2:(dd*V W q+r) % dd=r:=by rw [Int.add_comm,Int.add_mul_emod_self_left];exact Int.emod_eq_of_lt h2.1 h2.2
  have er:r'=r:=by rw [←a1,←a2,←g5,←h5]
  subst er
  have:dd*V W q'=dd*V W q:=by omega
  exact⟨Int.eq_of_mul_eq_mul_left (by omega) this,rfl⟩
 have hqq:q'=q:=Dg.ext g4 h4 (by omega) hq.1
 show qiG k a dd=_
 unfold qiG
 unfold W at hd
 rw [←hqq,←hq.2]
 simp -implicitDefEqProofs (maxSteps:=2000000) (disch:=omega) only [ps,↓reduceIte,reduceCtorEq,Int.reduceLT,Int.reduceLE,Int.reduceEq,Nat.reduceLT,Nat.reduceLeDiff,Nat.reduceEqDiff,Int.reduceNeg,qc,g1,g3]
 rw [List.take_of_length_le (by omega)]

def bytesOf (l:List Int):ByteArray:=ByteArray.mk (List.toArray (List.map (fun n:Int=>n.toNat.toUInt8) l))
def dec (neg:Bool) (l:List Int):List Int:=(if neg then [45] else [])++(l.map fun x=>48+x).reverse
theorem qhT (v:Int) (hv: -9223372036854775808≤v∧v≤9223372036854775807):∃l,Rn (fun k=>qcg k v) (decide (v<0),l)∧Nm W (decide (v<0)) l v∧l.length≤2:=by
 have main:∀u:Int,0≤u∧u<18446744073709551616→u=v.natAbs→∃l,Rn (fun k=>qdJ k (List.take 2 [u % 4294967296,u / 4294967296])) l∧Cn W l∧V W l=v.natAbs∧l.length≤2:=by
  intro u hu e
  have hdm:=Int.emod_add_mul_ediv u 4294967296
  have hdg:Dg W [u % 4294967296,u / 4294967296]:=Dg.cons (by unfold W;omega) (Dg.cons (by unfold W;omega) Dg.nil)
  have:=qcx [u % 4294967296,u / 4294967296]
  refine⟨tl [u % 4294967296,u / 4294967296],qie _ (by simp),Cn.of hdg,?_,by simpa using this⟩
  rw [qha]
  simp only [V]
  unfold W
  omega
 by_cases h:v<0
 ·obtain⟨l,h1,h2,h3,h4⟩:=main (-v) (by omega) (by omega)
  refine⟨l,?_,Nm.of (by decide) h2 h3,h4⟩
  refine Rn.up (f:=fun k=>qcg k v) ?_
  show Rn (fun k=>qfL k v) _
  unfold qfL
  have e1:IntKind.u64.wrap (0-IntKind.u64.wrap v)= -v:=by rw [qgJ,qgJ];omega
  have e2:IntKind.u32.wrap (-v)=(-v) % 4294967296:=qeY _
  have e3:IntKind.u32.wrap ((-v) / 4294967296)=(-v) / 4294967296:=qfH (by omega)
  (first | (refine Rn.t ?hc ?_;case hc=>simp -implicitDefEqProofs (maxSteps:=2000000) (disch:=omega) only [ps,↓reduceIte,reduceCtorEq,Int.reduceLT,Int.reduceLE,Int.reduceEq,Nat.reduceLT,Nat.reduceLeDiff,Nat.reduceEqDiff,Int.reduceNeg,qc]) | (refine Rn.f ?hc ?_;case hc=>simp -implicitDefEqProofs (maxSteps:=2000000) (disch:=omega) only [ps,↓reduceIte,reduceCtorEq,Int.reduceLT,Int.reduceLE,Int.reduceEq,Nat.reduceLT,Nat.reduceLeDiff,Nat.reduceEqDiff,Int.reduceNeg,qc]))
  simp only [e1,e2,qcB (-v) (show(0:Int)≤4294967296 by decide),e3]
  exact Rn.bind h1 (Rn.pure _)
 ·obtain⟨l,h1,h2,h3,h4⟩:=main v (by omega) (by omega)
  refine⟨l,?_,Nm.of (by decide) h2 h3,h4⟩
  refine Rn.up (f:=fun k=>qcg k v) ?_
  show Rn (fun k=>qfL k v) _
  unfold qfL
  have e1:IntKind.u64.wrap v=v:=qbG (by omega)
  have e2:IntKind.u32.wrap v=v % 4294967296:=qeY _
  have e3:IntKind.u32.wrap (v / 4294967296)=v / 4294967296:=qfH (by omega)
  (first | (refine Rn.t ?hc ?_;case hc=>simp -implicitDefEqProofs (maxSteps:=2000000) (disch:=omega) only [ps,↓reduceIte,reduceCtorEq,Int.reduceLT,Int.reduceLE,Int.reduceEq,Nat.reduceLT,Nat.reduceLeDiff,Nat.reduceEqDiff,Int.reduceNeg,qc]) | (refine Rn.f ?hc ?_;case hc=>simp -implicitDefEqProofs (maxSteps:=2000000) (disch:=omega) only [ps,↓reduceIte,reduceCtorEq,Int.reduceLT,Int.reduceLE,Int.reduceEq,Nat.reduceLT,Nat.reduceLeDiff,Nat.reduceEqDiff,Int.reduceNeg,qc]))
  simp only [e1,e2,qcB v (show(0:Int)≤4294967296 by decide),e3]
  exact Rn.bind h1 (Rn.pure _)
def sg (l:List Int):List Int:=l.map fun x=>48+x

theorem qyQ {x y:Int} (b:Nat) (hb:b≤32) (hx:0≤x∧x<2^b) (hy:0≤y∧y<4294967296) (m:Int) (hm:y=2^b*m):
  ((BitVec.toNat ((BitVec.ofInt 32 x) ||| (BitVec.ofInt 32 y)):Nat):Int)=x+y:=by
 have hp:(0:Int)<2^b:=Int.pow_pos (by decide)
 have hm0:0≤m:=by
  rcases Int.lt_or_le m 0 with h | h
  ·have:=Int.mul_neg_of_pos_of_neg hp h
   omega
  ·exact h
 obtain⟨c,rfl⟩:=Int.eq_ofNat_of_zero_le hx.1
 obtain⟨e,rfl⟩:=Int.eq_ofNat_of_zero_le hy.1
 obtain⟨m,rfl⟩:=Int.eq_ofNat_of_zero_le hm0
 have hc:c<2^b:=by
  have:=hx.2
  exact_mod_cast this
 have he:e=2^b*m:=by exact_mod_cast hm
 have hb2:(2:Nat)^b≤2^32:=Nat.pow_le_pow_right (by decide) hb
 have h1:(BitVec.ofInt 32 (c:Int)).toNat=c:=by
  rw [BitVec.toNat_ofInt]
  omega
 have h2:(BitVec.ofInt 32 (e:Int)).toNat=e:=by
  rw [BitVec.toNat_ofInt]
  omega
 rw [BitVec.toNat_or,h1,h2,he,Nat.or_comm,←Nat.two_pow_add_eq_or_of_lt hc]
 omega
theorem qpP (k:Nat) (a:List Int) (s:Nat) (hs:s≤31) (ha:Dg W a) (hla:a.length≤1000000000):∀(d i n:Nat) (outs:List Int),i+d=a.length→d<n→outs.length=a.length+1→Dg W outs→
  (∀o,outs[i]? =some o→o<2^s)→V W outs=V W (a.take i)*2^s→(∀p,i<p→p<outs.length→outs[p]? =some 0)→
  ∃outs',qd8 k n s (a.length+1) a a.length i outs=some (a.length+1,outs')∧outs'.length=a.length+1∧Dg W outs'∧V W outs'=V W a*2^s:=by
 intro d
 induction d with
 | zero=>
  intro i n outs hi hn hl hd ho e h0
  obtain⟨n,rfl⟩:∃m,n=m+1:=⟨n-1,by omega⟩
  have:i=a.length:=by omega
  subst this
  refine⟨outs,?_,hl,hd,by rw [e,List.take_length]⟩
  show qeA k (qd8 k n) _ _ _ _ _ _=_
  unfold qeA
  simp -implicitDefEqProofs (maxSteps:=2000000) (disch:=omega) only [ps,↓reduceIte,reduceCtorEq,Int.reduceLT,Int.reduceLE,Int.reduceEq,Nat.reduceLT,Nat.reduceLeDiff,Nat.reduceEqDiff,Int.reduceNeg,qc]
 | succ d ih=>
  intro i n outs hi hn hl hd ho e h0
  obtain⟨n,rfl⟩:∃m,n=m+1:=⟨n-1,by omega⟩
  obtain⟨x,hx⟩:=qH (show i<a.length by omega)
  obtain⟨o,hoo⟩:=qH (show i<outs.length by omega)
  have hxb:=ha.get hx
  have hob:=hd.get hoo
  have ho2:=ho o hoo
  have hz:=h0 (i+1) (by omega) (by omega)
  have hp:(0:Int)<2^s:=Int.pow_pos (by decide)
  have hq:(0:Int)<2^(32-s):=Int.pow_pos (by decide)
  have hpq:(2:Int)^s*2^(32-s)=4294967296:=by rw [←Int.pow_add,show s+(32-s)=32 by omega];rfl
  have hp31:(2:Int)^s≤2147483648:=by
   have:(2:Int)^s≤2^31:=by exact_mod_cast Nat.pow_le_pow_right (by decide:0<2) hs
   have e:(2:Int)^31=2147483648:=by decide
   omega
  unfold W at hxb hob
  have hw:0≤x*2^s∧x*2^s<4294967296*2^s:=⟨Int.mul_nonneg hxb.1 (by omega),Int.mul_lt_mul_of_pos_right hxb.2 hp⟩
  have hmod:(x*2^s) % 4294967296=2^s*(x % 2^(32-s)):=by
   rw [←hpq,Int.mul_comm x,Int.mul_emod_mul_of_pos _ _ hp]
  have hdiv:(x*2^s) / 4294967296<2^s:=by
   have h1:=Int.emod_add_mul_ediv (x*2^s) 4294967296
   have h2:=Int.emod_nonneg (x*2^s) (show(4294967296:Int)≠0 by decide)
   omega
  have hdm:=Int.emod_add_mul_ediv (x*2^s) 4294967296
  have hmb:(x*2^s) % 4294967296≤4294967296-2^s:=by
   have h1:=Int.emod_lt_of_pos x hq
   have h2:2^s*(x % 2^(32-s))≤2^s*(2^(32-s)-1):=Int.mul_le_mul_of_nonneg_left (by omega) (by omega)
   rw [Int.mul_sub,hpq] at h2
   omega
  have hmn:=Int.emod_nonneg (x*2^s) (show(4294967296:Int)≠0 by decide)
  have hor:=qyQ s (by omega) ⟨hob.1,ho2⟩ (y:=(x*2^s) % 4294967296) ⟨hmn,by omega⟩ _ hmod
  have hdd:(x*2^s) / 4294967296 % 4294967296=(x*2^s) / 4294967296:=Int.emod_eq_of_lt (by omega) (by omega)
  have hz2:(outs.set i (o+(x*2^s) % 4294967296))[i+1]? =some 0:=by rw [List.getElem?_set_ne (by omega)];exact hz
  have dg1:Dg W (outs.set i (o+(x*2^s) % 4294967296)):=hd.set _ (by unfold W;omega)
  obtain⟨o',q1,q2⟩:=ih (i+1) n ((outs.set i (o+(x*2^s) % 4294967296)).set (i+1) ((x*2^s) / 4294967296)) (by omega) (by omega) (by simpa using hl) (dg1.set _ (by unfold W;omega)) (by
   intro o2 h2
   rw [List.getElem?_set_self (by simp;omega)] at h2
   cases h2
   exact hdiv) (by
   rw [qhS _ hz2,qhS _ hoo,e,qdS hx,Int.pow_succ]
   have hWW:W=4294967296:=rfl
   rw [hWW]
   grind) (by
   intro p h1 h2
   rw [List.getElem?_set_ne (by omega),List.getElem?_set_ne (by omega)]
   exact h0 p (by omega) (by simpa using h2))
  refine⟨o',?_,q2⟩
  have h1:((i:Int)+1)=((i+1:Nat):Int):=rfl
  have hmin:min s 64=s:=by omega
  rw [←q1]
  show qeA k (qd8 k n) _ _ _ _ _ _=_
  unfold qeA
  simp -implicitDefEqProofs (maxSteps:=2000000) (disch:=omega) only [ps,↓reduceIte,reduceCtorEq,Int.reduceLT,Int.reduceLE,Int.reduceEq,Nat.reduceLT,Nat.reduceLeDiff,Nat.reduceEqDiff,Int.reduceNeg,qc,hx,hoo,h1,hmin,hor,hz2,qcB,qeY,hdd]
theorem qnn (a:List Int) (s:Nat) (hs:s≤31) (ha:Dg W a) (hla:a.length≤1000000000):
  ∃outs,Rn (fun k=>qgA k a s) (a.length+1,outs)∧outs.length=a.length+1∧Dg W outs∧V W outs=V W a*2^s:=by
 have hp:(0:Int)<2^s:=Int.pow_pos (by decide)
 have main:∀k,a.length<k→∃outs',qd8 k k s (a.length+1) a a.length (0:Int) (List.replicate (a.length+1) 0)=some (a.length+1,outs')∧outs'.length=a.length+1∧Dg W outs'∧V W outs'=V W a*2^s:=by
  intro k hk
  refine qpP k a s hs ha hla a.length 0 k _ (by omega) hk (by simp) (Dg.rep _ (by decide)) ?_ (by rw [qlZ];simp [V]) ?_
  ·intro o h
   rw [List.getElem?_replicate_of_lt (by omega)] at h
   cases h
   exact hp
  ·intro p _ h
   rw [List.getElem?_replicate_of_lt (by simpa using h)]
 obtain⟨o,q1,q2,q3,q4⟩:=main (a.length+1) (by omega)
 refine⟨o,?_,q2,q3,q4⟩
 refine Rn.up (f:=fun k=>qgA k a s) (Rn.eq (a.length+1) fun k hk=> ?_)
 show qiI k a s=_
 unfold qiI
 obtain⟨o',r1,r2,r3,r4⟩:=main k (by omega)
 have ho:o'=o:=Dg.ext r3 q3 (by omega) (by omega)
 subst ho
 have h1:((a.length:Int)+1)=((a.length+1:Nat):Int):=rfl
 simp -implicitDefEqProofs (maxSteps:=2000000) (disch:=omega) only [ps,↓reduceIte,reduceCtorEq,Int.reduceLT,Int.reduceLE,Int.reduceEq,Nat.reduceLT,Nat.reduceLeDiff,Nat.reduceEqDiff,Int.reduceNeg,qc,h1,r1]

theorem qgE (z:Int):IntKind.u32.wrap (IntKind.u64.wrap z)=z % 4294967296:=by rw [qeY,qgJ];omega
theorem qri (k:Nat) (vs:List Int) (hvs:Dg W vs) (u0 n:Nat) (hnv:n≤vs.length) (dd:Int) (hdd:0≤dd∧dd<W):
  ∀(e i m:Nat) (carry borrow:Int) (us:List Int),i+e=n+1→e<m→(0≤carry∧carry<W)→(0≤borrow∧borrow≤1)→(i=n+1→carry=0)→u0+n+1≤us.length→us.length≤1000000000→Dg W us→
  ∃us' b',qaL k m u0 (n+1) n dd carry borrow ((n+1:Nat):Int) i us vs=some (u0,n+1,n,dd,b',us',vs)∧(0≤b'∧b'≤1)∧us'.length=us.length∧Dg W us'∧
   V W us'+dd*W^(u0+i)*V W ((vs.take n).drop i)+(carry+borrow)*W^(u0+i)=V W us+b'*W^(u0+n+1)∧∀p,p<u0+i∨u0+n+1≤p→us'[p]? =us[p]? :=by
 intro e
 induction e with
 | zero=>
  intro i m carry borrow us hi hm hc hb hc0 hl hlb hd
  obtain⟨m,rfl⟩:∃q,m=q+1:=⟨m-1,by omega⟩
  have:i=n+1:=by omega
  subst this
  have hcz:=hc0 rfl
  subst hcz
  refine⟨us,borrow,?_,hb,rfl,hd,?_,fun _ _=>rfl⟩
  ·show qae k (qaL k m) _ _ _ _ _ _ _ _ _ _=_
   unfold qae
   simp -implicitDefEqProofs (maxSteps:=2000000) (disch:=omega) only [ps,↓reduceIte,reduceCtorEq,Int.reduceLT,Int.reduceLE,Int.reduceEq,Nat.reduceLT,Nat.reduceLeDiff,Nat.reduceEqDiff,Int.reduceNeg,qc]
  ·rw [List.drop_of_length_le (by rw [List.length_take];omega),←Nat.add_assoc]
   simp [V]
 | succ e ih=>
  intro i m carry borrow us hi hm hc hb hc0 hl hlb hd
  obtain⟨m,rfl⟩:∃q,m=q+1:=⟨m-1,by omega⟩
  obtain⟨u,hu⟩:=qH (show u0+i<us.length by omega)
  have hub:=hd.get hu
  have h1:((i:Int)+1)=((i+1:Nat):Int):=rfl
  unfold W at hub hc hdd
  -- what one round does, whatever is taken away
  have step:∀cur:Int,0≤cur→cur<18446744073709551616→(i=n→cur=carry)→∀(b1 w:Int),(0≤b1∧b1≤1)→(0≤w∧w<4294967296)→w=u-cur % 4294967296-borrow+b1*4294967296→
    (W^(u0+i)*cur=carry*W^(u0+i)+dd*W^(u0+i)*(V W ((vs.take n).drop i)-W*V W ((vs.take n).drop (i+1))))→
    ∃us' b',qaL k m u0 (n+1) n dd (cur / 4294967296) b1 ((n+1:Nat):Int) ((i+1:Nat):Int) (us.set (u0+i) w) vs=some (u0,n+1,n,dd,b',us',vs)∧(0≤b'∧b'≤1)∧us'.length=us.length∧Dg W us'∧
     V W us'+dd*W^(u0+i)*V W ((vs.take n).drop i)+(carry+borrow)*W^(u0+i)=V W us+b'*W^(u0+n+1)∧∀p,p<u0+i∨u0+n+1≤p→us'[p]? =us[p]? :=by
   intro cur c0 c1 cn b1 w hb1 hw ew ecur
   have hdm:=Int.emod_add_mul_ediv cur 4294967296
   obtain⟨us',b',q1,q2,q3,q4,q5,q6⟩:=ih (i+1) m (cur / 4294967296) b1 (us.set (u0+i) w) (by omega) (by omega) (by unfold W;omega) hb1 (fun h=>by
    have:=cn (by omega)
    omega) (by simpa using hl) (by simpa using hlb) (hd.set _ (by unfold W;exact hw))
   refine⟨us',b',q1,q2,by simpa using q3,q4,?_,fun p hp=> ?_⟩
   ·rw [qhS _ hu,←Nat.add_assoc u0 i 1,Int.pow_succ] at q5
    have hWW:W=4294967296:=rfl
    generalize V W (List.drop i (List.take n vs))=v0 at*
    generalize V W (List.drop (i+1) (List.take n vs))=v1 at*
    generalize W^(u0+i)=P at*
    rw [hWW] at q5 ecur
    grind
   ·rw [q6 p (by omega),List.getElem?_set_ne (by omega)]
  by_cases hin:i<n
  ·obtain⟨x,hx⟩:=qH (show i<vs.length by omega)
   have hxb:=hvs.get hx
   unfold W at hxb
   have hm2:=qnk hdd hxb
   have hx2:(vs.take n)[i]? =some x:=by rw [List.getElem?_take_of_lt hin];exact hx
   have hal:=qor (x:=carry+dd*x) (by omega)
   have hml:=Int.emod_lt_of_pos (carry+dd*x) (show(0:Int)<4294967296 by decide)
   have hmn:=Int.emod_nonneg (carry+dd*x) (show(4294967296:Int)≠0 by decide)
   have ec:W^(u0+i)*(carry+dd*x)=carry*W^(u0+i)+dd*W^(u0+i)*(V W ((vs.take n).drop i)-W*V W ((vs.take n).drop (i+1))):=by
    rw [qb8 hx2]
    grind
   by_cases hlt:u<(carry+dd*x) % 4294967296+borrow
   ·obtain⟨us',b',q1,q2⟩:=step (carry+dd*x) (by omega) (by omega) (fun h=>by omega) 1 ((u-((carry+dd*x) % 4294967296+borrow)) % 4294967296) (by omega) (by omega) (by omega) ec
    refine⟨us',b',?_,q2⟩
    rw [←q1]
    show qae k (qaL k m) _ _ _ _ _ _ _ _ _ _=_
    unfold qae
    simp -implicitDefEqProofs (maxSteps:=2000000) (disch:=omega) only [ps,↓reduceIte,reduceCtorEq,Int.reduceLT,Int.reduceLE,Int.reduceEq,Nat.reduceLT,Nat.reduceLeDiff,Nat.reduceEqDiff,Int.reduceNeg,qc,hx,hu,h1,hal,qcB,qgE]
   ·obtain⟨us',b',q1,q2⟩:=step (carry+dd*x) (by omega) (by omega) (fun h=>by omega) 0 (u-((carry+dd*x) % 4294967296+borrow)) (by omega) (by omega) (by omega) ec
    refine⟨us',b',?_,q2⟩
    rw [←q1]
    show qae k (qaL k m) _ _ _ _ _ _ _ _ _ _=_
    unfold qae
    simp -implicitDefEqProofs (maxSteps:=2000000) (disch:=omega) only [ps,↓reduceIte,reduceCtorEq,Int.reduceLT,Int.reduceLE,Int.reduceEq,Nat.reduceLT,Nat.reduceLeDiff,Nat.reduceEqDiff,Int.reduceNeg,qc,hx,hu,h1,hal,qcB]
  ·have hi2:i=n:=by omega
   have hal:=qor (x:=carry) (by omega)
   have hml:=Int.emod_lt_of_pos carry (show(0:Int)<4294967296 by decide)
   have hmn:=Int.emod_nonneg carry (show(4294967296:Int)≠0 by decide)
   have ec:W^(u0+i)*carry=carry*W^(u0+i)+dd*W^(u0+i)*(V W ((vs.take n).drop i)-W*V W ((vs.take n).drop (i+1))):=by
    rw [List.drop_of_length_le (by rw [List.length_take];omega),List.drop_of_length_le (by rw [List.length_take];omega)]
    simp only [V]
    grind
   by_cases hlt:u<carry % 4294967296+borrow
   ·obtain⟨us',b',q1,q2⟩:=step carry (by omega) (by omega) (fun h=>rfl) 1 ((u-(carry % 4294967296+borrow)) % 4294967296) (by omega) (by omega) (by omega) ec
    refine⟨us',b',?_,q2⟩
    rw [←q1]
    show qae k (qaL k m) _ _ _ _ _ _ _ _ _ _=_
    unfold qae
    simp -implicitDefEqProofs (maxSteps:=2000000) (disch:=omega) only [ps,↓reduceIte,reduceCtorEq,Int.reduceLT,Int.reduceLE,Int.reduceEq,Nat.reduceLT,Nat.reduceLeDiff,Nat.reduceEqDiff,Int.reduceNeg,qc,hu,h1,hal,qcB,qgE]
   ·obtain⟨us',b',q1,q2⟩:=step carry (by omega) (by omega) (fun h=>rfl) 0 (u-(carry % 4294967296+borrow)) (by omega) (by omega) (by omega) ec
    refine⟨us',b',?_,q2⟩
    rw [←q1]
    show qae k (qaL k m) _ _ _ _ _ _ _ _ _ _=_
    unfold qae
    simp -implicitDefEqProofs (maxSteps:=2000000) (disch:=omega) only [ps,↓reduceIte,reduceCtorEq,Int.reduceLT,Int.reduceLE,Int.reduceEq,Nat.reduceLT,Nat.reduceLeDiff,Nat.reduceEqDiff,Int.reduceNeg,qc,hu,h1,hal,qcB]

theorem qs0 (P B a b s u carry v0 v1 Vu:Int) (hdm:a+B*b=s) (ecur:P*s=P*(u+carry)+P*(v0-B*v1)):
  Vu+P*(a-u)+P*B*v1+b*(P*B)=Vu+P*v0+carry*P:=by
 subst hdm
 rw [Int.mul_add,Int.mul_add,Int.mul_sub] at ecur
 rw [Int.mul_sub]
 grind
theorem qrj (k:Nat) (vs:List Int) (hvs:Dg W vs) (u0 n:Nat) (hnv:n≤vs.length) (dd:Int):
  ∀(e i m:Nat) (carry:Int) (us:List Int),i+e=n+1→e<m→(0≤carry∧carry≤1)→u0+n+1≤us.length→us.length≤1000000000→Dg W us→
  ∃us' c',qbS k m u0 (n+1) n dd carry ((n+1:Nat):Int) i us vs=some (dd,us',vs)∧(0≤c'∧c'≤1)∧us'.length=us.length∧Dg W us'∧
   V W us'+c'*W^(u0+n+1)=V W us+W^(u0+i)*V W ((vs.take n).drop i)+carry*W^(u0+i)∧∀p,p<u0+i∨u0+n+1≤p→us'[p]? =us[p]? :=by
 intro e
 induction e with
 | zero=>
  intro i m carry us hi hm hc hl hlb hd
  obtain⟨m,rfl⟩:∃q,m=q+1:=⟨m-1,by omega⟩
  have:i=n+1:=by omega
  subst this
  refine⟨us,carry,?_,hc,rfl,hd,?_,fun _ _=>rfl⟩
  ·show qb2 k (qbS k m) _ _ _ _ _ _ _ _ _=_
   unfold qb2
   simp -implicitDefEqProofs (maxSteps:=2000000) (disch:=omega) only [ps,↓reduceIte,reduceCtorEq,Int.reduceLT,Int.reduceLE,Int.reduceEq,Nat.reduceLT,Nat.reduceLeDiff,Nat.reduceEqDiff,Int.reduceNeg,qc]
  ·rw [List.drop_of_length_le (by rw [List.length_take];omega),←Nat.add_assoc]
   simp [V]
 | succ e ih=>
  intro i m carry us hi hm hc hl hlb hd
  obtain⟨m,rfl⟩:∃q,m=q+1:=⟨m-1,by omega⟩
  obtain⟨u,hu⟩:=qH (show u0+i<us.length by omega)
  have hub:=hd.get hu
  have h1:((i:Int)+1)=((i+1:Nat):Int):=rfl
  unfold W at hub
  have step:∀s:Int,0≤s→s<8589934592→(W^(u0+i)*s=W^(u0+i)*(u+carry)+W^(u0+i)*(V W ((vs.take n).drop i)-W*V W ((vs.take n).drop (i+1))))→
    ∃us' c',qbS k m u0 (n+1) n dd (s / 4294967296) ((n+1:Nat):Int) ((i+1:Nat):Int) (us.set (u0+i) (s % 4294967296)) vs=some (dd,us',vs)∧(0≤c'∧c'≤1)∧us'.length=us.length∧Dg W us'∧
     V W us'+c'*W^(u0+n+1)=V W us+W^(u0+i)*V W ((vs.take n).drop i)+carry*W^(u0+i)∧∀p,p<u0+i∨u0+n+1≤p→us'[p]? =us[p]? :=by
   intro s c0 c1 ecur
   have hdm:=Int.emod_add_mul_ediv s 4294967296
   obtain⟨us',b',q1,q2,q3,q4,q5,q6⟩:=ih (i+1) m (s / 4294967296) (us.set (u0+i) (s % 4294967296)) (by omega) (by omega) (by omega) (by simpa using hl) (by simpa using hlb) (hd.set _ (by unfold W;omega))
   refine⟨us',b',q1,q2,by simpa using q3,q4,?_,fun p hp=> ?_⟩
   ·rw [qhS _ hu,←Nat.add_assoc u0 i 1,show W^(u0+i+1)=W^(u0+i)*W from Int.pow_succ ..] at q5
    rw [q5]
    exact qs0 _ _ _ _ _ _ _ _ _ _ hdm ecur
   ·rw [q6 p (by omega),List.getElem?_set_ne (by omega)]
  by_cases hin:i<n
  ·obtain⟨x,hx⟩:=qH (show i<vs.length by omega)
   have hxb:=hvs.get hx
   unfold W at hxb
   have hx2:(vs.take n)[i]? =some x:=by rw [List.getElem?_take_of_lt hin];exact hx
   have ec:W^(u0+i)*(u+carry+x)=W^(u0+i)*(u+carry)+W^(u0+i)*(V W ((vs.take n).drop i)-W*V W ((vs.take n).drop (i+1))):=by
    rw [qb8 hx2,Int.add_sub_cancel,Int.mul_add]
   obtain⟨us',b',q1,q2⟩:=step (u+carry+x) (by omega) (by omega) ec
   refine⟨us',b',?_,q2⟩
   rw [←q1]
   show qb2 k (qbS k m) _ _ _ _ _ _ _ _ _=_
   unfold qb2
   have ew:IntKind.u32.wrap (u+carry+x)=(u+carry+x) % 4294967296:=qeY _
   simp -implicitDefEqProofs (maxSteps:=2000000) (disch:=omega) only [↓ew,ps,↓reduceIte,reduceCtorEq,Int.reduceLT,Int.reduceLE,Int.reduceEq,Nat.reduceLT,Nat.reduceLeDiff,Nat.reduceEqDiff,Int.reduceNeg,qc,hx,hu,h1,qcB,ew,qgE]
  ·have ec:W^(u0+i)*(u+carry)=W^(u0+i)*(u+carry)+W^(u0+i)*(V W ((vs.take n).drop i)-W*V W ((vs.take n).drop (i+1))):=by
    rw [List.drop_of_length_le (by rw [List.length_take];omega),List.drop_of_length_le (by rw [List.length_take];omega)]
    simp [V]
   obtain⟨us',b',q1,q2⟩:=step (u+carry) (by omega) (by omega) ec
   refine⟨us',b',?_,q2⟩
   rw [←q1]
   show qb2 k (qbS k m) _ _ _ _ _ _ _ _ _=_
   unfold qb2
   have ew:IntKind.u32.wrap (u+carry)=(u+carry) % 4294967296:=qeY _
   simp -implicitDefEqProofs (maxSteps:=2000000) (disch:=omega) only [ps,↓reduceIte,reduceCtorEq,Int.reduceLT,Int.reduceLE,Int.reduceEq,Nat.reduceLT,Nat.reduceLeDiff,Nat.reduceEqDiff,Int.reduceNeg,qc,hu,h1,qcB,ew,qgE]
theorem qmj (l:List Int) (u0 n:Nat) (h:u0+n≤l.length):V W l=V W (l.take u0)+W^u0*(V W ((l.drop u0).take n)+W^n*V W (l.drop (u0+n))):=by
 rw [qfe l u0 (by omega),qfe (l.drop u0) n (by rw [List.length_drop];omega),List.drop_drop]
theorem qno {l m:List Int} {u0 n:Nat} (h:∀p,p<u0∨u0+n≤p→l[p]? =m[p]?):l.take u0=m.take u0∧l.drop (u0+n)=m.drop (u0+n):=by
 constructor
 ·refine List.ext_getElem? fun p=> ?_
  by_cases hp:p<u0
  ·rw [List.getElem?_take_of_lt hp,List.getElem?_take_of_lt hp];exact h p (.inl hp)
  ·rw [List.getElem?_eq_none (by rw [List.length_take];omega),List.getElem?_eq_none (by rw [List.length_take];omega)]
 ·refine List.ext_getElem? fun p=> ?_
  rw [List.getElem?_drop,List.getElem?_drop]
  exact h _ (.inr (by omega))
theorem qnp {l m:List Int} {u0 n:Nat} (hl:u0+n≤l.length) (hm:u0+n≤m.length) (h:∀p,p<u0∨u0+n≤p→l[p]? =m[p]?) {x y:Int} (e:V W l+W^u0*x=V W m+W^u0*y):
  V W ((l.drop u0).take n)+x=V W ((m.drop u0).take n)+y:=by
 obtain⟨h1,h2⟩:=qno h
 rw [qmj l u0 n hl,qmj m u0 n hm,h1,h2] at e
 have hp:(0:Int)<W^u0:=Int.pow_pos (by decide)
 generalize V W ((l.drop u0).take n)=a at*
 generalize V W ((m.drop u0).take n)=b at*
 generalize W^u0=P at*
 have e2:P*(a+x)=P*(b+y):=by grind
 exact Int.eq_of_mul_eq_mul_left (by omega) e2

theorem qs1 {a b P Y d c X:Int} (h:a+d*P*Y+(0+0)*P=b+c*(P*X)):a+P*(d*Y)=b+P*(c*X):=by
 have h1:d*P*Y=P*(d*Y):=by rw [Int.mul_comm d P,Int.mul_assoc]
 have h2:c*(P*X)=P*(c*X):=Int.mul_left_comm ..
 rw [h1,h2,Int.add_zero,Int.zero_mul] at h
 omega
theorem qyR {a b P Y c X:Int} (h:a+c*(P*X)=b+P*Y+0*P):a+P*(c*X)=b+P*Y:=by
 have h2:c*(P*X)=P*(c*X):=Int.mul_left_comm ..
 rw [h2,Int.zero_mul] at h
 omega
theorem qBh {a b c P Y q X:Int} (h1:a+P*((q+1)*Y)=b+P*(1*X)) (h2:c+P*(1*X)=a+P*Y):c+P*(q*Y)=b:=by
 rw [Int.add_mul,Int.one_mul,Int.mul_add] at h1
 omega
theorem quZ (us vs:List Int) (u0 n:Nat) (dd q:Int) (hvs:Dg W vs) (hd:Dg W us) (hnv:n≤vs.length) (hl:u0+n+1≤us.length) (hlb:us.length≤1000000000) (hdd:0≤dd∧dd<W) (hq0:0≤q)
  (hq1:q*V W (vs.take n)≤V W ((us.drop u0).take (n+1))) (hq2:V W ((us.drop u0).take (n+1))<(q+1)*V W (vs.take n)) (hdq:dd=q∨dd=q+1):
  ∃us',Rn (fun k=>qfT k u0 (n+1) n dd us vs) (q,us',vs)∧us'.length=us.length∧Dg W us'∧V W us'+W^u0*(q*V W (vs.take n))=V W us∧∀p,p<u0∨u0+(n+1)≤p→us'[p]? =us[p]? :=by
 have hY:=qeL (B:=W) (by decide) (hvs.take n)
 have hY0:=qr (B:=W) (by decide) (hvs.take n)
 have hYl:(vs.take n).length=n:=by rw [List.length_take];omega
 rw [hYl] at hY
 have hP:(0:Int)<W^u0:=Int.pow_pos (by decide)
 have hWn:(0:Int)<W^n:=Int.pow_pos (by decide)
 have hWn1:W^(n+1)=W^n*4294967296:=Int.pow_succ ..
 have hpw:W^(u0+n+1)=W^u0*W^(n+1):=by rw [Nat.add_assoc,Int.pow_add]
 have main:∀k,n+2≤k→∃us',qfS k u0 (n+1) n dd us vs=some (q,us',vs)∧us'.length=us.length∧Dg W us'∧V W us'+W^u0*(q*V W (vs.take n))=V W us∧∀p,p<u0∨u0+(n+1)≤p→us'[p]? =us[p]? :=by
  intro k hk
  obtain⟨us1,b1,q1,hb1,l1,d1,e1,o1⟩:=qri k vs hvs u0 n hnv dd hdd (n+1) 0 k 0 0 us (by omega) (by omega) (by decide) (by decide) (by omega) hl hlb hd
  have q1':qaL k k u0 (n+1) n dd 0 0 ((n+1:Nat):Int) 0 us vs=_:=q1
  have w1:=qnp (l:=us1) (m:=us) (u0:=u0) (n:=n+1) (by omega) (by omega) (fun p hp=>o1 p (by omega)) (x:=dd*V W (vs.take n)) (y:=b1*W^(n+1)) (by
   rw [hpw,Nat.add_zero,List.drop_zero] at e1
   exact qs1 e1)
  have t1:=qr (B:=W) (by decide) ((d1.drop u0).take (n+1))
  have t2:=qeL (B:=W) (by decide) ((d1.drop u0).take (n+1))
  have t3:((us1.drop u0).take (n+1)).length=n+1:=by rw [List.length_take,List.length_drop];omega
  rw [t3] at t2
  rw [Int.add_mul,Int.one_mul] at hq2
  rcases hdq with rfl | rfl
  ·have hb0:b1=0:=by
    rcases(by omega:b1=0∨b1=1)with h | h
    ·exact h
    ·subst h
     rw [Int.one_mul] at w1
     omega
   subst hb0
   refine⟨us1,?_,l1,d1,?_,fun p hp=>o1 p (by omega)⟩
   ·unfold qfS
    unfold W at hdd
    simp -implicitDefEqProofs (maxSteps:=2000000) (disch:=omega) only [ps,↓reduceIte,reduceCtorEq,Int.reduceLT,Int.reduceLE,Int.reduceEq,Nat.reduceLT,Nat.reduceLeDiff,Nat.reduceEqDiff,Int.reduceNeg,qc,q1']
   ·rw [hpw,Nat.add_zero,List.drop_zero] at e1
    have:=qs1 e1
    rw [Int.zero_mul,Int.mul_zero,Int.add_zero] at this
    exact this
  ·have hb0:b1=1:=by
    rcases(by omega:b1=0∨b1=1)with h | h
    ·subst h
     rw [Int.zero_mul,Int.add_mul,Int.one_mul] at w1
     omega
    ·exact h
   subst hb0
   obtain⟨us2,c2,q2,hc2,l2,d2,e2,o2⟩:=qrj k vs hvs u0 n hnv (q+1) (n+1) 0 k 0 us1 (by omega) (by omega) (by decide) (by omega) (by omega) d1
   have q2':qbS k k u0 (n+1) n (q+1) 0 ((n+1:Nat):Int) 0 us1 vs=_:=q2
   have w2:=qnp (l:=us2) (m:=us1) (u0:=u0) (n:=n+1) (by omega) (by omega) (fun p hp=>o2 p (by omega)) (x:=c2*W^(n+1)) (y:=V W (vs.take n)) (by
    rw [hpw,Nat.add_zero,List.drop_zero] at e2
    exact qyR e2)
   have s1:=qr (B:=W) (by decide) ((d2.drop u0).take (n+1))
   have s2:=qeL (B:=W) (by decide) ((d2.drop u0).take (n+1))
   have s3:((us2.drop u0).take (n+1)).length=n+1:=by rw [List.length_take,List.length_drop];omega
   rw [s3] at s2
   rw [Int.add_mul,Int.one_mul,Int.one_mul] at w1
   have hc1:c2=1:=by
    rcases(by omega:c2=0∨c2=1)with h | h
    ·subst h
     rw [Int.zero_mul] at w2
     omega
    ·exact h
   subst hc1
   refine⟨us2,?_,by omega,d2,?_,fun p hp=>(o2 p (by omega)).trans (o1 p (by omega))⟩
   ·unfold qfS
    unfold W at hdd
    have e0:q+1-1=q:=by omega
    simp -implicitDefEqProofs (maxSteps:=2000000) (disch:=omega) only [ps,↓reduceIte,reduceCtorEq,Int.reduceLT,Int.reduceLE,Int.reduceEq,Nat.reduceLT,Nat.reduceLeDiff,Nat.reduceEqDiff,Int.reduceNeg,qc,q1',q2',e0]
   ·rw [hpw,Nat.add_zero,List.drop_zero] at e1 e2
    exact qBh (qs1 e1) (qyR e2)
 obtain⟨us',q1,q2,q3,q4,q5⟩:=main (n+2) (by omega)
 refine⟨us',?_,q2,q3,q4,q5⟩
 refine Rn.up (f:=fun k=>qfT k u0 (n+1) n dd us vs) (Rn.eq (n+2) fun k hk=> ?_)
 obtain⟨us2,r1,r2,r3,r4,r5⟩:=main k hk
 have:us2=us':=Dg.ext r3 q3 (by omega) (by omega)
 subst this
 exact r1

theorem qpQ {T Y P v1 v2 y top u2 t d rest:Int} (hP:0<P) (hY:Y=(v1*W+v2)*P+y) (hT:T=(top*W+u2)*P+t) (hy:0≤y) (ht:t<P)
  (hd:0≤d) (htop:d*v1+rest=top) (h:rest*W+u2<d*v2):T<d*Y:=by
 have h1:(rest*W+u2+1)*P≤d*v2*P:=Int.mul_le_mul_of_nonneg_right (by omega) (by omega)
 have h2:0≤d*y:=Int.mul_nonneg hd hy
 have e1:d*Y=d*v1*W*P+d*v2*P+d*y:=by rw [hY];grind
 have e2:T=d*v1*W*P+(rest*W+u2)*P+t:=by rw [hT,←htop];grind
 rw [Int.add_mul,Int.one_mul] at h1
 omega
theorem qpR {T Y P v1 v2 y top u2 t d rest:Int} (hP:0<P) (hY:Y=(v1*W+v2)*P+y) (hT:T=(top*W+u2)*P+t) (hy:0≤y) (hyP:y<P) (ht:0≤t) (hv:0≤v2∧v2<W) (hu:0≤u2)
  (hd:0≤d∧d≤W) (htop:d*v1+rest=top) (h:W≤rest):d*Y≤T:=by
 have e1:d*Y=d*v1*W*P+d*(v2*P+y):=by rw [hY];grind
 have e2:T=d*v1*W*P+rest*(W*P)+u2*P+t:=by rw [hT,←htop];grind
 have h0:(v2+1)*P≤W*P:=Int.mul_le_mul_of_nonneg_right (by omega) (by omega)
 rw [Int.add_mul,Int.one_mul] at h0
 have hWP:0≤W*P:=Int.mul_nonneg (by decide) (by omega)
 have h1:d*(v2*P+y)≤d*(W*P):=Int.mul_le_mul_of_nonneg_left (by omega) hd.1
 have h2:d*(W*P)≤rest*(W*P):=Int.mul_le_mul_of_nonneg_right (by omega) hWP
 have h3:0≤u2*P:=Int.mul_nonneg hu (by omega)
 omega
theorem qpS {T Y P v1 v2 y top u2 t d rest:Int} (hP:0<P) (hY:Y=(v1*W+v2)*P+y) (hT:T=(top*W+u2)*P+t) (hy:0≤y) (hyP:y<P) (ht:0≤t) (hv:0≤v2) (hv1:1≤v1)
  (hd:0≤d∧d≤W) (htop:d*v1+rest=top) (h:d*v2≤rest*W+u2):(d-1)*Y≤T:=by
 have e1:d*Y=d*v1*W*P+d*v2*P+d*y:=by rw [hY];grind
 have e2:T=d*v1*W*P+(rest*W+u2)*P+t:=by rw [hT,←htop];grind
 have h1:d*v2*P≤(rest*W+u2)*P:=Int.mul_le_mul_of_nonneg_right h (by omega)
 have h2:d*y≤W*y:=Int.mul_le_mul_of_nonneg_right hd.2 hy
 have h3:W*y≤W*P:=Int.mul_le_mul_of_nonneg_left (by omega) (by decide)
 have h4:1*(W*P)≤v1*(W*P):=Int.mul_le_mul_of_nonneg_right hv1 (Int.mul_nonneg (by decide) (by omega))
 have h5:0≤v2*P:=Int.mul_nonneg hv (by omega)
 have e3:Y=v1*(W*P)+v2*P+y:=by rw [hY];grind
 rw [Int.sub_mul,Int.one_mul]
 omega

theorem qpT (q u v j n:Nat) (bits:Int) (qs us vs:List Int) {T Y P v1 v2 y top u2 t:Int} (hP:0<P) (hY:Y=(v1*W+v2)*P+y) (hT:T=(top*W+u2)*P+t) (hy:0≤y∧y<P) (ht:0≤t∧t<P)
  (hv1:2147483648≤v1∧v1<W) (hv2:0≤v2∧v2<W) (hu2:0≤u2∧u2<W) (hTY:T<W*Y) (htb:top<v1*W+W) (hn:2≤n) (hnv:n≤v) (hju:j+n≤u) (hub:u≤1000000000)
  (g1:vs[n-1]? =some v1) (g2:vs[n-2]? =some v2) (g3:us[j+n-2]? =some u2):
  ∀(r:Nat) (d rest:Int),W≤rest+r*2147483648→(0≤d∧d≤W+1)→(0≤rest∧rest<W)→d*v1+rest=top→T<(d+1)*Y→
  ∃d',(∀k m,r<m→qcO k m q bits (n:Int) u v (j:Int) d rest qs us vs=some (q,bits,(n:Int),u,v,(j:Int),d',qs,us,vs))∧(0≤d'∧d'<W)∧T<(d'+1)*Y∧(d'-1)*Y≤T:=by
 have i1:((n:Int)-1)=((n-1:Nat):Int):=by omega
 have i2:((n:Int)-2)=((n-2:Nat):Int):=by omega
 have i3:((j:Int)+(n:Int)-2)=((j+n-2:Nat):Int):=by omega
 have hWW:W=4294967296:=rfl
 intro r
 induction r with
 | zero=>intro d rest hr hd hrest;omega
 | succ r ih=>
  intro d rest hr hd hrest htop hq
  have down:T<d*Y→(∃d',(∀k m,r<m→qcO k m q bits (n:Int) u v (j:Int) (d-1) (rest+v1) qs us vs=some (q,bits,(n:Int),u,v,(j:Int),d',qs,us,vs))∧((0≤d'∧d'<W)∧T<(d'+1)*Y∧(d'-1)*Y≤T))∧rest+v1<W∨W≤rest+v1:=by
   intro h
   by_cases hw:W≤rest+v1
   ·exact .inr hw
   ·have hd0:d≠0:=by
     rintro rfl
     have h1:0≤(top*W+u2)*P:=Int.mul_nonneg (Int.add_nonneg (Int.mul_nonneg (by omega) (by omega)) hu2.1) (by omega)
     omega
    exact .inl ⟨ih (d-1) (rest+v1) (by omega) (by omega) (by omega) (by rw [Int.sub_mul];omega) (by rw [Int.sub_add_cancel];exact h),by omega⟩
  have hPW:0≤W*P:=Int.mul_nonneg (by decide) (by omega)
  have hY0:0≤Y:=by
   have:0≤(v1*W+v2)*P:=Int.mul_nonneg (Int.add_nonneg (Int.mul_nonneg (by omega) (by decide)) hv2.1) (by omega)
   omega
  have out:T<d*Y→W≤rest+v1→d≤W+1→(0≤d-1∧d-1<W)∧T<(d-1+1)*Y∧(d-1-1)*Y≤T:=by
   intro h1 h2 _
   have hd0:d≠0:=by
    rintro rfl
    have h1:0≤(top*W+u2)*P:=Int.mul_nonneg (Int.add_nonneg (Int.mul_nonneg (by omega) (by omega)) hu2.1) (by omega)
    omega
   have hdl:d≠W+1:=by
    rintro rfl
    rw [Int.add_mul,Int.one_mul,Int.mul_comm W v1] at htop
    omega
   have:=qpR hP hY hT hy.1 hy.2 ht.1 hv2 hu2.1 (d:=d-1) (rest:=rest+v1) (by omega) (by rw [Int.sub_mul];omega) h2
   refine⟨by omega,by rw [Int.sub_add_cancel];exact h1,?_⟩
   rw [Int.sub_mul (d-1)]
   omega
  unfold W at hv1 hv2 hu2 hd hrest
  by_cases hdW:d≤4294967295
  ·have hm2:=qnk (x:=d) (y:=v2) (by omega) hv2
   have hor:=qmH (x:=rest) (y:=u2) hrest hu2
   by_cases ht2:rest*4294967296+u2<d*v2
   ·have hdn:=qpQ hP hY hT hy.1 ht.2 hd.1 htop ht2
    rcases down hdn with ⟨⟨d',q1,q2⟩,hw⟩ | hw
    ·refine⟨d',fun k m hm=> ?_,q2⟩
     have hd0:d≠0:=by
      rintro rfl
      rw [Int.zero_mul] at ht2
      omega
     unfold W at hw
     obtain⟨m,rfl⟩:∃q,m=q+1:=⟨m-1,by omega⟩
     rw [←q1 k m (by omega)]
     show qby k (qcO k m) _ _ _ _ _ _ _ _ _ _ _=_
     unfold qby
     simp -implicitDefEqProofs (maxSteps:=2000000) (disch:=omega) only [ps,↓reduceIte,reduceCtorEq,Int.reduceLT,Int.reduceLE,Int.reduceEq,Nat.reduceLT,Nat.reduceLeDiff,Nat.reduceEqDiff,Int.reduceNeg,qc,i1,i2,i3,g1,g2,g3,hor]
    ·refine⟨d-1,fun k m hm=> ?_,out hdn hw (by unfold W;omega)⟩
     unfold W at hw
     have hd0:d≠0:=by
      rintro rfl
      rw [Int.zero_mul] at ht2
      omega
     obtain⟨m,rfl⟩:∃q,m=q+1:=⟨m-1,by omega⟩
     show qby k (qcO k m) _ _ _ _ _ _ _ _ _ _ _=_
     unfold qby
     simp -implicitDefEqProofs (maxSteps:=2000000) (disch:=omega) only [ps,↓reduceIte,reduceCtorEq,Int.reduceLT,Int.reduceLE,Int.reduceEq,Nat.reduceLT,Nat.reduceLeDiff,Nat.reduceEqDiff,Int.reduceNeg,qc,i1,i2,i3,g1,g2,g3,hor]
   ·refine⟨d,fun k m hm=> ?_,⟨hd.1,by unfold W;omega⟩,hq,qpS hP hY hT hy.1 hy.2 ht.1 hv2.1 (by omega) ⟨hd.1,by unfold W;omega⟩ htop (by rw [hWW];omega)⟩
    obtain⟨m,rfl⟩:∃q,m=q+1:=⟨m-1,by omega⟩
    show qby k (qcO k m) _ _ _ _ _ _ _ _ _ _ _=_
    unfold qby
    simp -implicitDefEqProofs (maxSteps:=2000000) (disch:=omega) only [ps,↓reduceIte,reduceCtorEq,Int.reduceLT,Int.reduceLE,Int.reduceEq,Nat.reduceLT,Nat.reduceLeDiff,Nat.reduceEqDiff,Int.reduceNeg,qc,i1,i2,i3,g1,g2,g3,hor]
  ·have hdn:T<d*Y:=by
    have:=Int.mul_le_mul_of_nonneg_right (show W≤d by unfold W;omega) hY0
    omega
   rcases down hdn with ⟨⟨d',q1,q2⟩,hw⟩ | hw
   ·refine⟨d',fun k m hm=> ?_,q2⟩
    unfold W at hw
    obtain⟨m,rfl⟩:∃q,m=q+1:=⟨m-1,by omega⟩
    rw [←q1 k m (by omega)]
    show qby k (qcO k m) _ _ _ _ _ _ _ _ _ _ _=_
    unfold qby
    simp -implicitDefEqProofs (maxSteps:=2000000) (disch:=omega) only [ps,↓reduceIte,reduceCtorEq,Int.reduceLT,Int.reduceLE,Int.reduceEq,Nat.reduceLT,Nat.reduceLeDiff,Nat.reduceEqDiff,Int.reduceNeg,qc,i1,i2,i3,g1,g2,g3]
   ·refine⟨d-1,fun k m hm=> ?_,out hdn hw (by unfold W;omega)⟩
    unfold W at hw
    obtain⟨m,rfl⟩:∃q,m=q+1:=⟨m-1,by omega⟩
    show qby k (qcO k m) _ _ _ _ _ _ _ _ _ _ _=_
    unfold qby
    simp -implicitDefEqProofs (maxSteps:=2000000) (disch:=omega) only [ps,↓reduceIte,reduceCtorEq,Int.reduceLT,Int.reduceLE,Int.reduceEq,Nat.reduceLT,Nat.reduceLeDiff,Nat.reduceEqDiff,Int.reduceNeg,qc,i1,i2,i3,g1,g2,g3]

theorem qyS {l:List Int} {n:Nat} {a b:Int} (hl:l.length=n+2) (ha:l[n]? =some a) (hb:l[n+1]? =some b):V W l=(b*W+a)*W^n+V W (l.take n):=by
 rw [qfe l n (by omega),qb8 ha,qb8 hb,List.drop_of_length_le (by omega)]
 simp only [V]
 grind
theorem qs2 {T Y d:Int} (hY:0<Y) (h1:T<(d+1)*Y) (h2:(d-1)*Y≤T):d=T / Y∨d=T / Y+1:=by
 have a:=Int.emod_add_mul_ediv T Y
 have b:=Int.emod_nonneg T (show Y≠0 by omega)
 have c:=Int.emod_lt_of_pos T hY
 have h3:T / Y<d+1:=by
  rcases Int.lt_or_le (T / Y) (d+1)with h | h
  ·exact h
  ·have:=Int.mul_le_mul_of_nonneg_right h (show 0≤Y by omega)
   rw [Int.mul_comm (T / Y)] at this
   omega
 have h4:d-1<T / Y+1:=by
  rcases Int.lt_or_le (d-1) (T / Y+1)with h | h
  ·exact h
  ·have:=Int.mul_le_mul_of_nonneg_right h (show 0≤Y by omega)
   rw [Int.add_mul,Int.mul_comm (T / Y),Int.one_mul] at this
   omega
 omega

theorem qrk (us vs:List Int) (n i:Nat) (hn:2≤n) (hnv:n≤vs.length) (dv:Dg W vs) (du:Dg W us) (hi:i+n+1≤us.length) (hlt:V W us<V W (vs.take n)*W^(i+1))
  {v1 v2 u2 x1 x0:Int} (g1:vs[n-1]? =some v1) (g2:vs[n-2]? =some v2) (g3:us[i+n-2]? =some u2) (g4:us[i+n-1]? =some x1) (g5:us[i+n]? =some x0):
  ∃P y t,0<P∧V W (vs.take n)=(v1*W+v2)*P+y∧V W ((us.drop i).take (n+1))=((x0*W+x1)*W+u2)*P+t∧(0≤y∧y<P)∧(0≤t∧t<P)∧
   V W ((us.drop i).take (n+1))<W*V W (vs.take n)∧x0*W+x1<v1*W+W∧
   (∀us' q,us'.length=us.length→Dg W us'→V W us'+W^i*(q*V W (vs.take n))=V W us→(∀p,p<i∨i+(n+1)≤p→us'[p]? =us[p]?)→V W ((us.drop i).take (n+1))<(q+1)*V W (vs.take n)→V W us'<V W (vs.take n)*W^i):=by
 have hP:(0:Int)<W^(n-2):=Int.pow_pos (by decide)
 have hPi:(0:Int)<W^i:=Int.pow_pos (by decide)
 have lv:(vs.take n).length=n:=by rw [List.length_take];omega
 have lw:((us.drop i).take (n+1)).length=n+1:=by rw [List.length_take,List.length_drop];omega
 have gv2:(vs.take n)[n-2]? =some v2:=by rw [List.getElem?_take_of_lt (by omega)];exact g2
 have gv1:(vs.take n)[n-2+1]? =some v1:=by rw [List.getElem?_take_of_lt (by omega),show n-2+1=n-1 by omega];exact g1
 have hY:=qyS (l:=vs.take n) (n:=n-2) (by omega) gv2 gv1
 have gw:∀p,p<n+1→((us.drop i).take (n+1))[p]? =us[i+p]? :=fun p hp=>by rw [List.getElem?_take_of_lt hp,List.getElem?_drop]
 have w2:((us.drop i).take (n+1))[n-2]? =some u2:=by rw [gw _ (by omega),show i+(n-2)=i+n-2 by omega];exact g3
 have w1:((us.drop i).take (n+1))[n-2+1]? =some x1:=by rw [gw _ (by omega),show i+(n-2+1)=i+n-1 by omega];exact g4
 have w0:((us.drop i).take (n+1))[n-2+1+1]? =some x0:=by rw [gw _ (by omega),show i+(n-2+1+1)=i+n by omega];exact g5
 have hT:V W ((us.drop i).take (n+1))=((x0*W+x1)*W+u2)*W^(n-2)+V W (((us.drop i).take (n+1)).take (n-2)):=by
  rw [qfe ((us.drop i).take (n+1)) (n-2) (by omega),qb8 w2,qb8 w1,qb8 w0,List.drop_of_length_le (show((us.drop i).take (n+1)).length≤n-2+1+1+1 by omega)]
  simp only [V]
  grind
 have dw:Dg W ((us.drop i).take (n+1)):=(du.drop i).take _
 have y0:=qr (B:=W) (by decide) ((dv.take n).take (n-2))
 have y1:=qeL (B:=W) (by decide) ((dv.take n).take (n-2))
 have t0:=qr (B:=W) (by decide) (dw.take (n-2))
 have t1:=qeL (B:=W) (by decide) (dw.take (n-2))
 rw [List.length_take,lv,Nat.min_eq_left (by omega)] at y1
 rw [List.length_take,lw,Nat.min_eq_left (by omega)] at t1
 have hY1:=qeL (B:=W) (by decide) (dv.take n)
 rw [lv] at hY1
 have hY0:=qr (B:=W) (by decide) (dv.take n)
 have T0:=qr (B:=W) (by decide) dw
 have hwin:=qmj us i (n+1) (by omega)
 have lo0:=qr (B:=W) (by decide) (du.take i)
 have lo1:=qeL (B:=W) (by decide) (du.take i)
 rw [List.length_take,Nat.min_eq_left (by omega)] at lo1
 have hi0:=qr (B:=W) (by decide) (du.drop (i+(n+1)))
 have hpi:W^(i+1)=W^i*W:=Int.pow_succ ..
 have hpn:W^(n+1)=W^n*W:=Int.pow_succ ..
 have hPn:(0:Int)<W^n:=Int.pow_pos (by decide)
 generalize hYY:V W (vs.take n)=Y at*
 generalize hTT:V W ((us.drop i).take (n+1))=T at*
 generalize hhi:V W (us.drop (i+(n+1)))=hi at*
 have hin:T+W^(n+1)*hi<W*Y:=by
  have h1:W^i*(T+W^(n+1)*hi)<W^i*(W*Y):=by
   rw [hpi,Int.mul_comm Y,Int.mul_assoc] at hlt
   omega
  exact Int.lt_of_mul_lt_mul_left h1 (by omega)
 have hh0:hi=0:=by
  rcases(by omega:hi=0∨1≤hi)with h | h
  ·exact h
  ·have h1:W^(n+1)*1≤W^(n+1)*hi:=Int.mul_le_mul_of_nonneg_left h (by rw [hpn];exact Int.mul_nonneg (by omega) (by decide))
   have h2:Y*W<W^n*W:=Int.mul_lt_mul_of_pos_right hY1 (by decide)
   rw [Int.mul_comm Y] at h2
   omega
 subst hh0
 rw [Int.mul_zero,Int.add_zero] at hin hwin
 refine⟨W^(n-2),_,_,hP,hY,hT,⟨y0,y1⟩,⟨t0,t1⟩,hin,?_,?_⟩
 ·have b2:=dv.get g2
  have b3:=du.get g3
  have h1:(v1*W+v2+1)*W^(n-2)=(v1*W+v2)*W^(n-2)+W^(n-2):=by rw [Int.add_mul,Int.one_mul]
  have h2:Y≤(v1*W+v2+1)*W^(n-2):=by omega
  have h3:W*Y≤W*((v1*W+v2+1)*W^(n-2)):=Int.mul_le_mul_of_nonneg_left h2 (by decide)
  have h4:0≤u2*W^(n-2):=Int.mul_nonneg b3.1 (by omega)
  have h5:(W*W^(n-2))*(x0*W+x1)<(W*W^(n-2))*(v1*W+v2+1):=by
   have e1:((x0*W+x1)*W+u2)*W^(n-2)=(W*W^(n-2))*(x0*W+x1)+u2*W^(n-2):=by grind
   have e2:W*((v1*W+v2+1)*W^(n-2))=(W*W^(n-2))*(v1*W+v2+1):=by grind
   omega
  have:=Int.lt_of_mul_lt_mul_left h5 (Int.mul_nonneg (by decide) (by omega))
  omega
 ·intro us' q hl' d' e' ho hq
  have hw:=qnp (l:=us') (m:=us) (u0:=i) (n:=n+1) (by omega) (by omega) ho (x:=q*Y) (y:=0) (by rw [Int.mul_zero,Int.add_zero];exact e')
  rw [hTT,Int.add_zero] at hw
  have hwin':=qmj us' i (n+1) (by omega)
  obtain⟨s1,s2⟩:=qno ho
  rw [s1,s2,hhi,Int.mul_zero,Int.add_zero] at hwin'
  rw [Int.add_mul,Int.one_mul] at hq
  have h1:W^i*(V W ((us'.drop i).take (n+1))+1)≤W^i*Y:=Int.mul_le_mul_of_nonneg_left (by omega) (by omega)
  rw [Int.mul_add,Int.mul_one] at h1
  rw [Int.mul_comm Y]
  omega

theorem qs3 {a b Pj Y d q0 Vq A:Int} (h:a+Pj*(d*Y)=b) (e:b+Y*(Pj*W)*Vq=A):a+Y*Pj*(d+W*Vq)=A:=by
 subst e;rw [←h];grind
set_option maxHeartbeats 1000000 in
theorem qrl (vs:List Int) (n:Nat) (bits:Int) (hn:2≤n) (hvl:n≤vs.length) (dv:Dg W vs) {v1 v2:Int} (g1:vs[n-1]? =some v1) (g2:vs[n-2]? =some v2) (hv1:2147483648≤v1) (q u:Nat) (hub:u≤1000000000) (A:Int):
  ∀(e:Nat) (qs us:List Int),e+n≤u→us.length=u→qs.length=q→e≤q→Dg W us→Dg W qs→V W us<V W (vs.take n)*W^e→V W us+V W (vs.take n)*W^e*V W (qs.drop e)=A→
  ∃qs' us',(∃K,∀k m,K≤k→e<m→qfN k m q bits (n:Int) u n ((e:Int)-1) qs us vs=some (q,bits,(n:Int),u,qs',us',vs))∧qs'.length=q∧us'.length=u∧Dg W qs'∧Dg W us'∧
   V W us'<V W (vs.take n)∧V W us'+V W (vs.take n)*V W qs'=A:=by
 intro e
 induction e with
 | zero=>
  intro qs us he hul hql heq du dq hlt hA
  refine⟨qs,us,⟨0,fun k m hk hm=> ?_⟩,hql,hul,dq,du,by simpa using hlt,by simpa using hA⟩
  obtain⟨m,rfl⟩:∃q,m=q+1:=⟨m-1,by omega⟩
  show qe2 k (qfN k m) _ _ _ _ _ _ _ _ _=_
  unfold qe2
  simp -implicitDefEqProofs (maxSteps:=2000000) (disch:=omega) only [ps,↓reduceIte,reduceCtorEq,Int.reduceLT,Int.reduceLE,Int.reduceEq,Nat.reduceLT,Nat.reduceLeDiff,Nat.reduceEqDiff,Int.reduceNeg,qc,Int.zero_sub,Int.natCast_zero]
 | succ j ih=>
  intro qs us he hul hql heq du dq hlt hA
  obtain⟨u2,g3⟩:=qH (show j+n-2<us.length by omega)
  obtain⟨x1,g4⟩:=qH (show j+n-1<us.length by omega)
  obtain⟨x0,g5⟩:=qH (show j+n<us.length by omega)
  obtain⟨P,y,t,hP,hY,hT,hy,ht,hTY,htb,hend⟩:=qrk us vs n j hn hvl dv du (by omega) hlt g1 g2 g3 g4 g5
  have b1:=dv.get g1
  have b2:=dv.get g2
  have b3:=du.get g3
  have b4:=du.get g4
  have b5:=du.get g5
  have hY0:0<V W (vs.take n):=by
   rw [hY]
   have:0<(v1*W+v2)*P:=Int.mul_pos (by unfold W;omega) hP
   omega
  have hT0:=qr (B:=W) (by decide) ((du.drop j).take (n+1))
  obtain⟨d0,hd0⟩:∃d0,(x0*W+x1) / v1=d0:=⟨_,rfl⟩
  obtain⟨r0,hr0⟩:∃r0,(x0*W+x1) % v1=r0:=⟨_,rfl⟩
  have hdm:=Int.emod_add_mul_ediv (x0*W+x1) v1
  have hm0:=Int.emod_nonneg (x0*W+x1) (show v1≠0 by omega)
  have hm1:=Int.emod_lt_of_pos (x0*W+x1) (show 0<v1 by omega)
  rw [hr0,hd0] at hdm
  rw [hr0] at hm0 hm1
  have htop0:0≤x0*W+x1:=by unfold W at *;omega
  have hd00:0≤d0:=by rw [←hd0];exact Int.ediv_nonneg htop0 (by omega)
  have hd01:d0≤W+1:=by
   have h1:d0<W+2:=by
    rw [←hd0]
    refine Int.ediv_lt_of_lt_mul (by omega) ?_
    rw [Int.add_mul,Int.mul_comm W v1]
    unfold W at*
    omega
   omega
  have hTd:V W ((us.drop j).take (n+1))<(d0+1)*V W (vs.take n):=by
   have h1:(x0*W+x1+1)≤(d0+1)*v1:=by rw [Int.add_mul,Int.one_mul,Int.mul_comm d0];omega
   have h2:(x0*W+x1+1)*(W*P)≤(d0+1)*v1*(W*P):=Int.mul_le_mul_of_nonneg_right h1 (Int.mul_nonneg (by decide) (by omega))
   have h3:(u2+1)*P≤W*P:=Int.mul_le_mul_of_nonneg_right (by omega) (by omega)
   have h4:0≤(d0+1)*(v2*P+y):=Int.mul_nonneg (by omega) (Int.add_nonneg (Int.mul_nonneg (by omega) (by omega)) hy.1)
   rw [hY,hT]
   have e1:(d0+1)*((v1*W+v2)*P+y)=(d0+1)*v1*(W*P)+(d0+1)*(v2*P+y):=by grind
   have e2:((x0*W+x1)*W+u2)*P+t=(x0*W+x1+1)*(W*P)-W*P+u2*P+t:=by grind
   have e3:(u2+1)*P=u2*P+P:=by grind
   omega
  obtain⟨d',hg,hd',hq1,hq2⟩:=qpT q u n j n bits qs us vs hP hY hT hy ht ⟨hv1,b1.2⟩ b2 b3 hTY htb hn (Nat.le_refl n) (by omega) hub g1 g2 g3 2 d0 r0 (by unfold W;omega) ⟨hd00,hd01⟩ ⟨hm0,by omega⟩ (by rw [Int.mul_comm];omega) hTd
  have hdig:=qs2 hY0 hq1 hq2
  have q0:0≤V W ((us.drop j).take (n+1)) / V W (vs.take n):=Int.ediv_nonneg hT0 (by omega)
  have qm:=Int.emod_add_mul_ediv (V W ((us.drop j).take (n+1))) (V W (vs.take n))
  have qa:=Int.emod_nonneg (V W ((us.drop j).take (n+1))) (show V W (vs.take n)≠0 by omega)
  have qb:=Int.emod_lt_of_pos (V W ((us.drop j).take (n+1))) hY0
  have ql:V W ((us.drop j).take (n+1)) / V W (vs.take n)<W:=Int.ediv_lt_of_lt_mul hY0 hTY
  obtain⟨dq0,hdq0⟩:∃x,V W ((us.drop j).take (n+1)) / V W (vs.take n)=x:=⟨_,rfl⟩
  rw [hdq0] at hdig q0 qm ql
  rw [Int.mul_comm] at qm
  have hq4:V W ((us.drop j).take (n+1))<(dq0+1)*V W (vs.take n):=by rw [Int.add_mul,Int.one_mul];omega
  obtain⟨us',⟨K,ht'⟩,l',du',e',o'⟩:=quZ us vs j n d' dq0 dv du hvl (by omega) (by omega) hd' q0 (by omega) hq4 hdig
  have hfin:=hend us' dq0 l' du' e' o' hq4
  obtain⟨xq,gq⟩:=qH (show j<qs.length by omega)
  have hdrop:(qs.set j dq0).drop j=dq0::qs.drop (j+1):=by
   rw [List.drop_eq_getElem_cons (by simp;omega)]
   simp [List.drop_set_of_lt]
  obtain⟨qs'',us'',⟨K2,hr⟩,r1,r2,r3,r4,r5,r6⟩:=ih (qs.set j dq0) us' (by omega) (by omega) (by simpa using hql) (by omega) du' (dq.set j ⟨q0,ql⟩) hfin (by
   rw [hdrop]
   simp only [V]
   rw [show W^(j+1)=W^j*W from Int.pow_succ ..] at hA
   exact qs3 (q0:=0) e' hA)
  refine⟨qs'',us'',⟨max K K2+3,fun k m hk hm=> ?_⟩,r1,r2,r3,r4,r5,r6⟩
  obtain⟨m,rfl⟩:∃q,m=q+1:=⟨m-1,by omega⟩
  rw [←hr k m (by omega) (by omega)]
  have hg':=hg k k (by omega)
  have ht2:=ht' k (by omega)
  unfold W at b1 b2 b3 b4 b5 hd'
  have hor:=qmH (x:=x0) (y:=x1) b5 b4
  have hjj:((j+1:Nat):Int)-1=(j:Int):=by omega
  have i1:((n:Int)-1)=((n-1:Nat):Int):=by omega
  have i4:((j:Int)+(n:Int))=((j+n:Nat):Int):=by omega
  have i5:(((j+n:Nat):Int)-1)=((j+n-1:Nat):Int):=by omega
  have i6:(((j+n:Nat):Int)+1)=((j+n+1:Nat):Int):=by omega
  have i7:j+n+1-j=n+1:=by omega
  have dd:(x0*4294967296+x1).tdiv v1=d0:=by rw [qc2 htop0];exact hd0
  have rr:(x0*4294967296+x1).tmod v1=r0:=by rw [qc3 htop0];exact hr0
  unfold W at hd01
  show qe2 k (qfN k m) _ _ _ _ _ _ _ _ _=_
  unfold qe2
  simp -implicitDefEqProofs (maxSteps:=2000000) (disch:=omega) only [ps,↓reduceIte,reduceCtorEq,Int.reduceLT,Int.reduceLE,Int.reduceEq,Nat.reduceLT,Nat.reduceLeDiff,Nat.reduceEqDiff,Int.reduceNeg,qc,hjj,i1,i4,i5,i6,i7,g1,g4,g5,hor,dd,rr,hg',ht2,gq]

theorem qrm (a b:List Int) (hb:b.length≤1000000000) {x:Int} (g:b[b.length-1]? =some x) (hx:1≤x):
  ∀(e s:Nat),s+e=32→x*2^s<4294967296→∃s':Nat,(∀k m,e<m→qeF k m a b (s:Int)=some (a,b,(s':Int)))∧s'≤31∧x*2^s'<4294967296∧2147483648≤x*2^s':=by
 have hb1:0<b.length:=by have:=(List.getElem?_eq_some_iff.1 g).1;omega
 intro e
 induction e with
 | zero=>
  intro s hs hlt
  have:s=32:=by omega
  subst this
  omega
 | succ e ih=>
  intro s hs hlt
  have hp:(0:Int)<2^s:=Int.pow_pos (by decide)
  have h0:0≤x*2^s:=Int.mul_nonneg (by omega) (by omega)
  have hmin:min s 32=s:=by omega
  have i1:((b.length:Int)-1)=((b.length-1:Nat):Int):=by omega
  have i2:((s:Int)+1)=((s+1:Nat):Int):=rfl
  by_cases h:x*2^s<2147483648
  ·obtain⟨s',q1,q2⟩:=ih (s+1) (by omega) (by rw [Int.pow_succ,←Int.mul_assoc];omega)
   refine⟨s',fun k m hm=> ?_,q2⟩
   obtain⟨m,rfl⟩:∃q,m=q+1:=⟨m-1,by omega⟩
   rw [←q1 k m (by omega)]
   have hz:(x*2^s).fdiv 2147483648=0:=by rw [qcB _ (by decide)];omega
   show qe1 k (qeF k m) _ _ _=_
   unfold qe1
   simp -implicitDefEqProofs (maxSteps:=2000000) (disch:=omega) only [ps,↓reduceIte,reduceCtorEq,Int.reduceLT,Int.reduceLE,Int.reduceEq,Nat.reduceLT,Nat.reduceLeDiff,Nat.reduceEqDiff,Int.reduceNeg,qc,i1,i2,g,hmin,hz]
  ·refine⟨s,fun k m hm=> ?_,by omega,hlt,by omega⟩
   obtain⟨m,rfl⟩:∃q,m=q+1:=⟨m-1,by omega⟩
   have hz:¬((x*2^s).fdiv 2147483648=0):=by rw [qcB _ (by decide)];omega
   show qe1 k (qeF k m) _ _ _=_
   unfold qe1
   simp -implicitDefEqProofs (maxSteps:=2000000) (disch:=omega) only [ps,↓reduceIte,reduceCtorEq,Int.reduceLT,Int.reduceLE,Int.reduceEq,Nat.reduceLT,Nat.reduceLeDiff,Nat.reduceEqDiff,Int.reduceNeg,qc,i1,i2,g,hmin,hz]
theorem qn2 {S T W' u u1 d m d1 m1 Pj Vr Vu m0:Int} (hu:u=m+S*d) (hST:S*T=W') (e:S*Vr+m0=Vu+m*Pj):
  S*(Vr+Pj*(d+m1*T))+m0=Vu+Pj*u+m1*(Pj*W'):=by
 subst hu;subst hST;grind
theorem qnq {s:Nat} (hs:s≤31) {x x1:Int} (hx:0≤x∧x<W) (hx1:0≤x1∧x1<W):
  IntKind.u32.wrap (((BitVec.toNat ((BitVec.ofInt 32 (Int.fdiv x ((2:Int)^(min (Int.toNat ((s:Nat):Int)) 32)))) ||| (BitVec.ofInt 32 (IntKind.u32.wrap (IntKind.u64.wrap ((IntKind.u64.wrap x1)*((2:Int)^(min (Int.toNat (IntKind.u64.wrap ((32:Int)-((s:Nat):Int)))) 64)))))))):Nat):Int)
   =x / 2^s+x1 % 2^s*2^(32-s)∧0≤x / 2^s+x1 % 2^s*2^(32-s)∧x / 2^s+x1 % 2^s*2^(32-s)<4294967296:=by
 unfold W at hx hx1
 have hp:(0:Int)<2^s:=Int.pow_pos (by decide)
 have hq:(0:Int)<2^(32-s):=Int.pow_pos (by decide)
 have hpq:(2:Int)^s*2^(32-s)=4294967296:=by rw [←Int.pow_add,show s+(32-s)=32 by omega];rfl
 have hq32:(2:Int)^(32-s)≤4294967296:=by
  have:(2:Int)^(32-s)≤2^32:=by exact_mod_cast Nat.pow_le_pow_right (by decide:0<2) (by omega:32-s≤32)
  simpa using this
 have e1:min (Int.toNat ((s:Nat):Int)) 32=s:=by omega
 have e2:IntKind.u64.wrap ((32:Int)-((s:Nat):Int))=((32-s:Nat):Int):=by rw [qbG (by omega)];omega
 have e3:min (Int.toNat ((32-s:Nat):Int)) 64=32-s:=by omega
 rw [e1,e2,e3,qbG (x:=x1) (by omega),qgE,qcB _ (by omega)]
 have hd0:0≤x / 2^s:=Int.ediv_nonneg hx.1 (by omega)
 have hd1:x / 2^s<2^(32-s):=Int.ediv_lt_of_lt_mul hp (by rw [Int.mul_comm,hpq];exact hx.2)
 have hm0:=Int.emod_nonneg x1 (show(2:Int)^s≠0 by omega)
 have hm1:=Int.emod_lt_of_pos x1 hp
 have hmod:x1*2^(32-s) % 4294967296=2^(32-s)*(x1 % 2^s):=by
  rw [←hpq,Int.mul_comm x1,Int.mul_comm (2^s),Int.mul_emod_mul_of_pos _ _ hq]
 have hb:2^(32-s)*(x1 % 2^s+1)≤2^(32-s)*2^s:=Int.mul_le_mul_of_nonneg_left (by omega) (by omega)
 rw [Int.mul_comm (2^(32-s)) (2^s),hpq,Int.mul_add,Int.mul_one] at hb
 have hb0:0≤2^(32-s)*(x1 % 2^s):=Int.mul_nonneg (by omega) hm0
 rw [hmod,qyQ (32-s) (by omega) ⟨hd0,hd1⟩ ⟨hb0,by omega⟩ _ rfl,Int.mul_comm (x1 % 2^s),qfH (by omega)]
 exact⟨rfl,by omega,by omega⟩
theorem qnr (q u n s:Nat) (hs:s≤31) (qs us:List Int) (du:Dg W us) (hul:us.length=u) (hnu:n+1≤u) (hu:u≤1000000000):
  ∀(d i:Nat) (rs:List Int),i+d=n→rs.length=n→Dg W rs→2^s*V W (rs.take i)+us[0]?.getD 0 % 2^s=V W (us.take i)+us[i]?.getD 0 % 2^s*W^i→
  ∃rs',(∀k m,d<m→qeG k m q n (s:Int) u (n:Int) (i:Int) qs rs us=some (q,n,qs,rs',us))∧rs'.length=n∧Dg W rs'∧2^s*V W rs'+us[0]?.getD 0 % 2^s=V W (us.take n)+us[n]?.getD 0 % 2^s*W^n:=by
 intro d
 induction d with
 | zero=>
  intro i rs hi hl hd e
  have:i=n:=by omega
  subst this
  rw [List.take_of_length_le (l:=rs) (by omega)] at e
  refine⟨rs,fun k m hm=> ?_,hl,hd,e⟩
  obtain⟨m,rfl⟩:∃q,m=q+1:=⟨m-1,by omega⟩
  show qe3 k (qeG k m) _ _ _ _ _ _ _ _ _=_
  unfold qe3
  simp -implicitDefEqProofs (maxSteps:=2000000) (disch:=omega) only [ps,↓reduceIte,reduceCtorEq,Int.reduceLT,Int.reduceLE,Int.reduceEq,Nat.reduceLT,Nat.reduceLeDiff,Nat.reduceEqDiff,Int.reduceNeg,qc]
 | succ d ih=>
  intro i rs hi hl hd e
  obtain⟨x,hx⟩:=qH (show i<us.length by omega)
  obtain⟨x1,hx1⟩:=qH (show i+1<us.length by omega)
  obtain⟨x4,hx4⟩:=qH (show i<rs.length by omega)
  have b1:=du.get hx
  have b2:=du.get hx1
  obtain⟨w1,w2,w3⟩:=qnq hs b1 b2
  obtain⟨word,hword⟩:∃w,x / 2^s+x1 % 2^s*2^(32-s)=w:=⟨_,rfl⟩
  rw [hword] at w1 w2 w3
  have hpq:(2:Int)^s*2^(32-s)=W:=by rw [←Int.pow_add,show s+(32-s)=32 by omega];rfl
  obtain⟨rs',q1,q2,q3,q4⟩:=ih (i+1) (rs.set i word) (by omega) (by simpa using hl) (hd.set i ⟨w2,w3⟩) (by
   rw [qlQ _ _ _ (by omega),qg5,List.length_take,Nat.min_eq_left (by omega),qdS hx,hx1,Option.getD_some,show W^(i+1)=W^i*W from Int.pow_succ ..,←hword]
   rw [hx,Option.getD_some] at e
   exact qn2 (u1:=0) (d1:=0) (by rw [Int.emod_add_mul_ediv]) hpq e)
  refine⟨rs',fun k m hm=> ?_,q2,q3,q4⟩
  obtain⟨m,rfl⟩:∃q,m=q+1:=⟨m-1,by omega⟩
  rw [←q1 k m (by omega)]
  have i2:((i:Int)+1)=((i+1:Nat):Int):=rfl
  have e1:min (Int.toNat ((s:Nat):Int)) 32=min s 32:=by omega
  have w4:IntKind.u64.wrap ((32:Int)-((s:Nat):Int))=((32-s:Nat):Int):=by rw [qbG (by omega)];omega
  have w5:IntKind.u64.wrap ((32:Int)-((s:Nat):Int))=(32:Int)-((s:Nat):Int):=qbG (by omega)
  unfold W at b1 b2
  rw [e1,w5,qbG (x:=x1) (by omega)] at w1
  rw [qfH (by omega)] at w1
  show qe3 k (qeG k m) _ _ _ _ _ _ _ _ _=_
  unfold qe3
  simp -implicitDefEqProofs (maxSteps:=2000000) (disch:=omega) only [ps,↓reduceIte,reduceCtorEq,Int.reduceLT,Int.reduceLE,Int.reduceEq,Nat.reduceLT,Nat.reduceLeDiff,Nat.reduceEqDiff,Int.reduceNeg,qc,i2,hx,hx1,hx4,w1]

theorem qjK:∀ {l:List Int} {n:Nat},Dg W l→V W l<W^n→n≤l.length→V W (l.take n)=V W l∧∀p x,n≤p→l[p]? =some x→x=0:=by
 intro l n d h hl
 have e:=qfe (B:=W) l n hl
 have h1:=qr (B:=W) (by decide) (d.take n)
 have h2:=qr (B:=W) (by decide) (d.drop n)
 have hp:(0:Int)<W^n:=Int.pow_pos (by decide)
 have hz:V W (l.drop n)=0:=by
  rcases(by omega:V W (l.drop n)=0∨1≤V W (l.drop n))with h0 | h0
  ·exact h0
  ·have:=Int.mul_le_mul_of_nonneg_left h0 (Int.le_of_lt hp)
   omega
 rw [hz,Int.mul_zero,Int.add_zero] at e
 refine⟨e.symm,fun p x hp hx=> ?_⟩
 have hx2:(l.drop n)[p-n]? =some x:=by rw [List.getElem?_drop,show n+(p-n)=p by omega];exact hx
 have key:∀(m:List Int),Dg W m→V W m=0→∀(i:Nat) (x:Int),m[i]? =some x→x=0:=by
  intro m
  induction m with
  | nil=>intro _ _ i x h;simp at h
  | cons y m ih=>
   intro dm hm i x h
   have hh:=dm.head
   have ht:=qr (B:=W) (by decide) dm.tail
   simp only [V] at hm
   unfold W at*
   cases i with
   | zero=>simp at h;omega
   | succ i=>exact ih dm.tail (by omega) i x (by simpa using h)
 exact key _ (d.drop n) hz _ _ hx2
theorem qlA {b:List Int} (cb:Cn W b) (h:1≤b.length):∃x,b[b.length-1]? =some x∧1≤x∧x<W∧V W b=V W (b.take (b.length-1))+W^(b.length-1)*x:=by
 rcases(Cn.last cb.1).1 cb.2 with e | ⟨m,x,rfl,hx⟩
 ·rw [e] at h;simp at h
 ·have h1:=cb.1 x (by simp)
  refine⟨x,by simp,by omega,h1.2,?_⟩
  simp [qg5]
set_option maxHeartbeats 1000000 in
theorem qpU (a b:List Int) (ca:Cn W a) (cb:Cn W b) (hb:2≤b.length) (hba:b.length≤a.length) (hla:a.length≤10000000):
  ∃q r,Rn (fun k=>qhR k a b) (q,r)∧Dg W q∧Dg W r∧V W b*V W q+V W r=V W a∧V W r<V W b∧q.length≤a.length∧r.length≤b.length:=by
 obtain⟨x,gx,hx1,hxW,hVb⟩:=qlA cb (by omega)
 obtain⟨s,hs,hs31,hs1,hs2⟩:=qrm a b (by omega) gx hx1 32 0 (by omega) (by unfold W at hxW;omega)
 obtain⟨us,hus,lus,dus,eus⟩:=qnn a s hs31 ca.1 (by omega)
 obtain⟨vs,hvs,lvs,dvs,evs⟩:=qnn b s hs31 cb.1 (by omega)
 have hS:(0:Int)<2^s:=Int.pow_pos (by decide)
 have hWp:(0:Int)<W^(b.length-1):=Int.pow_pos (by decide)
 have hWn:W^b.length=W^(b.length-1)*W:=by
  obtain⟨c,hc⟩:∃c,b.length=c+1:=⟨b.length-1,by omega⟩
  rw [hc]
  exact Int.pow_succ ..
 have lo0:=qr (B:=W) (by decide) (cb.1.take (b.length-1))
 have lo1:=qeL (B:=W) (by decide) (cb.1.take (b.length-1))
 rw [List.length_take,Nat.min_eq_left (by omega)] at lo1
 have hvlt:V W vs<W^b.length:=by
  rw [evs,hWn]
  have h1:V W b<W^(b.length-1)*(x+1):=by rw [Int.mul_add,Int.mul_one];omega
  have h2:(V W b)*2^s≤(W^(b.length-1)*(x+1)-1)*2^s:=Int.mul_le_mul_of_nonneg_right (by omega) (by omega)
  have hm:(x*2^s+2^s)≤W:=by
   have hpq:(2:Int)^s*2^(32-s)=W:=by rw [←Int.pow_add,show s+(32-s)=32 by omega];rfl
   have h4:2^s*x<2^s*2^(32-s):=by rw [hpq,Int.mul_comm];exact hs1
   have h5:=Int.lt_of_mul_lt_mul_left h4 (by omega)
   have h6:2^s*(x+1)≤2^s*2^(32-s):=Int.mul_le_mul_of_nonneg_left (by omega) (by omega)
   rw [hpq,Int.mul_add,Int.mul_one,Int.mul_comm] at h6
   exact h6
  have h3:W^(b.length-1)*(x*2^s+2^s)≤W^(b.length-1)*W:=Int.mul_le_mul_of_nonneg_left hm (by omega)
  have e1:(W^(b.length-1)*(x+1)-1)*2^s=W^(b.length-1)*(x*2^s+2^s)-2^s:=by grind
  omega
 obtain⟨hvt,hvz⟩:=qjK dvs hvlt (by omega)
 obtain⟨v1,g1⟩:=qH (show b.length-1<vs.length by omega)
 obtain⟨v2,g2⟩:=qH (show b.length-2<vs.length by omega)
 have bv1:=dvs.get g1
 have hv1:2147483648≤v1:=by
  have e1:=qdS (B:=W) g1
  rw [show b.length-1+1=b.length by omega,hvt,evs] at e1
  have t1:=qeL (B:=W) (by decide) (dvs.take (b.length-1))
  rw [List.length_take,Nat.min_eq_left (by omega)] at t1
  have h1:(W^(b.length-1)*x)*2^s≤V W b*2^s:=Int.mul_le_mul_of_nonneg_right (by omega) (by omega)
  have h2:W^(b.length-1)*(x*2^s)<W^(b.length-1)*(v1+1):=by
   rw [Int.mul_add,Int.mul_one,←Int.mul_assoc]
   omega
  have h3:=Int.lt_of_mul_lt_mul_left h2 (by omega)
  omega
 have hY0:0<V W b:=by
  have:W^(b.length-1)*1≤W^(b.length-1)*x:=Int.mul_le_mul_of_nonneg_left hx1 (by omega)
  omega
 have hulen:us.length=a.length+1:=lus
 obtain⟨m,hm⟩:∃m,m=a.length+1-b.length:=⟨_,rfl⟩
 have hm1:m+b.length=a.length+1:=by omega
 have hVbge:W^(b.length-1)≤V W b:=by
  have:W^(b.length-1)*1≤W^(b.length-1)*x:=Int.mul_le_mul_of_nonneg_left hx1 (by omega)
  omega
 have hult:V W us<V W (vs.take b.length)*W^m:=by
  rw [hvt,evs,eus]
  have h1:=qeL (B:=W) (by decide) ca.1
  have h2:W^(b.length-1)*W^m=W^a.length:=by rw [←Int.pow_add,show b.length-1+m=a.length by omega]
  have h3:W^(b.length-1)*W^m≤V W b*W^m:=Int.mul_le_mul_of_nonneg_right hVbge (Int.le_of_lt (Int.pow_pos (by decide)))
  have h4:V W a*2^s<V W b*W^m*2^s:=Int.mul_lt_mul_of_pos_right (by omega) hS
  have e1:V W b*W^m*2^s=V W b*2^s*W^m:=by grind
  omega
 obtain⟨qs,us',⟨K,hmain⟩,lq,lu,dq,du,hur,hA⟩:=qrl vs b.length (s:Int) hb (by omega) dvs g1 g2 hv1 m (a.length+1) (by omega) (V W a*2^s) m (List.replicate m 0) us (by omega) lus (by simp) (Nat.le_refl m) dus (Dg.rep _ (by decide)) hult (by
  rw [List.drop_of_length_le (by simp)];simp [V,eus])
 rw [hvt,evs] at hur hA
 have hlt2:V W us'<W^b.length:=by rw [evs] at hvlt;omega
 obtain⟨hut,huz⟩:=qjK du hlt2 (by omega)
 obtain⟨rs,hback,lr,dr,er⟩:=qnr m (a.length+1) b.length s hs31 qs us' du lu (by omega) (by omega) b.length 0 (List.replicate b.length 0) (by omega) (by simp) (Dg.rep _ (by decide)) (by simp [V])
 obtain⟨xt,hxt⟩:=qH (show b.length<us'.length by omega)
 obtain⟨xl,hxl⟩:=qH (show 0<us'.length by omega)
 have hxt0:=huz b.length xt (Nat.le_refl _) hxt
 rw [hxt,Option.getD_some,hxt0,Int.zero_emod,Int.zero_mul,Int.add_zero,hut,hxl,Option.getD_some] at er
 have hdvd:xl % 2^s=0:=by
  have hpq:(2:Int)^s*2^(32-s)=W:=by rw [←Int.pow_add,show s+(32-s)=32 by omega];rfl
  have e1:V W us'=xl+W*V W (us'.drop 1):=by
   have:=qb8 (B:=W) hxl
   simpa using this
  have e2:V W us'=2^s*(V W a-V W b*V W qs):=by
   rw [Int.mul_sub]
   have:V W b*2^s*V W qs=2^s*(V W b*V W qs):=by grind
   rw [Int.mul_comm (2^s) (V W a)]
   omega
  have e3:xl=2^s*(V W a-V W b*V W qs-2^(32-s)*V W (us'.drop 1)):=by
   rw [Int.mul_sub,←e2,←Int.mul_assoc,hpq];omega
  rw [e3];exact Int.mul_emod_right ..
 rw [hdvd,Int.add_zero] at er
 have hfin:V W b*V W qs+V W rs=V W a:=by
  have e1:2^s*(V W b*V W qs+V W rs)=2^s*V W a:=by
   rw [Int.mul_add,er,Int.mul_comm (2^s) (V W a),←hA]
   have:V W b*2^s*V W qs=2^s*(V W b*V W qs):=by grind
   omega
  exact Int.eq_of_mul_eq_mul_left (by omega) e1
 have hrb:V W rs<V W b:=by
  rw [←er,Int.mul_comm] at hur
  exact Int.lt_of_mul_lt_mul_right hur (by omega)
 refine⟨qs,rs,?_,dq,dr,hfin,hrb,by omega,by omega⟩
 obtain⟨K1,hus⟩:=hus
 obtain⟨K2,hvs⟩:=hvs
 refine Rn.up (f:=fun k=>qhR k a b) (Rn.eq (max K (max K1 K2)+a.length+40) fun k hk=> ?_)
 show qi3 k a b=_
 have c1:qeF k k a b 0=_:=hs k k (by omega)
 have c2:=hus k (by omega)
 have c3:=hvs k (by omega)
 have c4:=hmain k k (by omega) (by omega)
 have c5:qeG k k m b.length (s:Int) (a.length+1) (b.length:Int) 0 qs _ us'=_:=hback k k (by omega)
 have n1:(((a.length+1:Nat):Int)-(b.length:Int))=(m:Int):=by omega
 have n2:List.take m qs=qs:=List.take_of_length_le (by omega)
 have n3:List.take b.length rs=rs:=List.take_of_length_le (by omega)
 unfold qi3
 simp -implicitDefEqProofs (maxSteps:=2000000) (disch:=omega) only [ps,↓reduceIte,reduceCtorEq,Int.reduceLT,Int.reduceLE,Int.reduceEq,Nat.reduceLT,Nat.reduceLeDiff,Nat.reduceEqDiff,Int.reduceNeg,qc,c1,c2,c3,c4,c5,n1,n2,n3]

theorem qj8 {X Y Q R:Int} (h:Y*Q+R=X) (h0:0≤R) (h1:R<Y):Q=X / Y∧R=X % Y:=by
 subst h
 have hY:Y≠0:=by omega
 constructor
 ·rw [Int.add_comm,Int.add_mul_ediv_left _ _ hY,Int.ediv_eq_zero_of_lt h0 h1];omega
 ·rw [Int.add_comm,Int.add_mul_emod_self_left,Int.emod_eq_of_lt h0 h1]
theorem qu0 (sx sy:Bool) {X Y:Int} (hX:0≤X):(if sx then -X else X).tdiv (if sy then -Y else Y)=if(!(sx == sy))then -(X / Y)else X / Y:=by
 have h:X.tdiv Y=X / Y:=qc2 hX
 cases sx<;>cases sy<;>simp [Int.neg_tdiv,Int.tdiv_neg,h]
theorem qu1 (sx sy:Bool) {X Y:Int} (hX:0≤X):(if sx then -X else X).tmod (if sy then -Y else Y)=if sx then -(X % Y)else X % Y:=by
 have h:X.tmod Y=X % Y:=qc3 hX
 cases sx<;>cases sy<;>simp [Int.neg_tmod,Int.tmod_neg,h]
theorem qlB (a b:List Int) (ca:Cn W a) (cb:Cn W b) (hb:b≠ []) (hla:a.length≤10000000) (hlb:b.length≤10000000):
  ∃q r,Rn (fun k=>qdU k a b) (q,r)∧Dg W q∧Dg W r∧V W q=V W a / V W b∧V W r=V W a % V W b∧q.length≤a.length∧r.length≤a.length:=by
 have hc:=qrg a b (by omega) (by omega) ca cb
 have hb1:1≤b.length:=by
  cases b with
  | nil=>exact absurd rfl hb
  | cons _ _=>simp
 have pa:=qr (B:=W) (by decide) ca.1
 by_cases hlt:V W a<V W b
 ·have:=qj8 (X:=V W a) (Y:=V W b) (Q:=0) (R:=V W a) (by omega) pa hlt
  refine⟨[],a,Rn.up (f:=fun k=>qdU k a b) ?_,Dg.nil,ca.1,this.1,this.2,by simp,by omega⟩
  show Rn (fun k=>qdT k a b) _
  unfold qdT
  refine Rn.bind hc ?_
  rw [if_pos hlt]
  (first | (refine Rn.t ?hc ?_;case hc=>simp -implicitDefEqProofs (maxSteps:=2000000) (disch:=omega) only [ps,↓reduceIte,reduceCtorEq,Int.reduceLT,Int.reduceLE,Int.reduceEq,Nat.reduceLT,Nat.reduceLeDiff,Nat.reduceEqDiff,Int.reduceNeg,qc]) | (refine Rn.f ?hc ?_;case hc=>simp -implicitDefEqProofs (maxSteps:=2000000) (disch:=omega) only [ps,↓reduceIte,reduceCtorEq,Int.reduceLT,Int.reduceLE,Int.reduceEq,Nat.reduceLT,Nat.reduceLeDiff,Nat.reduceEqDiff,Int.reduceNeg,qc]))
  exact Rn.pure _
 ·have hge:b.length≤a.length:=by
   refine Nat.le_of_not_lt fun h=>hlt ?_
   exact Cn.len_lt (by decide) ca cb h
  have hcn:¬((if V W a<V W b then -1 else if V W a=V W b then 0 else 1:Int)<0):=by
   rw [if_neg hlt]
   by_cases h:V W a=V W b
   ·rw [if_pos h];decide
   ·rw [if_neg h];decide
  obtain⟨x,gx,hx1,hxW,hVb⟩:=qlA cb hb1
  by_cases h1:b.length=1
  ·have gx0:b[0]? =some x:=by rw [h1] at gx;exact gx
   have eb:V W b=x:=by rw [hVb,h1];simp [V]
   obtain⟨q,r,s1,s2,s3,s4,s5⟩:=qsZ a x (by omega) ca.1 ⟨by omega,hxW⟩
   rw [←eb] at s5
   have:=qj8 (X:=V W a) (Y:=V W b) (Q:=V W q) (R:=r) s5.symm s2.1 (by omega)
   refine⟨q,[r],Rn.up (f:=fun k=>qdU k a b) ?_,s4,Dg.cons ⟨s2.1,by omega⟩ Dg.nil,this.1,by simp [V,this.2],by omega,by simp;omega⟩
   show Rn (fun k=>qdT k a b) _
   unfold qdT
   refine Rn.bind hc ?_
   (first | (refine Rn.t ?hc ?_;case hc=>simp -implicitDefEqProofs (maxSteps:=2000000) (disch:=omega) only [ps,↓reduceIte,reduceCtorEq,Int.reduceLT,Int.reduceLE,Int.reduceEq,Nat.reduceLT,Nat.reduceLeDiff,Nat.reduceEqDiff,Int.reduceNeg,qc,hcn]) | (refine Rn.f ?hc ?_;case hc=>simp -implicitDefEqProofs (maxSteps:=2000000) (disch:=omega) only [ps,↓reduceIte,reduceCtorEq,Int.reduceLT,Int.reduceLE,Int.reduceEq,Nat.reduceLT,Nat.reduceLeDiff,Nat.reduceEqDiff,Int.reduceNeg,qc,hcn]))
   (first | (refine Rn.t ?hc ?_;case hc=>simp -implicitDefEqProofs (maxSteps:=2000000) (disch:=omega) only [ps,↓reduceIte,reduceCtorEq,Int.reduceLT,Int.reduceLE,Int.reduceEq,Nat.reduceLT,Nat.reduceLeDiff,Nat.reduceEqDiff,Int.reduceNeg,qc,h1,Int.natCast_one]) | (refine Rn.f ?hc ?_;case hc=>simp -implicitDefEqProofs (maxSteps:=2000000) (disch:=omega) only [ps,↓reduceIte,reduceCtorEq,Int.reduceLT,Int.reduceLE,Int.reduceEq,Nat.reduceLT,Nat.reduceLeDiff,Nat.reduceEqDiff,Int.reduceNeg,qc,h1,Int.natCast_one]))
   refine Rn.at gx0 ?_
   exact Rn.bind (Rn.eq _ s1) (Rn.pure _)
  ·obtain⟨q,r,s1,s2,s3,s4,s5,s6,s7⟩:=qpU a b ca cb (by omega) hge hla
   have p:=qr (B:=W) (by decide) s3
   have:=qj8 s4 p s5
   refine⟨q,r,Rn.up (f:=fun k=>qdU k a b) ?_,s2,s3,this.1,this.2,by omega,by omega⟩
   show Rn (fun k=>qdT k a b) _
   unfold qdT
   refine Rn.bind hc ?_
   (first | (refine Rn.t ?hc ?_;case hc=>simp -implicitDefEqProofs (maxSteps:=2000000) (disch:=omega) only [ps,↓reduceIte,reduceCtorEq,Int.reduceLT,Int.reduceLE,Int.reduceEq,Nat.reduceLT,Nat.reduceLeDiff,Nat.reduceEqDiff,Int.reduceNeg,qc,hcn]) | (refine Rn.f ?hc ?_;case hc=>simp -implicitDefEqProofs (maxSteps:=2000000) (disch:=omega) only [ps,↓reduceIte,reduceCtorEq,Int.reduceLT,Int.reduceLE,Int.reduceEq,Nat.reduceLT,Nat.reduceLeDiff,Nat.reduceEqDiff,Int.reduceNeg,qc,hcn]))
   (first | (refine Rn.t ?hc ?_;case hc=>simp -implicitDefEqProofs (maxSteps:=2000000) (disch:=omega) only [ps,↓reduceIte,reduceCtorEq,Int.reduceLT,Int.reduceLE,Int.reduceEq,Nat.reduceLT,Nat.reduceLeDiff,Nat.reduceEqDiff,Int.reduceNeg,qc]) | (refine Rn.f ?hc ?_;case hc=>simp -implicitDefEqProofs (maxSteps:=2000000) (disch:=omega) only [ps,↓reduceIte,reduceCtorEq,Int.reduceLT,Int.reduceLE,Int.reduceEq,Nat.reduceLT,Nat.reduceLeDiff,Nat.reduceEqDiff,Int.reduceNeg,qc]))
   exact Rn.bind s1 (Rn.pure _)
theorem qrn (z x0 y0 r0:Bool) (x1 y1:List Int) {x y:Int} (nx:Nm W x0 x1 x) (ny:Nm W y0 y1 y) (hx:x1.length≤10000000) (hy:y1.length≤10000000) (hy0:y1≠ []):
  ∃s q t r,Rn (fun k=>qdC k z x0 x1 y0 y1 r0) (s,q,x0,x1,y0,y1,t,r)∧Nm W s q (x.tdiv y)∧Nm W t r (x.tmod y)∧q.length≤x1.length∧r.length≤x1.length:=by
 obtain⟨q,r,h1,h2,h3,h4,h5,h6,h7⟩:=qlB x1 y1 nx.c ny.c hy0 hx hy
 have px:=qr (B:=W) (by decide) nx.c.1
 have e1:=qu0 x0 y0 (Y:=V W y1) px
 have e2:=qu1 x0 y0 (Y:=V W y1) px
 rw [nx.z,ny.z] at e1 e2
 refine⟨sgn (!(x0 == y0)) q,tl q,sgn x0 r,tl r,Rn.up (f:=fun k=>qdC k z x0 x1 y0 y1 r0) ?_,?_,?_,?_,?_⟩
 ·show Rn (fun k=>qeO k z x0 x1 y0 y1 r0) _
  unfold qeO
  exact Rn.bind h1 (Rn.bind (qjy x0 r0 r (by omega)) (Rn.bind (qjy (!(x0 == y0)) z q (by omega)) (Rn.pure _)))
 ·rw [e1];exact qkM h2 h4
 ·rw [e2];exact qkM h3 h5
 ·have:=qcx q;omega
 ·have:=qcx r;omega
theorem qs4 (m0 m01:Bool) (m1 m11:List Int) (M:Nat) (hM:M≤10000000):∀(N:Nat) (a b:List Int),V W b≤N→Cn W a→Cn W b→a.length≤M→b.length≤M→
  ∃l,(∃K,∀k n,K≤k→N<n→qd9 k n a b m0 m1 m01 m11=some (l,m0,m1,m01,m11))∧Cn W l∧V W l=Int.gcd (V W a) (V W b)∧l.length≤M:=by
 intro N
 induction N using Nat.strongRecOn with
 | ind N ih=>
  intro a b hN ca cb ha hb
  have pa:=qr (B:=W) (by decide) ca.1
  by_cases h0:b= []
  ·subst h0
   refine⟨a,⟨0,fun k n _ hn=> ?_⟩,ca,by simp [V];omega,ha⟩
   obtain⟨n,rfl⟩:∃m,n=m+1:=⟨n-1,by omega⟩
   show qdL k (qd9 k n) _ _ _ _ _ _=_
   unfold qdL
   simp -implicitDefEqProofs (maxSteps:=2000000) (disch:=omega) only [ps,↓reduceIte,reduceCtorEq,Int.reduceLT,Int.reduceLE,Int.reduceEq,Nat.reduceLT,Nat.reduceLeDiff,Nat.reduceEqDiff,Int.reduceNeg,qc]
  ·have pb:0<V W b:=by
    have p:=qr (B:=W) (by decide) cb.1
    have:=mt (cb.nil_iff (B:=W) (by decide)).2 h0
    omega
   obtain⟨q,r,⟨K1,h1⟩,h2,h3,h4,h5,h6,h7⟩:=qlB a b ca cb h0 (by omega) (by omega)
   have hr0:=Int.emod_nonneg (V W a) (show V W b≠0 by omega)
   have hr1:=Int.emod_lt_of_pos (V W a) pb
   obtain⟨R,hR⟩:=Int.eq_ofNat_of_zero_le hr0
   have hcr:Cn W (tl r):=Cn.of h3
   have hvr:V W (tl r)=R:=by rw [qha,h5,hR]
   obtain⟨l,⟨K2,i1⟩,i2,i3,i4⟩:=ih R (by omega) b (tl r) (by omega) cb hcr hb (by have:=qcx r;omega)
   obtain⟨K3,h8⟩:=qie r (by omega)
   refine⟨l,⟨max K1 (max K2 K3),fun k n hk hn=> ?_⟩,i2,?_,i4⟩
   ·obtain⟨n,rfl⟩:∃m,n=m+1:=⟨n-1,by omega⟩
    rw [←i1 k n (by omega) (by omega)]
    have c1:=h1 k (by omega)
    have c2:=h8 k (by omega)
    have lb:0<b.length:=by
     cases b with
     | nil=>exact absurd rfl h0
     | cons _ _=>simp
    show qdL k (qd9 k n) _ _ _ _ _ _=_
    unfold qdL
    simp -implicitDefEqProofs (maxSteps:=2000000) (disch:=omega) only [ps,↓reduceIte,reduceCtorEq,Int.reduceLT,Int.reduceLE,Int.reduceEq,Nat.reduceLT,Nat.reduceLeDiff,Nat.reduceEqDiff,Int.reduceNeg,qc,c1,c2,List.take_length]
   ·rw [i3,hvr,←hR]
    obtain⟨A,hA⟩:=Int.eq_ofNat_of_zero_le pa
    obtain⟨B,hB⟩:=Int.eq_ofNat_of_zero_le (Int.le_of_lt pb)
    rw [hA,hB]
    show(((Int.gcd (B:Int) ((A % B:Nat):Int)):Nat):Int)=_
    rw [Int.gcd_natCast_natCast,Int.gcd_natCast_natCast,Nat.gcd_comm,←Nat.gcd_rec,Nat.gcd_comm]
theorem qyT (x0 y0:Bool) (x1 y1:List Int) {x y:Int} (nx:Nm W x0 x1 x) (ny:Nm W y0 y1 y) (hx:x1.length≤10000000) (hy:y1.length≤10000000):
  ∃l,Rn (fun k=>qgB k x0 x1 y0 y1) (x0,x1,y0,y1,false,l)∧Nm W false l (Int.gcd x y)∧l.length≤max x1.length y1.length:=by
 obtain⟨N,hN⟩:=Int.eq_ofNat_of_zero_le (qr (B:=W) (by decide) ny.c.1)
 obtain⟨l,⟨K,h1⟩,h2,h3,h4⟩:=qs4 x0 y0 x1 y1 (max x1.length y1.length) (by omega) N x1 y1 (by omega) nx.c ny.c (by omega) (by omega)
 have e:(Int.gcd (V W x1) (V W y1):Int)=Int.gcd x y:=by
  have e1:=nx.z
  have e2:=ny.z
  rw [←e1,←e2]
  cases x0<;>cases y0<;>simp
 refine⟨l,Rn.up (f:=fun k=>qgB k x0 x1 y0 y1) ?_,?_,h4⟩
 ·show Rn (fun k=>qhD k x0 x1 y0 y1) _
  unfold qhD
  have h5:=qjy false false l (by omega)
  rw [h2.2] at h5
  exact Rn.bind (x:=(l,x0,x1,y0,y1)) (Rn.eq (K+N+1) fun k hk=>h1 k k (by omega) (by omega)) (Rn.bind h5 (Rn.pure _))
 ·rw [←e,←h3]
  exact⟨h2,fun h=>(by cases h),rfl⟩
section
variable {a0 b0 : Bool} {a1 b1 : List Int} (la : a1.length ≤ 9223372036854775807) (lb : b1.length ≤ 9223372036854775807) (da : Dg W a1) (db : Dg W b1)
include la lb da db
end
end Go.Proofs.YtlnailgfialgnaaGreatDoor.Am
set_option linter.unusedSectionVars false
namespace Go.Proofs.YtlnailgfialgnaaGreatDoor.Am
open Go

def Fr (n0:Bool) (n1:List Int) (d0:Bool) (d1:List Int) (q:Rat):Prop:=Nm W n0 n1 q.num∧Nm W d0 d1 (q.den:Int)
theorem Fr.cast {n0:Bool} {n1:List Int} {d0:Bool} {d1:List Int} {q q':Rat} (h:Fr n0 n1 d0 d1 q) (e:q=q'):Fr n0 n1 d0 d1 q':=e▸h
theorem Rat.den_pos' (q:Rat):(0:Int)<q.den:=by have:=q.den_nz;omega
theorem Fr.d0 {n0:Bool} {n1:List Int} {d0:Bool} {d1:List Int} {q:Rat} (h:Fr n0 n1 d0 d1 q):d0=false:=by
 rw [h.2.neg (by decide)]
 have:=Rat.den_pos' q
 simp
theorem Fr.ne {n0:Bool} {n1:List Int} {d0:Bool} {d1:List Int} {q:Rat} (h:Fr n0 n1 d0 d1 q):d1≠ []:=by
 intro e
 have h1:=h.2.abs (by decide)
 have:=Rat.den_pos' q
 rw [e] at h1
 simp only [V] at h1
 omega
theorem Fr.ext {n0 n0':Bool} {n1 n1':List Int} {d0 d0':Bool} {d1 d1':List Int} {q:Rat} (h:Fr n0 n1 d0 d1 q) (h':Fr n0' n1' d0' d1' q):n0=n0'∧n1=n1'∧d0=d0'∧d1=d1':=by
 obtain⟨e1,e2⟩:=Nm.ext (B:=W) (by decide) h.1 h'.1
 obtain⟨e3,e4⟩:=Nm.ext (B:=W) (by decide) h.2 h'.2
 exact⟨e1,e2,e3,e4⟩
theorem Fr.inj {n0:Bool} {n1:List Int} {d0:Bool} {d1:List Int} {q q':Rat} (h:Fr n0 n1 d0 d1 q) (h':Fr n0 n1 d0 d1 q'):q=q':=by
 have a:=h.1.z.symm.trans h'.1.z
 have b:=h.2.z.symm.trans h'.2.z
 exact Rat.ext a (by omega)
theorem qoG {a0:Bool} {a1:List Int} {x:Int} (h:Nm W a0 a1 x):sgn a0 a1=a0∧tl a1=a1:=by
 have e:=h.c.2
 refine⟨?_,e⟩
 unfold sgn
 rw [e]
 cases a0
 ·rfl
 ·have:=h.sg rfl
  cases a1 with
  | nil=>exact absurd rfl this
  | cons _ _=>simp
theorem qAx {a0:Bool} {a1:List Int} {x:Int} (h:Nm W a0 a1 x) (hl:a1.length≤1000000000):Rn (fun k=>qib k a0 a1) (a0,a1):=by
 have:=qAv a0 a1 hl
 rwa [(qoG h).1,(qoG h).2] at this
theorem qkN (z x0 y0:Bool) (x1 y1:List Int) {x y:Int} (nx:Nm W x0 x1 x) (ny:Nm W y0 y1 y) (hx:x1.length≤10000000) (hy:y1.length≤10000000) (hy0:y≠0):
  ∃s q,Rn (fun k=>qb3 k z x0 x1 y0 y1) (s,q,x0,x1,y0,y1)∧Nm W s q (x.tdiv y)∧q.length≤x1.length:=by
 have hn:y1≠ []:=by
  intro e
  rw [e] at ny
  have:=ny.z
  cases y0<;>simp [V] at this<;>omega
 obtain⟨s,q,t,r,h1,h2,h3,h4,h5⟩:=qrn z x0 y0 false x1 y1 nx ny hx hy hn
 exact⟨s,q,Rn.up (f:=fun k=>qb3 k z x0 x1 y0 y1) (Rn.bind h1 (Rn.pure _)),h2,h4⟩
theorem qns (x:Int) {y:Int} (h:y≠0):(Rat.divInt x y).num=x.tdiv (if y<0 then -(Int.gcd x y:Int)else(Int.gcd x y:Int)):=by
 have hd:=Int.gcd_dvd_left x y
 rw [Rat.num_divInt,Int.gcd_comm y x]
 by_cases hy:y<0
 ·rw [if_pos hy,Int.sign_eq_neg_one_of_neg hy,Int.tdiv_neg,Int.tdiv_eq_ediv_of_dvd hd,Int.neg_one_mul,Int.neg_ediv_of_dvd hd]
 ·rw [if_neg hy,Int.sign_eq_one_of_pos (by omega),Int.tdiv_eq_ediv_of_dvd hd,Int.one_mul]
theorem qnt (x:Int) {y:Int} (h:y≠0):((Rat.divInt x y).den:Int)=y.tdiv (if y<0 then -(Int.gcd x y:Int)else(Int.gcd x y:Int)):=by
 have hd:=Int.gcd_dvd_right x y
 rw [Rat.den_divInt,if_neg h,Int.gcd_comm y x,Int.natCast_ediv]
 by_cases hy:y<0
 ·rw [if_pos hy,Int.tdiv_neg,Int.tdiv_eq_ediv_of_dvd hd,←Int.neg_ediv_of_dvd hd]
  congr 1;omega
 ·rw [if_neg hy,Int.tdiv_eq_ediv_of_dvd hd]
  congr 1;omega
theorem qu2 (z0 z1 n0 d0:Bool) (n1 d1:List Int) {x y:Int} (nx:Nm W n0 n1 x) (ny:Nm W d0 d1 y) (hx:n1.length≤1000000) (hy:d1.length≤1000000) (hy0:y≠0):
  ∃s p t r,Rn (fun k=>qc8 k z0 z1 n0 n1 d0 d1) (s,p,t,r,n0,n1,d0,d1)∧Fr s p t r (Rat.divInt x y)∧p.length≤n1.length∧r.length≤d1.length:=by
 obtain⟨g,g1,g2,g3⟩:=qyT n0 d0 n1 d1 nx ny (by omega) (by omega)
 have hg:(0:Int)<Int.gcd x y:=by
  have:=Int.gcd_pos_of_ne_zero_right x hy0
  omega
 have hd:=ny.neg (B:=W) (by decide)
 have hgn:g≠ []:=by
  intro e
  rw [e] at g2
  have:=g2.z
  simp [V] at this
  omega
 have ex:=qns x hy0
 have ey:=qnt x hy0
 cases d0
 ·have hyp:¬y<0:=by simpa using hd
  rw [if_neg hyp] at ex ey
  obtain⟨s,p,a1,a2,a3⟩:=qkN false n0 false n1 g nx g2 (by omega) (by omega) (by omega)
  obtain⟨t,r,b1,b2,b3⟩:=qkN false false false d1 g ny g2 (by omega) (by omega) (by omega)
  rw [←ex] at a2
  rw [←ey] at b2
  refine⟨s,p,t,r,Rn.up (f:=fun k=>qc8 k z0 z1 n0 n1 false d1) ?_,⟨a2,b2⟩,a3,b3⟩
  show Rn (fun k=>qc7 k z0 z1 n0 n1 false d1) _
  unfold qc7
  refine Rn.bind g1 ?_
  (first | (refine Rn.t ?hc ?_;case hc=>simp -implicitDefEqProofs (maxSteps:=2000000) (disch:=omega) only [ps,↓reduceIte,reduceCtorEq,Int.reduceLT,Int.reduceLE,Int.reduceEq,Nat.reduceLT,Nat.reduceLeDiff,Nat.reduceEqDiff,Int.reduceNeg,qc]) | (refine Rn.f ?hc ?_;case hc=>simp -implicitDefEqProofs (maxSteps:=2000000) (disch:=omega) only [ps,↓reduceIte,reduceCtorEq,Int.reduceLT,Int.reduceLE,Int.reduceEq,Nat.reduceLT,Nat.reduceLeDiff,Nat.reduceEqDiff,Int.reduceNeg,qc]))
  exact Rn.bind a1 (Rn.bind b1 (Rn.pure _))
 ·have hyp:y<0:=by simpa using hd
  rw [if_pos hyp] at ex ey
  have g2':Nm W true g (-(Int.gcd x y:Int)):=⟨g2.c,fun _=>hgn,by have:=g2.z;simp at this ⊢;omega⟩
  obtain⟨s,p,a1,a2,a3⟩:=qkN false n0 true n1 g nx g2' (by omega) (by omega) (by omega)
  obtain⟨t,r,b1,b2,b3⟩:=qkN false true true d1 g ny g2' (by omega) (by omega) (by omega)
  rw [←ex] at a2
  rw [←ey] at b2
  refine⟨s,p,t,r,Rn.up (f:=fun k=>qc8 k z0 z1 n0 n1 true d1) ?_,⟨a2,b2⟩,a3,b3⟩
  show Rn (fun k=>qc7 k z0 z1 n0 n1 true d1) _
  unfold qc7
  refine Rn.bind g1 ?_
  (first | (refine Rn.t ?hc ?_;case hc=>simp -implicitDefEqProofs (maxSteps:=2000000) (disch:=omega) only [ps,↓reduceIte,reduceCtorEq,Int.reduceLT,Int.reduceLE,Int.reduceEq,Nat.reduceLT,Nat.reduceLeDiff,Nat.reduceEqDiff,Int.reduceNeg,qc]) | (refine Rn.f ?hc ?_;case hc=>simp -implicitDefEqProofs (maxSteps:=2000000) (disch:=omega) only [ps,↓reduceIte,reduceCtorEq,Int.reduceLT,Int.reduceLE,Int.reduceEq,Nat.reduceLT,Nat.reduceLeDiff,Nat.reduceEqDiff,Int.reduceNeg,qc]))
  exact Rn.bind a1 (Rn.bind b1 (Rn.pure _))
theorem qoH (n0 d0:Bool) (n1 d1:List Int) {x y:Int} (nx:Nm W n0 n1 x) (ny:Nm W d0 d1 y) (hx:n1.length≤1000000) (hy:d1.length≤1000000) (hy0:y≠0):
  ∃s p t r,Rn (fun k=>qeB k n0 n1 d0 d1) (n0,n1,d0,d1,s,p,t,r)∧Fr s p t r (Rat.divInt x y)∧p.length≤n1.length∧r.length≤d1.length:=by
 obtain⟨s,p,t,r,h1,h2⟩:=qu2 false false n0 d0 n1 d1 nx ny hx hy hy0
 exact⟨s,p,t,r,Rn.up (f:=fun k=>qeB k n0 n1 d0 d1) (Rn.bind h1 (Rn.pure _)),h2⟩
section
variable {z0 z2 : Bool} {z1 z3 : List Int} {q : Rat} (h : Fr z0 z1 z2 z3 q) (h1 : z1.length ≤ 1000000) (h3 : z3.length ≤ 1000000)
include h h1 h3
theorem qnu:Rn (fun k=>qcQ k z0 z1 z2 z3) (z0,z1,z2,z3,z2,z3):=by
 refine Rn.up (f:=fun k=>qcQ k z0 z1 z2 z3) ?_
 show Rn (fun k=>qe4 k z0 z1 z2 z3) _
 unfold qe4
 have hn:=h.ne
 have hd:=h.d0
 subst hd
 have:0<z3.length:=by
  cases z3 with
  | nil=>exact absurd rfl hn
  | cons _ _=>simp
 (first | (refine Rn.t ?hc ?_;case hc=>simp -implicitDefEqProofs (maxSteps:=2000000) (disch:=omega) only [ps,↓reduceIte,reduceCtorEq,Int.reduceLT,Int.reduceLE,Int.reduceEq,Nat.reduceLT,Nat.reduceLeDiff,Nat.reduceEqDiff,Int.reduceNeg,qc]) | (refine Rn.f ?hc ?_;case hc=>simp -implicitDefEqProofs (maxSteps:=2000000) (disch:=omega) only [ps,↓reduceIte,reduceCtorEq,Int.reduceLT,Int.reduceLE,Int.reduceEq,Nat.reduceLT,Nat.reduceLeDiff,Nat.reduceEqDiff,Int.reduceNeg,qc]))
 exact Rn.bind (qAx h.2 (by omega)) (Rn.pure _)
end

def qj9 (a b:Rat):Int:=qe9 (a.num*b.den) (b.num*a.den)
theorem qpV (a b:Rat):∃c,qj9 a b=c∧(c= -1∧a<b∨c=0∧a=b∨c=1∧b<a):=by
 obtain⟨c,h1,h2⟩:=qfl (a.num*b.den) (b.num*a.den)
 refine⟨c,h1,?_⟩
 rcases h2 with ⟨h,h2⟩ | ⟨h,h2⟩ | ⟨h,h2⟩
 ·exact .inl ⟨h,(Rat.lt_iff a b).2 h2⟩
 ·refine .inr (.inl ⟨h,?_⟩)
  have hx:=Rat.den_pos' a
  have hy:=Rat.den_pos' b
  rw [←Rat.num_divInt_den a,←Rat.num_divInt_den b,Rat.divInt_eq_divInt_iff (by omega) (by omega)]
  exact h2
 ·exact .inr (.inr ⟨h,(Rat.lt_iff b a).2 h2⟩)
section
variable {x0 x2 y0 y2 : Bool} {x1 x3 y1 y3 : List Int} {x y : Rat} (hx : Fr x0 x1 x2 x3 x) (hy : Fr y0 y1 y2 y3 y) (l1 : x1.length ≤ 100000) (l3 : x3.length ≤ 100000) (m1 : y1.length ≤ 100000) (m3 : y3.length ≤ 100000)
include hx hy l1 l3 m1 m3
theorem qu3:Rn (fun k=>qem k x0 x1 x2 x3 y0 y1 y2 y3) (qj9 x y,x0,x1,x2,x3,y0,y1,y2,y3):=by
 have dX:=qnu hx (by omega) (by omega)
 have dY:=qnu hy (by omega) (by omega)
 obtain⟨s1,p1,a1,a2,a3⟩:=qoE false x0 y2 x2 x1 y3 x3 hx.1 hy.2 (by omega) (by omega)
 obtain⟨s2,p2,b1,b2,b3⟩:=qoE false y0 x2 y2 y1 x3 y3 hy.1 hx.2 (by omega) (by omega)
 refine Rn.up (f:=fun k=>qem k x0 x1 x2 x3 y0 y1 y2 y3) ?_
 have cE:=qyP s1 s2 p1 p2 a2 b2 (by omega) (by omega)
 exact Rn.bind dY (Rn.bind a1 (Rn.bind dX (Rn.bind b1 (Rn.bind cE (Rn.pure _)))))
end

abbrev U:Int:=65536
theorem qBi (i:Nat):(0:Int)<U^i:=Int.pow_pos (by decide)
theorem qh5 {B:Int} (l:List Int) (i:Nat):V B (l.take (i+1))=V B (l.take i)+B^i*(l[i]?.getD 0):=by
 by_cases h:i<l.length
 ·obtain⟨x,hx⟩:=qH h
  rw [qdS hx,hx];rfl
 ·rw [List.take_of_length_le (by omega),List.take_of_length_le (by omega),List.getElem?_eq_none (by omega)];simp
theorem Dg.getD {B:Int} (hB:0<B) {l:List Int} (h:Dg B l) (i:Nat):0≤l[i]?.getD 0∧l[i]?.getD 0<B:=by
 cases e:l[i]? with
 | none=>simp [hB]
 | some x=>exact h.get e

theorem qiK (k:Nat) (ds:List Int) (hl:ds.length≤10000000000):∀(i n d:Nat),i≤d→d≤ds.length→i<n→qbZ k n d i ds=some (d,((tl (ds.take i)).length:Int),ds):=by
 intro i
 induction i with
 | zero=>
  intro n d hi hd hn
  obtain⟨n,rfl⟩:∃m,n=m+1:=⟨n-1,by omega⟩
  show qbN k (qbZ k n) _ _ _=_
  unfold qbN
  simp -implicitDefEqProofs (maxSteps:=2000000) (disch:=omega) only [ps,↓reduceIte,reduceCtorEq,Int.reduceLT,Int.reduceLE,Int.reduceEq,Nat.reduceLT,Nat.reduceLeDiff,Nat.reduceEqDiff,Int.reduceNeg,qc]
  rfl
 | succ i ih=>
  intro n d hi hd hn
  obtain⟨n,rfl⟩:∃m,n=m+1:=⟨n-1,by omega⟩
  show qbN k (qbZ k n) _ _ _=_
  unfold qbN
  obtain⟨x,hx⟩:=qH (show i<ds.length by omega)
  have h1:(((i+1:Nat):Int)-1)=(i:Int):=by omega
  have ht:ds.take (i+1)=ds.take i++ [x]:=by rw [List.take_add_one,hx];rfl
  simp -implicitDefEqProofs (maxSteps:=2000000) (disch:=omega) only [ps,↓reduceIte,reduceCtorEq,Int.reduceLT,Int.reduceLE,Int.reduceEq,Nat.reduceLT,Nat.reduceLeDiff,Nat.reduceEqDiff,Int.reduceNeg,qc,h1,hx]
  by_cases h:x=0
  ·simp -implicitDefEqProofs (maxSteps:=2000000) (disch:=omega) only [ps,↓reduceIte,reduceCtorEq,Int.reduceLT,Int.reduceLE,Int.reduceEq,Nat.reduceLT,Nat.reduceLeDiff,Nat.reduceEqDiff,Int.reduceNeg,qc,h]
   rw [ih n d (by omega) hd (by omega),ht,qh8,if_pos h]
  ·simp -implicitDefEqProofs (maxSteps:=2000000) (disch:=omega) only [ps,↓reduceIte,reduceCtorEq,Int.reduceLT,Int.reduceLE,Int.reduceEq,Nat.reduceLT,Nat.reduceLeDiff,Nat.reduceEqDiff,Int.reduceNeg,qc,h]
   rw [ht,qh8,if_neg h]
   simp
   omega
theorem qs5 (d:Nat) (ds:List Int) (hd:d≤ds.length) (hl:ds.length≤10000000000):Rn (fun k=>qF k d ds) ((tl (ds.take d)).length,ds):=by
 refine Rn.eq (d+2) fun k hk=> ?_
 obtain⟨k,rfl⟩:∃m,k=m+1:=⟨k-1,by omega⟩
 show qaQ k d ds=_
 unfold qaQ
 have:=qcx (ds.take d)
 rw [List.length_take] at this
 rw [qiK k ds hl d k d (Nat.le_refl _) hd (by omega)]
 simp -implicitDefEqProofs (maxSteps:=2000000) (disch:=omega) only [ps,↓reduceIte,reduceCtorEq,Int.reduceLT,Int.reduceLE,Int.reduceEq,Nat.reduceLT,Nat.reduceLeDiff,Nat.reduceEqDiff,Int.reduceNeg,qc]
theorem qro (k:Nat) (a b:List Int) (hla:a.length≤1000000000) (hlb:b.length≤1000000000) (ha:Dg U a) (hb:Dg U b):
  ∀(d i n:Nat) (carry:Int) (ds:List Int),i+d=max a.length b.length+1→d<n→0≤carry∧carry≤1→(d=0→carry=0)→ds.length=i→Dg U ds→
  V U ds+carry*U^i=V U (a.take i)+V U (b.take i)→
  ∃ds',qaN k n a b i carry i ds=some (ds'.length,ds')∧Dg U ds'∧ds'.length≤max a.length b.length+1∧V U ds'=V U a+V U b:=by
 intro d
 induction d with
 | zero=>
  intro i n carry ds hi hn hc h0 hl hd e
  obtain⟨n,rfl⟩:∃m,n=m+1:=⟨n-1,by omega⟩
  have hc0:=h0 rfl
  subst hc0
  refine⟨ds,?_,hd,by omega,?_⟩
  ·show qbh k (qaN k n) _ _ _ _ _ _=_
   unfold qbh
   simp -implicitDefEqProofs (maxSteps:=2000000) (disch:=omega) only [ps,↓reduceIte,reduceCtorEq,Int.reduceLT,Int.reduceLE,Int.reduceEq,Nat.reduceLT,Nat.reduceLeDiff,Nat.reduceEqDiff,Int.reduceNeg,qc]
   rw [hl]
  ·rw [List.take_of_length_le (by omega),List.take_of_length_le (by omega)] at e
   simpa using e
 | succ d ih=>
  intro i n carry ds hi hn hc h0 hl hd e
  obtain⟨n,rfl⟩:∃m,n=m+1:=⟨n-1,by omega⟩
  have ta:=qh5 (B:=U) a i
  have tb:=qh5 (B:=U) b i
  have ba:=ha.getD (by decide) i
  have bb:=hb.getD (by decide) i
  have h1:((i:Int)+1)=((i+1:Nat):Int):=rfl
  have ht:ds.take i=ds:=List.take_of_length_le (by omega)
  generalize hx:a[i]?.getD 0=x at ta ba
  generalize hy:b[i]?.getD 0=y at tb bb
  have key:∃ds',qaN k n a b (i+1) ((carry+x+y) / U) ((i+1:Nat):Int) (ds++ [(carry+x+y) % U])=some (ds'.length,ds')∧Dg U ds'∧ds'.length≤max a.length b.length+1∧V U ds'=V U a+V U b:=by
   have hdm:=Int.emod_add_mul_ediv (carry+x+y) U
   unfold U at ba bb
   refine ih (i+1) n _ _ (by omega) (by omega) (by unfold U;omega) (fun hd0=> ?_) (by simp [hl]) (hd.snoc (by unfold U;omega)) ?_
   ·-- behind both, the carry alone is left
    have x0:x=0:=by rw [←hx,List.getElem?_eq_none (by omega)];rfl
    have y0:y=0:=by rw [←hy,List.getElem?_eq_none (by omega)];rfl
    subst x0;subst y0
    unfold U;omega
   ·rw [qg5,hl,ta,tb,Int.pow_succ]
    grind
  unfold U at ba bb
  by_cases hst:i<a.length∨i<b.length∨0<carry
  ·obtain⟨ds',q1,q2⟩:=key
   refine⟨ds',?_,q2⟩
   rw [←q1]
   show qbh k (qaN k n) _ _ _ _ _ _=_
   unfold qbh
   have hlen:(List.take 1 [(carry+x+y) % U]).length=1:=rfl
   by_cases h2:i<a.length
   ·have hx':a[i]? =some x:=by obtain⟨z,hz⟩:=qH h2;rw [hz] at hx ⊢;simpa using hx
    by_cases h3:i<b.length
    ·have hy':b[i]? =some y:=by obtain⟨z,hz⟩:=qH h3;rw [hz] at hy ⊢;simpa using hy
     simp -implicitDefEqProofs (maxSteps:=2000000) (disch:=omega) only [ps,↓reduceIte,reduceCtorEq,Int.reduceLT,Int.reduceLE,Int.reduceEq,Nat.reduceLT,Nat.reduceLeDiff,Nat.reduceEqDiff,Int.reduceNeg,qc,hx',hy',h1,hl,ht,List.take_succ_cons,List.length_cons,qc2,qc3]
    ·have hy':y=0:=by rw [←hy,List.getElem?_eq_none (by omega)];rfl
     subst hy'
     simp -implicitDefEqProofs (maxSteps:=2000000) (disch:=omega) only [ps,↓reduceIte,reduceCtorEq,Int.reduceLT,Int.reduceLE,Int.reduceEq,Nat.reduceLT,Nat.reduceLeDiff,Nat.reduceEqDiff,Int.reduceNeg,qc,hx',h1,hl,ht,List.take_succ_cons,List.length_cons,qc2,qc3,Int.add_zero]
   ·have hx':x=0:=by rw [←hx,List.getElem?_eq_none (by omega)];rfl
    subst hx'
    by_cases h3:i<b.length
    ·have hy':b[i]? =some y:=by obtain⟨z,hz⟩:=qH h3;rw [hz] at hy ⊢;simpa using hy
     simp -implicitDefEqProofs (maxSteps:=2000000) (disch:=omega) only [ps,↓reduceIte,reduceCtorEq,Int.reduceLT,Int.reduceLE,Int.reduceEq,Nat.reduceLT,Nat.reduceLeDiff,Nat.reduceEqDiff,Int.reduceNeg,qc,hy',h1,hl,ht,List.take_succ_cons,List.length_cons,qc2,qc3,Int.add_zero]
    ·have hy':y=0:=by rw [←hy,List.getElem?_eq_none (by omega)];rfl
     subst hy'
     simp -implicitDefEqProofs (maxSteps:=2000000) (disch:=omega) only [ps,↓reduceIte,reduceCtorEq,Int.reduceLT,Int.reduceLE,Int.reduceEq,Nat.reduceLT,Nat.reduceLeDiff,Nat.reduceEqDiff,Int.reduceNeg,qc,h1,hl,ht,List.take_succ_cons,List.length_cons,qc2,qc3,Int.add_zero]
  ·have hc0:carry=0:=by omega
   subst hc0
   refine⟨ds,?_,hd,by omega,?_⟩
   ·show qbh k (qaN k n) _ _ _ _ _ _=_
    unfold qbh
    simp -implicitDefEqProofs (maxSteps:=2000000) (disch:=omega) only [ps,↓reduceIte,reduceCtorEq,Int.reduceLT,Int.reduceLE,Int.reduceEq,Nat.reduceLT,Nat.reduceLeDiff,Nat.reduceEqDiff,Int.reduceNeg,qc]
    rw [hl]
   ·rw [List.take_of_length_le (by omega),List.take_of_length_le (by omega)] at e
    simpa using e
theorem Cn.uniq {B:Int} (hB:0<B) {f:Nat→Option (List Int)} {v:Int} {L:Nat} (K:Nat) (h:∀k,K≤k→∃l,f k=some l∧Cn B l∧V B l=v∧l.length≤L):∃l,Rn f l∧Cn B l∧V B l=v∧l.length≤L:=by
 obtain⟨l,h1,h2,h3,h4⟩:=h K (Nat.le_refl _)
 refine⟨l,⟨K,fun k hk=> ?_⟩,h2,h3,h4⟩
 obtain⟨m,q1,q2,q3,q4⟩:=h k hk
 rw [q1,Cn.ext hB q2 h2 (by rw [q3,h3])]
theorem qu4 (a b:List Int) (hla:a.length≤1000000000) (hlb:b.length≤1000000000) (ha:Dg U a) (hb:Dg U b):
  ∃l,Rn (fun k=>qdv k a b) l∧Cn U l∧V U l=V U a+V U b∧l.length≤max a.length b.length+1:=by
 obtain⟨K,hK⟩:∃K,∀(ds:List Int),ds.length≤max a.length b.length+1→∀k,K≤k→qF k ds.length ds=some ((tl ds).length,ds):=by
  refine⟨max a.length b.length+4,fun ds hds k hk=> ?_⟩
  obtain⟨k,rfl⟩:∃m,k=m+1:=⟨k-1,by omega⟩
  show qaQ k ds.length ds=_
  unfold qaQ
  have:=qcx ds
  rw [qiK k ds (by omega) ds.length k ds.length (Nat.le_refl _) (Nat.le_refl _) (by omega),List.take_length]
  simp -implicitDefEqProofs (maxSteps:=2000000) (disch:=omega) only [ps,↓reduceIte,reduceCtorEq,Int.reduceLT,Int.reduceLE,Int.reduceEq,Nat.reduceLT,Nat.reduceLeDiff,Nat.reduceEqDiff,Int.reduceNeg,qc]
 have main:=Cn.uniq (B:=U) (v:=V U a+V U b) (L:=max a.length b.length+1) (f:=fun k=>qdv (k+1) a b) (by decide) (max K (max a.length b.length+3)) fun k hk=>by
  obtain⟨ds,q1,q2,q3,q4⟩:=qro k a b hla hlb ha hb (max a.length b.length+1) 0 k 0 [] (by omega) (by omega) (by decide) (fun _=>rfl) rfl Dg.nil (by simp [V])
  have:=qcx ds
  refine⟨tl ds,?_,Cn.of q2,by rw [qha,q4],by omega⟩
  show qf1 k a b=_
  unfold qf1
  have q1':qaN k k a b 0 0 0 []=some (ds.length,ds):=q1
  rw [q1',Option.bind_some]
  simp only []
  rw [hK ds q3 k (by omega),Option.bind_some]
  simp -implicitDefEqProofs (maxSteps:=2000000) (disch:=omega) only [ps,↓reduceIte,reduceCtorEq,Int.reduceLT,Int.reduceLE,Int.reduceEq,Nat.reduceLT,Nat.reduceLeDiff,Nat.reduceEqDiff,Int.reduceNeg,qc]
  rw [qgK]
 obtain⟨l,h1,h2⟩:=main
 exact⟨l,Rn.up (f:=fun k=>qdv k a b) h1,h2⟩

theorem qkO (k:Nat) (x0 a0:Bool):∀(d n:Nat) (u:Int) (l:List Int),0≤u∧u<U^d→u<9223372036854775808→d<n→l.length≤1000-d→d≤100→Dg U l→(u=0→Cn U l)→
  ∃l',qaB k n u x0 0 a0 l.length [] l=some (x0,0,a0,l'.length,[],l')∧Cn U l'∧V U l'=V U l+U^l.length*u∧l'.length≤l.length+d:=by
 intro d
 induction d with
 | zero=>
  intro n u l hu hub hn hl hd9 hd hc
  obtain⟨n,rfl⟩:∃m,n=m+1:=⟨n-1,by omega⟩
  have hu0:u=0:=by simp at hu;omega
  subst hu0
  refine⟨l,?_,hc rfl,by simp,by omega⟩
  show qaS k (qaB k n) _ _ _ _ _ _ _=_
  unfold qaS
  simp -implicitDefEqProofs (maxSteps:=2000000) (disch:=omega) only [ps,↓reduceIte,reduceCtorEq,Int.reduceLT,Int.reduceLE,Int.reduceEq,Nat.reduceLT,Nat.reduceLeDiff,Nat.reduceEqDiff,Int.reduceNeg,qc]
 | succ d ih=>
  intro n u l hu hub hn hl hd9 hd hc
  obtain⟨n,rfl⟩:∃m,n=m+1:=⟨n-1,by omega⟩
  by_cases hu0:u=0
  ·subst hu0
   refine⟨l,?_,hc rfl,by simp,by omega⟩
   show qaS k (qaB k n) _ _ _ _ _ _ _=_
   unfold qaS
   simp -implicitDefEqProofs (maxSteps:=2000000) (disch:=omega) only [ps,↓reduceIte,reduceCtorEq,Int.reduceLT,Int.reduceLE,Int.reduceEq,Nat.reduceLT,Nat.reduceLeDiff,Nat.reduceEqDiff,Int.reduceNeg,qc]
  ·have hu2:u / 65536<U^d:=by
    have:=hu.2
    rw [Int.pow_succ] at this
    unfold U at this ⊢
    omega
   have hdm:=Int.emod_add_mul_ediv u 65536
   have hlen:(l++ [u % 65536]).length=l.length+1:=by simp
   have hdl:Dg U (l++ [u % 65536]):=hd.snoc (by unfold U;omega)
   obtain⟨l',q1,q2,q3,q4⟩:=ih n (u / 65536) (l++ [u % 65536]) ⟨by omega,hu2⟩ (by omega) (by omega) (by rw [hlen];omega) (by omega) hdl (fun h=>⟨hdl,(Cn.last hdl).2 (.inr ⟨l,u % 65536,rfl,by omega⟩)⟩)
   refine⟨l',?_,q2,?_,by rw [hlen] at q4;omega⟩
   ·rw [hlen] at q1
    rw [←q1]
    show qaS k (qaB k n) _ _ _ _ _ _ _=_
    unfold qaS
    have ht:l.take l.length=l:=List.take_length
    simp -implicitDefEqProofs (maxSteps:=2000000) (disch:=omega) only [ps,↓reduceIte,reduceCtorEq,Int.reduceLT,Int.reduceLE,Int.reduceEq,Nat.reduceLT,Nat.reduceLeDiff,Nat.reduceEqDiff,Int.reduceNeg,qc,qc2,qc3,ht,List.take_succ_cons,List.length_cons]
   ·rw [q3,qg5,hlen,Int.pow_succ]
    unfold U
    grind
theorem qhG (v:Int) (hv: -9223372036854775808<v∧v≤9223372036854775807):∃l,Rn (fun k=>qV k v) (decide (v<0),l)∧Nm U (decide (v<0)) l v∧l.length≤4:=by
 have main:∀(x0:Bool) (u:Int),0≤u∧u<9223372036854775808→∃l,Cn U l∧V U l=u∧l.length≤4∧∀k,5≤k→qaB k k u false 0 x0 0 [] []=some (false,0,x0,l.length,[],l):=by
  intro x0 u hu
  have h4:u<U^4:=by rw [show U^4=18446744073709551616 from by decide];omega
  obtain⟨l,q1,q2,q3,q4⟩:=qkO 5 false x0 4 5 u [] ⟨hu.1,h4⟩ hu.2 (by omega) (by simp) (by omega) Dg.nil (fun _=>Cn.nil)
  refine⟨l,q2,by rw [q3];simp [V],by simpa using q4,fun k hk=> ?_⟩
  obtain⟨l',r1,r2,r3,r4⟩:=qkO k false x0 4 k u [] ⟨hu.1,h4⟩ hu.2 (by omega) (by simp) (by omega) Dg.nil (fun _=>Cn.nil)
  have:l'=l:=Cn.ext (by decide) r2 q2 (by rw [r3,q3])
  subst this
  exact r1
 by_cases h:v<0
 ·obtain⟨l,h1,h2,h3,h4⟩:=main true (-v) (by omega)
  refine⟨l,?_,Nm.of (by decide) h1 (by omega),h3⟩
  refine Rn.up (f:=fun k=>qV k v) (Rn.eq 5 fun k hk=> ?_)
  show qc9 k v=_
  unfold qc9
  have e1:IntKind.i64.wrap (0-v)= -v:=by rw [qe (by omega)];omega
  have hh:=h4 k hk
  rw [if_pos (by simpa using h),e1]
  simp -implicitDefEqProofs (maxSteps:=2000000) (disch:=omega) only [ps,↓reduceIte,reduceCtorEq,Int.reduceLT,Int.reduceLE,Int.reduceEq,Nat.reduceLT,Nat.reduceLeDiff,Nat.reduceEqDiff,Int.reduceNeg,qc,hh,List.take_length,h,decide_true,decide_false]
 ·obtain⟨l,h1,h2,h3,h4⟩:=main false v (by omega)
  refine⟨l,?_,Nm.of (by decide) h1 (by omega),h3⟩
  refine Rn.up (f:=fun k=>qV k v) (Rn.eq 5 fun k hk=> ?_)
  show qc9 k v=_
  unfold qc9
  have hh:=h4 k hk
  rw [if_neg (by simpa using h)]
  simp -implicitDefEqProofs (maxSteps:=2000000) (disch:=omega) only [ps,↓reduceIte,reduceCtorEq,Int.reduceLT,Int.reduceLE,Int.reduceEq,Nat.reduceLT,Nat.reduceLeDiff,Nat.reduceEqDiff,Int.reduceNeg,qc,hh,List.take_length,h,decide_true,decide_false]

theorem Rn.get {α:Type} {f:Nat→Option α} {r:α} (h:Rn f r):∃k,f k=some r:=by
 obtain⟨K,h⟩:=h
 exact⟨K,h K (Nat.le_refl _)⟩

theorem qrp (k:Nat) (a b:List Int) (hl:a.length=b.length) (hla:a.length≤140737488355328) (ha:Dg U a) (hb:Dg U b):∀(i n:Nat),i≤a.length→i<n→V U (a.drop i)=V U (b.drop i)→
  ∃r,qbz k n a b ((i:Int)-1)=some r∧(match r with | .inl c=>c | .inr _=>0)=qe9 (V U a) (V U b):=by
 intro i
 induction i with
 | zero=>
  intro n hi hn e
  obtain⟨n,rfl⟩:∃m,n=m+1:=⟨n-1,by omega⟩
  refine⟨.inr (),?_,?_⟩
  ·show qah k (qbz k n) a b _=_
   unfold qah
   simp -implicitDefEqProofs (maxSteps:=2000000) (disch:=omega) only [ps,↓reduceIte,reduceCtorEq,Int.reduceLT,Int.reduceLE,Int.reduceEq,Nat.reduceLT,Nat.reduceLeDiff,Nat.reduceEqDiff,Int.reduceNeg,qc]
  ·simp only [List.drop_zero] at e
   simp [e,qe9]
 | succ i ih=>
  intro n hi hn e
  obtain⟨n,rfl⟩:∃m,n=m+1:=⟨n-1,by omega⟩
  obtain⟨x,hx⟩:=qH (show i<a.length by omega)
  obtain⟨y,hy⟩:=qH (show i<b.length by omega)
  have h1:(((i+1:Nat):Int)-1)=(i:Int):=by omega
  have hxb:=ha.get hx
  have hyb:=hb.get hy
  have sa:=qfe (B:=U) a i (by omega)
  have sb:=qfe (B:=U) b i (by omega)
  have la:V U (a.take i)<U^i:=by have:=qeL (B:=U) (by decide) (ha.take i);rwa [List.length_take,Nat.min_eq_left (by omega)] at this
  have lb:V U (b.take i)<U^i:=by have:=qeL (B:=U) (by decide) (hb.take i);rwa [List.length_take,Nat.min_eq_left (by omega)] at this
  have na:=qr (B:=U) (by decide) (ha.take i)
  have nb:=qr (B:=U) (by decide) (hb.take i)
  rw [qb8 hx,e] at sa
  rw [qb8 hy] at sb
  by_cases h:x=y
  ·subst h
   obtain⟨r,h2,h3⟩:=ih n (by omega) (by omega) (by rw [qb8 hx,qb8 hy,e])
   refine⟨r,?_,h3⟩
   show qah k (qbz k n) a b _=_
   unfold qah
   simp -implicitDefEqProofs (maxSteps:=2000000) (disch:=omega) only [ps,↓reduceIte,reduceCtorEq,Int.reduceLT,Int.reduceLE,Int.reduceEq,Nat.reduceLT,Nat.reduceLeDiff,Nat.reduceEqDiff,Int.reduceNeg,qc,h1,hx,hy,h2]
  ·have hP:=qBi i
   by_cases h2:x<y
   ·have hlt:V U a<V U b:=by
     have:U^i*(x+1)≤U^i*y:=Int.mul_le_mul_of_nonneg_left (by omega) (by omega)
     rw [sa,sb]
     grind
    refine⟨.inl (-1),?_,by simp only [qe9];rw [if_pos hlt]⟩
    show qah k (qbz k n) a b _=_
    unfold qah
    simp -implicitDefEqProofs (maxSteps:=2000000) (disch:=omega) only [ps,↓reduceIte,reduceCtorEq,Int.reduceLT,Int.reduceLE,Int.reduceEq,Nat.reduceLT,Nat.reduceLeDiff,Nat.reduceEqDiff,Int.reduceNeg,qc,h1,hx,hy,h,h2]
   ·have hlt:V U b<V U a:=by
     have:U^i*(y+1)≤U^i*x:=Int.mul_le_mul_of_nonneg_left (by omega) (by omega)
     rw [sa,sb]
     grind
    refine⟨.inl 1,?_,by simp only [qe9];rw [if_neg (by omega),if_neg (by omega)]⟩
    show qah k (qbz k n) a b _=_
    unfold qah
    simp -implicitDefEqProofs (maxSteps:=2000000) (disch:=omega) only [ps,↓reduceIte,reduceCtorEq,Int.reduceLT,Int.reduceLE,Int.reduceEq,Nat.reduceLT,Nat.reduceLeDiff,Nat.reduceEqDiff,Int.reduceNeg,qc,h1,hx,hy,h,h2]
theorem qlf (a b:List Int) (hla:a.length≤140737488355328) (hlb:b.length≤140737488355328) (ha:Cn U a) (hb:Cn U b):Rn (fun k=>qdw k a b) (qe9 (V U a) (V U b)):=by
 refine Rn.eq (a.length+2) fun k hk=> ?_
 obtain⟨k,rfl⟩:∃m,k=m+1:=⟨k-1,by omega⟩
 show qf2 k a b=_
 unfold qf2
 by_cases h:a.length=b.length
 ·obtain⟨r,h1,h2⟩:=qrp k a b h hla ha.1 hb.1 a.length k (Nat.le_refl _) (by omega) (by rw [List.drop_length,h,List.drop_length])
  simp -implicitDefEqProofs (maxSteps:=2000000) (disch:=omega) only [ps,↓reduceIte,reduceCtorEq,Int.reduceLT,Int.reduceLE,Int.reduceEq,Nat.reduceLT,Nat.reduceLeDiff,Nat.reduceEqDiff,Int.reduceNeg,qc,h1]
  rw [←h2]
  cases r<;>simp [qc]
 ·unfold qe9
  by_cases h2:a.length<b.length
  ·have:=Cn.len_lt (by decide) ha hb h2
   simp -implicitDefEqProofs (maxSteps:=2000000) (disch:=omega) only [ps,↓reduceIte,reduceCtorEq,Int.reduceLT,Int.reduceLE,Int.reduceEq,Nat.reduceLT,Nat.reduceLeDiff,Nat.reduceEqDiff,Int.reduceNeg,qc,h,h2]
  ·have:=Cn.len_lt (by decide) hb ha (by omega)
   simp -implicitDefEqProofs (maxSteps:=2000000) (disch:=omega) only [ps,↓reduceIte,reduceCtorEq,Int.reduceLT,Int.reduceLE,Int.reduceEq,Nat.reduceLT,Nat.reduceLeDiff,Nat.reduceEqDiff,Int.reduceNeg,qc,h,h2]

theorem qpW (k:Nat) (a b:List Int) (hba:b.length≤a.length) (hla:a.length≤1000000000) (ha:Dg U a) (hb:Dg U b):
  ∀(d i n:Nat) (borrow:Int) (ds:List Int),i+d=a.length→d<n→0≤borrow∧borrow≤1→ds.length=i→Dg U ds→
  V U ds=V U (a.take i)-V U (b.take i)+borrow*U^i→
  ∃b' ds',qaA k n a b i borrow i ds=some (ds'.length,ds')∧(0≤b'∧b'≤1)∧Dg U ds'∧ds'.length=a.length∧V U ds'=V U a-V U b+b'*U^a.length:=by
 intro d
 induction d with
 | zero=>
  intro i n borrow ds hi hn hc hl hd e
  obtain⟨n,rfl⟩:∃m,n=m+1:=⟨n-1,by omega⟩
  have hia:i=a.length:=by omega
  subst hia
  refine⟨borrow,ds,?_,hc,hd,hl,?_⟩
  ·show qaR k (qaA k n) _ _ _ _ _ _=_
   unfold qaR
   simp -implicitDefEqProofs (maxSteps:=2000000) (disch:=omega) only [ps,↓reduceIte,reduceCtorEq,Int.reduceLT,Int.reduceLE,Int.reduceEq,Nat.reduceLT,Nat.reduceLeDiff,Nat.reduceEqDiff,Int.reduceNeg,qc]
   rw [hl]
  ·rwa [List.take_length,List.take_of_length_le hba] at e
 | succ d ih=>
  intro i n borrow ds hi hn hc hl hd e
  obtain⟨n,rfl⟩:∃m,n=m+1:=⟨n-1,by omega⟩
  obtain⟨x,hx⟩:=qH (show i<a.length by omega)
  have ba:=ha.get hx
  have tb:=qh5 (B:=U) b i
  have bb:=hb.getD (by decide) i
  have ta:=qdS (B:=U) hx
  have h1:((i:Int)+1)=((i+1:Nat):Int):=rfl
  have ht:ds.take i=ds:=List.take_of_length_le (by omega)
  generalize hy:b[i]?.getD 0=y at tb bb
  have key:∀(z b1:Int),0≤z∧z<U→z=x-borrow-y+b1*U→0≤b1∧b1≤1→
    ∃b' ds',qaA k n a b (i+1) b1 ((i+1:Nat):Int) (ds++ [z])=some (ds'.length,ds')∧(0≤b'∧b'≤1)∧Dg U ds'∧ds'.length=a.length∧V U ds'=V U a-V U b+b'*U^a.length:=by
   intro z b1 hz hzz hb1
   refine ih (i+1) n _ _ (by omega) (by omega) hb1 (by simp [hl]) (hd.snoc hz) ?_
   rw [qg5,hl,ta,tb,Int.pow_succ]
   grind
  unfold U at ba bb
  by_cases hneg:x-borrow-y<0
  ·obtain⟨b',ds',q1,q2⟩:=key (x-borrow-y+65536) 1 (by unfold U;omega) (by unfold U;omega) (by decide)
   refine⟨b',ds',?_,q2⟩
   rw [←q1]
   show qaR k (qaA k n) _ _ _ _ _ _=_
   unfold qaR
   by_cases h3:i<b.length
   ·have hy':b[i]? =some y:=by obtain⟨z,hz⟩:=qH h3;rw [hz] at hy ⊢;simpa using hy
    simp -implicitDefEqProofs (maxSteps:=2000000) (disch:=omega) only [ps,↓reduceIte,reduceCtorEq,Int.reduceLT,Int.reduceLE,Int.reduceEq,Nat.reduceLT,Nat.reduceLeDiff,Nat.reduceEqDiff,Int.reduceNeg,qc,hx,hy',h1,hl,ht,List.take_succ_cons,List.length_cons]
   ·have hy':y=0:=by rw [←hy,List.getElem?_eq_none (by omega)];rfl
    subst hy'
    simp -implicitDefEqProofs (maxSteps:=2000000) (disch:=omega) only [ps,↓reduceIte,reduceCtorEq,Int.reduceLT,Int.reduceLE,Int.reduceEq,Nat.reduceLT,Nat.reduceLeDiff,Nat.reduceEqDiff,Int.reduceNeg,qc,hx,h1,hl,ht,List.take_succ_cons,List.length_cons,Int.sub_zero]
  ·obtain⟨b',ds',q1,q2⟩:=key (x-borrow-y) 0 (by unfold U;omega) (by unfold U;omega) (by decide)
   refine⟨b',ds',?_,q2⟩
   rw [←q1]
   show qaR k (qaA k n) _ _ _ _ _ _=_
   unfold qaR
   by_cases h3:i<b.length
   ·have hy':b[i]? =some y:=by obtain⟨z,hz⟩:=qH h3;rw [hz] at hy ⊢;simpa using hy
    simp -implicitDefEqProofs (maxSteps:=2000000) (disch:=omega) only [ps,↓reduceIte,reduceCtorEq,Int.reduceLT,Int.reduceLE,Int.reduceEq,Nat.reduceLT,Nat.reduceLeDiff,Nat.reduceEqDiff,Int.reduceNeg,qc,hx,hy',h1,hl,ht,List.take_succ_cons,List.length_cons]
   ·have hy':y=0:=by rw [←hy,List.getElem?_eq_none (by omega)];rfl
    subst hy'
    simp -implicitDefEqProofs (maxSteps:=2000000) (disch:=omega) only [ps,↓reduceIte,reduceCtorEq,Int.reduceLT,Int.reduceLE,Int.reduceEq,Nat.reduceLT,Nat.reduceLeDiff,Nat.reduceEqDiff,Int.reduceNeg,qc,hx,h1,hl,ht,List.take_succ_cons,List.length_cons,Int.sub_zero]
theorem qka (ds:List Int) (hl:ds.length≤10000000000) (k:Nat) (hk:ds.length+2≤k):qF k ds.length ds=some ((tl ds).length,ds):=by
 obtain⟨k,rfl⟩:∃m,k=m+1:=⟨k-1,by omega⟩
 show qaQ k ds.length ds=_
 unfold qaQ
 have:=qcx ds
 rw [qiK k ds hl ds.length k ds.length (Nat.le_refl _) (Nat.le_refl _) (by omega),List.take_length]
 simp -implicitDefEqProofs (maxSteps:=2000000) (disch:=omega) only [ps,↓reduceIte,reduceCtorEq,Int.reduceLT,Int.reduceLE,Int.reduceEq,Nat.reduceLT,Nat.reduceLeDiff,Nat.reduceEqDiff,Int.reduceNeg,qc]
theorem qkb (a b:List Int) (hla:a.length≤1000000000) (ha:Dg U a) (hb:Cn U b) (h:V U b≤V U a):
  ∃l,Rn (fun k=>qaC k a b) l∧Cn U l∧V U l=V U a-V U b∧l.length≤a.length:=by
 have hba:b.length≤a.length:=by
  refine(hb.len_le (by decide) _).2 ?_
  have:=qeL (B:=U) (by decide) ha
  omega
 have hB:=qr (B:=U) (by decide) hb.1
 have main:=Cn.uniq (B:=U) (v:=V U a-V U b) (L:=a.length) (f:=fun k=>qaC (k+1) a b) (by decide) (a.length+3) fun k hk=>by
  obtain⟨c,ds,q1,q2,q3,q4,q5⟩:=qpW k a b hba hla ha hb.1 a.length 0 k 0 [] (by omega) (by omega) (by decide) rfl Dg.nil (by simp [V])
  have hc:c=0:=by
   have p1:=qeL (B:=U) (by decide) q3
   rw [q4] at p1
   rcases(by omega:c=0∨c=1)with h | h
   ·exact h
   ·subst h;omega
  subst hc
  have:=qcx ds
  refine⟨tl ds,?_,Cn.of q3,by rw [qha,q5];simp,by omega⟩
  show qfr k a b=_
  unfold qfr
  have q1':qaA k k a b 0 0 0 []=some (ds.length,ds):=q1
  rw [q1',Option.bind_some]
  simp only []
  rw [qka ds (by omega) k (by omega),Option.bind_some]
  simp -implicitDefEqProofs (maxSteps:=2000000) (disch:=omega) only [ps,↓reduceIte,reduceCtorEq,Int.reduceLT,Int.reduceLE,Int.reduceEq,Nat.reduceLT,Nat.reduceLeDiff,Nat.reduceEqDiff,Int.reduceNeg,qc]
  rw [qgK]
 obtain⟨l,h1,h2⟩:=main
 exact⟨l,Rn.up (f:=fun k=>qaC k a b) h1,h2⟩

theorem qhH {B:Int} {l:List Int} (h:Cn B l) {z:Int} (e:V B l=z):Nm B false l z:=⟨h,fun h=>(by cases h),by simpa using e⟩
theorem qkQ {B:Int} {a0:Bool} {l:List Int} (h:Cn B l) {v:Int} (e:V B l=v):Nm B (if a0 then decide (0<l.length)else false) l (if a0 then -v else v):=by
 cases a0
 ·exact qhH h e
 ·refine⟨h,fun hs h0=> ?_,?_⟩
  ·rw [h0] at hs;simp at hs
  ·cases l with
   | nil=>simp [V] at e ⊢;omega
   | cons x r=>simp [e]
theorem qu6 (a0 b0:Bool) (a1 b1:List Int) {x y:Int} (nx:Nm U a0 a1 x) (ny:Nm U b0 b1 y) (hx:a1.length≤1000000000) (hy:b1.length≤1000000000):
  ∃s l,Rn (fun k=>qcI k a0 a1 b0 b1) (s,l)∧Nm U s l (x+y)∧l.length≤max a1.length b1.length+1:=by
 have hdec:∀l:List Int,decide ((0:Int)<(l.length:Int))=decide (0<l.length):=fun l=>by congr 1;simp
 have zx:=nx.z
 have zy:=ny.z
 by_cases h:a0=b0
 ·subst h
  obtain⟨l,h1,h2,h3,h4⟩:=qu4 a1 b1 hx hy nx.c.1 ny.c.1
  refine⟨if a0 then decide (0<l.length)else false,l,?_,(qkQ (a0:=a0) h2 h3).cast ?_,h4⟩
  ·refine Rn.up (f:=fun k=>qcI k a0 a1 a0 b1) ?_
   show Rn (fun k=>qb4 k a0 a1 a0 b1) _
   unfold qb4
   (first | (refine Rn.t ?hc ?_;case hc=>simp -implicitDefEqProofs (maxSteps:=2000000) (disch:=omega) only [ps,↓reduceIte,reduceCtorEq,Int.reduceLT,Int.reduceLE,Int.reduceEq,Nat.reduceLT,Nat.reduceLeDiff,Nat.reduceEqDiff,Int.reduceNeg,qc]) | (refine Rn.f ?hc ?_;case hc=>simp -implicitDefEqProofs (maxSteps:=2000000) (disch:=omega) only [ps,↓reduceIte,reduceCtorEq,Int.reduceLT,Int.reduceLE,Int.reduceEq,Nat.reduceLT,Nat.reduceLeDiff,Nat.reduceEqDiff,Int.reduceNeg,qc]))
   refine Rn.bind h1 ?_
   cases a0
   ·(first | (refine Rn.t ?hc ?_;case hc=>simp -implicitDefEqProofs (maxSteps:=2000000) (disch:=omega) only [ps,↓reduceIte,reduceCtorEq,Int.reduceLT,Int.reduceLE,Int.reduceEq,Nat.reduceLT,Nat.reduceLeDiff,Nat.reduceEqDiff,Int.reduceNeg,qc]) | (refine Rn.f ?hc ?_;case hc=>simp -implicitDefEqProofs (maxSteps:=2000000) (disch:=omega) only [ps,↓reduceIte,reduceCtorEq,Int.reduceLT,Int.reduceLE,Int.reduceEq,Nat.reduceLT,Nat.reduceLeDiff,Nat.reduceEqDiff,Int.reduceNeg,qc]));exact Rn.pure _
   ·(first | (refine Rn.t ?hc ?_;case hc=>simp -implicitDefEqProofs (maxSteps:=2000000) (disch:=omega) only [ps,↓reduceIte,reduceCtorEq,Int.reduceLT,Int.reduceLE,Int.reduceEq,Nat.reduceLT,Nat.reduceLeDiff,Nat.reduceEqDiff,Int.reduceNeg,qc]) | (refine Rn.f ?hc ?_;case hc=>simp -implicitDefEqProofs (maxSteps:=2000000) (disch:=omega) only [ps,↓reduceIte,reduceCtorEq,Int.reduceLT,Int.reduceLE,Int.reduceEq,Nat.reduceLT,Nat.reduceLeDiff,Nat.reduceEqDiff,Int.reduceNeg,qc]));simp only [gt_iff_lt,hdec];exact Rn.pure _
  ·cases a0<;>simp at zx zy ⊢ <;>omega
 ·have h':(a0 == b0)=false:=by simpa using h
  obtain⟨c,e1,f1⟩:=qfl (V U a1) (V U b1)
  have hc:=qlf a1 b1 (by omega) (by omega) nx.c ny.c
  rw [e1] at hc
  by_cases h2:0≤c
  ·obtain⟨l,q1,q2,q3,q4⟩:=qkb a1 b1 hx nx.c.1 ny.c (by omega)
   refine⟨if a0 then decide (0<l.length)else false,l,?_,(qkQ (a0:=a0) q2 q3).cast ?_,by omega⟩
   ·refine Rn.up (f:=fun k=>qcI k a0 a1 b0 b1) ?_
    show Rn (fun k=>qb4 k a0 a1 b0 b1) _
    unfold qb4
    (first | (refine Rn.t ?hc ?_;case hc=>simp -implicitDefEqProofs (maxSteps:=2000000) (disch:=omega) only [ps,↓reduceIte,reduceCtorEq,Int.reduceLT,Int.reduceLE,Int.reduceEq,Nat.reduceLT,Nat.reduceLeDiff,Nat.reduceEqDiff,Int.reduceNeg,qc,h']) | (refine Rn.f ?hc ?_;case hc=>simp -implicitDefEqProofs (maxSteps:=2000000) (disch:=omega) only [ps,↓reduceIte,reduceCtorEq,Int.reduceLT,Int.reduceLE,Int.reduceEq,Nat.reduceLT,Nat.reduceLeDiff,Nat.reduceEqDiff,Int.reduceNeg,qc,h']))
    refine Rn.bind hc ?_
    (first | (refine Rn.t ?hc ?_;case hc=>simp -implicitDefEqProofs (maxSteps:=2000000) (disch:=omega) only [ps,↓reduceIte,reduceCtorEq,Int.reduceLT,Int.reduceLE,Int.reduceEq,Nat.reduceLT,Nat.reduceLeDiff,Nat.reduceEqDiff,Int.reduceNeg,qc]) | (refine Rn.f ?hc ?_;case hc=>simp -implicitDefEqProofs (maxSteps:=2000000) (disch:=omega) only [ps,↓reduceIte,reduceCtorEq,Int.reduceLT,Int.reduceLE,Int.reduceEq,Nat.reduceLT,Nat.reduceLeDiff,Nat.reduceEqDiff,Int.reduceNeg,qc]))
    refine Rn.bind q1 ?_
    cases a0
    ·(first | (refine Rn.t ?hc ?_;case hc=>simp -implicitDefEqProofs (maxSteps:=2000000) (disch:=omega) only [ps,↓reduceIte,reduceCtorEq,Int.reduceLT,Int.reduceLE,Int.reduceEq,Nat.reduceLT,Nat.reduceLeDiff,Nat.reduceEqDiff,Int.reduceNeg,qc]) | (refine Rn.f ?hc ?_;case hc=>simp -implicitDefEqProofs (maxSteps:=2000000) (disch:=omega) only [ps,↓reduceIte,reduceCtorEq,Int.reduceLT,Int.reduceLE,Int.reduceEq,Nat.reduceLT,Nat.reduceLeDiff,Nat.reduceEqDiff,Int.reduceNeg,qc]));exact Rn.pure _
    ·(first | (refine Rn.t ?hc ?_;case hc=>simp -implicitDefEqProofs (maxSteps:=2000000) (disch:=omega) only [ps,↓reduceIte,reduceCtorEq,Int.reduceLT,Int.reduceLE,Int.reduceEq,Nat.reduceLT,Nat.reduceLeDiff,Nat.reduceEqDiff,Int.reduceNeg,qc]) | (refine Rn.f ?hc ?_;case hc=>simp -implicitDefEqProofs (maxSteps:=2000000) (disch:=omega) only [ps,↓reduceIte,reduceCtorEq,Int.reduceLT,Int.reduceLE,Int.reduceEq,Nat.reduceLT,Nat.reduceLeDiff,Nat.reduceEqDiff,Int.reduceNeg,qc]));simp only [gt_iff_lt,hdec];exact Rn.pure _
   ·cases a0<;>cases b0<;>simp at h zx zy ⊢ <;>omega
  ·obtain⟨l,q1,q2,q3,q4⟩:=qkb b1 a1 hy ny.c.1 nx.c (by omega)
   have hne:l≠ []:=by rintro rfl;simp [V] at q3;omega
   refine⟨b0,l,?_,⟨q2,fun _=>hne,?_⟩,by omega⟩
   ·refine Rn.up (f:=fun k=>qcI k a0 a1 b0 b1) ?_
    show Rn (fun k=>qb4 k a0 a1 b0 b1) _
    unfold qb4
    (first | (refine Rn.t ?hc ?_;case hc=>simp -implicitDefEqProofs (maxSteps:=2000000) (disch:=omega) only [ps,↓reduceIte,reduceCtorEq,Int.reduceLT,Int.reduceLE,Int.reduceEq,Nat.reduceLT,Nat.reduceLeDiff,Nat.reduceEqDiff,Int.reduceNeg,qc,h']) | (refine Rn.f ?hc ?_;case hc=>simp -implicitDefEqProofs (maxSteps:=2000000) (disch:=omega) only [ps,↓reduceIte,reduceCtorEq,Int.reduceLT,Int.reduceLE,Int.reduceEq,Nat.reduceLT,Nat.reduceLeDiff,Nat.reduceEqDiff,Int.reduceNeg,qc,h']))
    refine Rn.bind hc ?_
    (first | (refine Rn.t ?hc ?_;case hc=>simp -implicitDefEqProofs (maxSteps:=2000000) (disch:=omega) only [ps,↓reduceIte,reduceCtorEq,Int.reduceLT,Int.reduceLE,Int.reduceEq,Nat.reduceLT,Nat.reduceLeDiff,Nat.reduceEqDiff,Int.reduceNeg,qc]) | (refine Rn.f ?hc ?_;case hc=>simp -implicitDefEqProofs (maxSteps:=2000000) (disch:=omega) only [ps,↓reduceIte,reduceCtorEq,Int.reduceLT,Int.reduceLE,Int.reduceEq,Nat.reduceLT,Nat.reduceLeDiff,Nat.reduceEqDiff,Int.reduceNeg,qc]))
    exact Rn.bind q1 (Rn.pure _)
   ·cases a0<;>cases b0<;>simp at h zx zy ⊢ <;>omega
theorem qkc (a0:Bool) (a1:List Int) {x:Int} (nx:Nm U a0 a1 x):∃s l,Rn (fun k=>qbO k a0 a1) (s,l)∧Nm U s l (-x)∧l.length≤a1.length:=by
 have zx:=nx.z
 cases a1 with
 | nil=>
  refine⟨false,[],Rn.up (f:=fun k=>qbO k a0 []) ?_,qhH Cn.nil ?_,by simp⟩
  ·show Rn (fun k=>qda k a0 []) _
   unfold qda
   (first | (refine Rn.t ?hc ?_;case hc=>simp -implicitDefEqProofs (maxSteps:=2000000) (disch:=omega) only [ps,↓reduceIte,reduceCtorEq,Int.reduceLT,Int.reduceLE,Int.reduceEq,Nat.reduceLT,Nat.reduceLeDiff,Nat.reduceEqDiff,Int.reduceNeg,qc]) | (refine Rn.f ?hc ?_;case hc=>simp -implicitDefEqProofs (maxSteps:=2000000) (disch:=omega) only [ps,↓reduceIte,reduceCtorEq,Int.reduceLT,Int.reduceLE,Int.reduceEq,Nat.reduceLT,Nat.reduceLeDiff,Nat.reduceEqDiff,Int.reduceNeg,qc]));exact Rn.pure _
  ·cases a0<;>simp [V] at zx ⊢ <;>omega
 | cons p r=>
  refine⟨!a0,p::r,Rn.up (f:=fun k=>qbO k a0 (p::r)) ?_,⟨nx.c,fun _=>by simp,?_⟩,Nat.le_refl _⟩
  ·show Rn (fun k=>qda k a0 (p::r)) _
   unfold qda
   have:(p::r).length=r.length+1:=rfl
   (first | (refine Rn.t ?hc ?_;case hc=>simp -implicitDefEqProofs (maxSteps:=2000000) (disch:=omega) only [ps,↓reduceIte,reduceCtorEq,Int.reduceLT,Int.reduceLE,Int.reduceEq,Nat.reduceLT,Nat.reduceLeDiff,Nat.reduceEqDiff,Int.reduceNeg,qc,this]) | (refine Rn.f ?hc ?_;case hc=>simp -implicitDefEqProofs (maxSteps:=2000000) (disch:=omega) only [ps,↓reduceIte,reduceCtorEq,Int.reduceLT,Int.reduceLE,Int.reduceEq,Nat.reduceLT,Nat.reduceLeDiff,Nat.reduceEqDiff,Int.reduceNeg,qc,this]));exact Rn.pure _
  ·cases a0<;>simp at zx ⊢ <;>omega
theorem qu7 (a0 b0:Bool) (a1 b1:List Int) {x y:Int} (nx:Nm U a0 a1 x) (ny:Nm U b0 b1 y) (hx:a1.length≤1000000000) (hy:b1.length≤1000000000):
  ∃s l,Rn (fun k=>qen k a0 a1 b0 b1) (s,l)∧Nm U s l (x-y)∧l.length≤max a1.length b1.length+1:=by
 obtain⟨s,l,h1,h2,h3⟩:=qkc b0 b1 ny
 obtain⟨s2,l2,q1,q2,q3⟩:=qu6 a0 s a1 l nx h2 hx (by omega)
 exact⟨s2,l2,Rn.up (f:=fun k=>qen k a0 a1 b0 b1) (Rn.bind h1 (Rn.bind q1 (Rn.pure _))),q2.cast (by omega),by omega⟩
theorem qoI (a0:Bool) (a1:List Int) {x:Int} (nx:Nm U a0 a1 x):Rn (fun k=>qdx k a0 a1) (qe9 x 0):=by
 have zx:=nx.z
 have hs:=nx.sg
 have h0:=nx.c.nil_iff (B:=U) (by decide)
 have hp:=qr (B:=U) (by decide) nx.c.1
 refine Rn.up (f:=fun k=>qdx k a0 a1) ?_
 show Rn (fun k=>qf3 k a0 a1) _
 unfold qf3 qe9
 by_cases h:a1= []
 ·have:=h0.1 h
  rw [this] at zx
  have e:x=0:=by cases a0<;>simp at zx<;>omega
  subst e;subst h
  (first | (refine Rn.t ?hc ?_;case hc=>simp -implicitDefEqProofs (maxSteps:=2000000) (disch:=omega) only [ps,↓reduceIte,reduceCtorEq,Int.reduceLT,Int.reduceLE,Int.reduceEq,Nat.reduceLT,Nat.reduceLeDiff,Nat.reduceEqDiff,Int.reduceNeg,qc]) | (refine Rn.f ?hc ?_;case hc=>simp -implicitDefEqProofs (maxSteps:=2000000) (disch:=omega) only [ps,↓reduceIte,reduceCtorEq,Int.reduceLT,Int.reduceLE,Int.reduceEq,Nat.reduceLT,Nat.reduceLeDiff,Nat.reduceEqDiff,Int.reduceNeg,qc]))
  exact Rn.pure _
 ·have:=mt h0.2 h
  have hl:a1.length≠0:=fun e=>h (List.length_eq_zero_iff.1 e)
  (first | (refine Rn.t ?hc ?_;case hc=>simp -implicitDefEqProofs (maxSteps:=2000000) (disch:=omega) only [ps,↓reduceIte,reduceCtorEq,Int.reduceLT,Int.reduceLE,Int.reduceEq,Nat.reduceLT,Nat.reduceLeDiff,Nat.reduceEqDiff,Int.reduceNeg,qc]) | (refine Rn.f ?hc ?_;case hc=>simp -implicitDefEqProofs (maxSteps:=2000000) (disch:=omega) only [ps,↓reduceIte,reduceCtorEq,Int.reduceLT,Int.reduceLE,Int.reduceEq,Nat.reduceLT,Nat.reduceLeDiff,Nat.reduceEqDiff,Int.reduceNeg,qc]))
  cases a0
  ·simp at zx
   (first | (refine Rn.t ?hc ?_;case hc=>simp -implicitDefEqProofs (maxSteps:=2000000) (disch:=omega) only [ps,↓reduceIte,reduceCtorEq,Int.reduceLT,Int.reduceLE,Int.reduceEq,Nat.reduceLT,Nat.reduceLeDiff,Nat.reduceEqDiff,Int.reduceNeg,qc]) | (refine Rn.f ?hc ?_;case hc=>simp -implicitDefEqProofs (maxSteps:=2000000) (disch:=omega) only [ps,↓reduceIte,reduceCtorEq,Int.reduceLT,Int.reduceLE,Int.reduceEq,Nat.reduceLT,Nat.reduceLeDiff,Nat.reduceEqDiff,Int.reduceNeg,qc]))
   rw [if_neg (by omega),if_neg (by omega)]
   exact Rn.pure _
  ·simp at zx
   (first | (refine Rn.t ?hc ?_;case hc=>simp -implicitDefEqProofs (maxSteps:=2000000) (disch:=omega) only [ps,↓reduceIte,reduceCtorEq,Int.reduceLT,Int.reduceLE,Int.reduceEq,Nat.reduceLT,Nat.reduceLeDiff,Nat.reduceEqDiff,Int.reduceNeg,qc]) | (refine Rn.f ?hc ?_;case hc=>simp -implicitDefEqProofs (maxSteps:=2000000) (disch:=omega) only [ps,↓reduceIte,reduceCtorEq,Int.reduceLT,Int.reduceLE,Int.reduceEq,Nat.reduceLT,Nat.reduceLeDiff,Nat.reduceEqDiff,Int.reduceNeg,qc]))
   rw [if_pos (by omega)]
   exact Rn.pure _
theorem qu8 (a0 b0:Bool) (a1 b1:List Int) {x y:Int} (nx:Nm U a0 a1 x) (ny:Nm U b0 b1 y) (hx:a1.length≤1000000000) (hy:b1.length≤1000000000):
  Rn (fun k=>qeo k a0 a1 b0 b1) (qe9 x y):=by
 obtain⟨s,l,h1,h2,h3⟩:=qu7 a0 b0 a1 b1 nx ny hx hy
 have:qe9 x y=qe9 (x-y) 0:=by
  unfold qe9
  rcases Int.lt_trichotomy x y with h | h | h
  ·rw [if_pos h,if_pos (by omega)]
  ·rw [if_neg (by omega),if_pos h,if_neg (by omega),if_pos (by omega)]
  ·rw [if_neg (by omega),if_neg (by omega),if_neg (by omega),if_neg (by omega)]
 rw [this]
 exact Rn.up (f:=fun k=>qeo k a0 a1 b0 b1) (Rn.bind h1 (Rn.bind (qoI s l h2) (Rn.pure _)))

theorem qn3 (k:Nat) (a0 b0:Bool) (a1 b1:List Int) (hb:Dg U b1) (i:Nat) (a:Int) (hai:a1[i]? =some a) (ha:0≤a∧a<U) (n12:Nat) (hn12:n12≤2000000000) (hi:i+b1.length<n12):
  ∀(d j n:Nat) (carry:Int) (ds:List Int),j+d=b1.length→d<n→0≤carry∧carry<U→ds.length=n12→Dg U ds→
  ∃carry' ds',qbV k n n12 i carry j a0 a1 b0 b1 false 0 ds []=some (n12,(i:Int),carry',a0,a1,b0,b1,false,0,ds',[])∧(0≤carry'∧carry'<U)∧ds'.length=n12∧Dg U ds'∧
   V U ds'+carry'*U^(i+b1.length)=V U ds+carry*U^(i+j)+a*U^(i+j)*V U (b1.drop j)∧∀p,i+b1.length≤p→ds'[p]? =ds[p]? :=by
 intro d
 induction d with
 | zero=>
  intro j n carry ds hj hn hc hl hd
  obtain⟨n,rfl⟩:∃m,n=m+1:=⟨n-1,by omega⟩
  have:j=b1.length:=by omega
  subst this
  refine⟨carry,ds,?_,hc,hl,hd,?_,fun p _=>rfl⟩
  ·show qcl k (qbV k n) _ _ _ _ _ _ _ _ _ _ _ _=_
   unfold qcl
   simp -implicitDefEqProofs (maxSteps:=2000000) (disch:=omega) only [ps,↓reduceIte,reduceCtorEq,Int.reduceLT,Int.reduceLE,Int.reduceEq,Nat.reduceLT,Nat.reduceLeDiff,Nat.reduceEqDiff,Int.reduceNeg,qc]
  ·rw [List.drop_length];simp [V]
 | succ d ih=>
  intro j n carry ds hj hn hc hl hd
  obtain⟨n,rfl⟩:∃m,n=m+1:=⟨n-1,by omega⟩
  obtain⟨b,hbj⟩:=qH (show j<b1.length by omega)
  obtain⟨o,ho⟩:=qH (show i+j<ds.length by omega)
  have hbb:=hb.get hbj
  have hob:=hd.get ho
  have h1:((j:Int)+1)=((j+1:Nat):Int):=rfl
  have h2:((i:Int)+(j:Int))=((i+j:Nat):Int):=rfl
  unfold U at ha hbb hob hc
  have hm1:=Int.mul_nonneg ha.1 hbb.1
  have hm2:a*b≤65535*b:=Int.mul_le_mul_of_nonneg_right (by omega) hbb.1
  have hdm:=Int.emod_add_mul_ediv (o+a*b+carry) U
  obtain⟨c',o',q1,q2,q3,q4,q5,q6⟩:=ih (j+1) n ((o+a*b+carry) / U) (ds.set (i+j) ((o+a*b+carry) % U)) (by omega) (by omega) (by unfold U;omega) (by simpa using hl) (hd.set _ (by unfold U;omega))
  refine⟨c',o',?_,q2,q3,q4,?_,fun p hp=> ?_⟩
  ·rw [←q1]
   show qcl k (qbV k n) _ _ _ _ _ _ _ _ _ _ _ _=_
   unfold qcl
   simp -implicitDefEqProofs (maxSteps:=2000000) (disch:=omega) only [ps,↓reduceIte,reduceCtorEq,Int.reduceLT,Int.reduceLE,Int.reduceEq,Nat.reduceLT,Nat.reduceLeDiff,Nat.reduceEqDiff,Int.reduceNeg,qc,hai,hbj,h1,h2,ho,qc2,qc3]
  ·rw [q5,qhS _ ho,qb8 hbj,←Nat.add_assoc,Int.pow_succ]
   grind
  ·rw [q6 p hp,List.getElem?_set_ne (by omega)]
theorem qn4 (k:Nat) (a0 b0:Bool) (a1 b1:List Int) (ha:Dg U a1) (hb:Dg U b1) (hla:a1.length≤1000000000) (hlb:b1.length≤1000000000) (hk:b1.length<k):
  ∀(d i n:Nat) (ds:List Int),i+d=a1.length→d<n→ds.length=a1.length+b1.length→Dg U ds→V U ds=V U (a1.take i)*V U b1→(∀p,i+b1.length≤p→p<ds.length→ds[p]? =some 0)→
  ∃ds',qbW k n (a1.length+b1.length) i a0 a1 b0 b1 false 0 ds []=some (a1.length+b1.length,a0,a1,b0,b1,false,0,ds',[])∧ds'.length=a1.length+b1.length∧Dg U ds'∧V U ds'=V U a1*V U b1:=by
 intro d
 induction d with
 | zero=>
  intro i n ds hi hn hl hd e h0
  obtain⟨n,rfl⟩:∃m,n=m+1:=⟨n-1,by omega⟩
  have:i=a1.length:=by omega
  subst this
  refine⟨ds,?_,hl,hd,by rw [e,List.take_length]⟩
  show qcm k (qbW k n) _ _ _ _ _ _ _ _ _ _=_
  unfold qcm
  simp -implicitDefEqProofs (maxSteps:=2000000) (disch:=omega) only [ps,↓reduceIte,reduceCtorEq,Int.reduceLT,Int.reduceLE,Int.reduceEq,Nat.reduceLT,Nat.reduceLeDiff,Nat.reduceEqDiff,Int.reduceNeg,qc]
 | succ d ih=>
  intro i n ds hi hn hl hd e h0
  obtain⟨n,rfl⟩:∃m,n=m+1:=⟨n-1,by omega⟩
  obtain⟨a,hai⟩:=qH (show i<a1.length by omega)
  have hab:=ha.get hai
  obtain⟨c',o',q1,q2,q3,q4,q5,q6⟩:=qn3 k a0 b0 a1 b1 hb i a hai hab (a1.length+b1.length) (by omega) (by omega) b1.length 0 k 0 ds (by omega) (by omega) (by decide) hl hd
  have hz:o'[i+b1.length]? =some 0:=by rw [q6 _ (Nat.le_refl _)];exact h0 _ (Nat.le_refl _) (by omega)
  have h1:((i:Int)+1)=((i+1:Nat):Int):=rfl
  have h2:((i:Int)+(b1.length:Int))=((i+b1.length:Nat):Int):=rfl
  have e2:V U (o'.set (i+b1.length) c')=V U (a1.take (i+1))*V U b1:=by
   rw [qhS _ hz,qdS hai,Int.sub_zero]
   simp only [Nat.add_zero,List.drop_zero,Int.zero_mul,Int.add_zero] at q5
   rw [e] at q5
   rw [Int.add_mul,Int.mul_comm (U^i) a,←q5,Int.mul_comm c']
  have e3:∀p,(i+1)+b1.length≤p→p<(o'.set (i+b1.length) c').length→(o'.set (i+b1.length) c')[p]? =some 0:=by
   intro p hp hpl
   rw [List.getElem?_set_ne (by omega),q6 p (by omega)]
   exact h0 p (by omega) (by simp at hpl;omega)
  obtain⟨o2,r1,r2⟩:=ih (i+1) n (o'.set (i+b1.length) c') (by omega) (by omega) (by simpa using q3) (q4.set _ q2) e2 e3
  refine⟨o2,?_,r2⟩
  rw [←r1]
  show qcm k (qbW k n) _ _ _ _ _ _ _ _ _ _=_
  unfold qcm
  have q1':qbV k k (a1.length+b1.length) i 0 0 a0 a1 b0 b1 false 0 ds []=_:=q1
  unfold U at q2
  simp -implicitDefEqProofs (maxSteps:=2000000) (disch:=omega) only [ps,↓reduceIte,reduceCtorEq,Int.reduceLT,Int.reduceLE,Int.reduceEq,Nat.reduceLT,Nat.reduceLeDiff,Nat.reduceEqDiff,Int.reduceNeg,qc,q1',h1,h2,hz,Int.zero_add]
theorem qgR (a0 b0:Bool) (a1 b1:List Int) {x y:Int} (nx:Nm U a0 a1 x) (ny:Nm U b0 b1 y) (hx:a1.length≤1000000) (hy:b1.length≤1000000):
  ∃s l,Rn (fun k=>qW k a0 a1 b0 b1) (s,l)∧Nm U s l (x*y)∧l.length≤a1.length+b1.length:=by
 have hU:(0:Int)<U:=by decide
 have main:∀k,a1.length+b1.length<k→∃ds',qbW k k (a1.length+b1.length) (0:Int) a0 a1 b0 b1 false 0 (List.replicate (a1.length+b1.length) 0) []=some (a1.length+b1.length,a0,a1,b0,b1,false,0,ds',[])∧ds'.length=a1.length+b1.length∧Dg U ds'∧V U ds'=V U a1*V U b1:=by
  intro k hk
  refine qn4 k a0 b0 a1 b1 nx.c.1 ny.c.1 (by omega) (by omega) (by omega) a1.length 0 k _ (by omega) (by omega) (by simp) (Dg.rep _ hU) (by rw [qlZ];simp [V]) ?_
  intro p _ hp
  rw [List.getElem?_replicate_of_lt (by simpa using hp)]
 obtain⟨o,q1,q2,q3,q4⟩:=main (a1.length+b1.length+1) (by omega)
 have hto:=qcx o
 have hdec:∀l:List Int,decide ((0:Int)<(l.length:Int))=decide (0<l.length):=fun l=>by congr 1;simp
 refine⟨if(!(a0 == b0))=true then decide (0<(tl o).length)else false,tl o,?_,(qkQ (a0:= !(a0 == b0)) (Cn.of q3) (by rw [qha,q4])).cast ?_,by omega⟩
 ·refine Rn.up (f:=fun k=>qW k a0 a1 b0 b1) (Rn.eq (a1.length+b1.length+3) fun k hk=> ?_)
  show qfs k a0 a1 b0 b1=_
  unfold qfs
  obtain⟨o',r1,r2,r3,r4⟩:=main k (by omega)
  have ho:tl o'=tl o:=Cn.ext hU (Cn.of r3) (Cn.of q3) (by rw [qha,qha,r4,q4])
  have hto':=qcx o'
  have h2:((a1.length:Int)+(b1.length:Int))=((a1.length+b1.length:Nat):Int):=rfl
  have ht:=qka o' (by omega) k (by omega)
  rw [r2] at ht
  have htt:=qgK o'
  rw [ho] at ht htt hto'
  simp -implicitDefEqProofs (maxSteps:=2000000) (disch:=omega) only [ps,↓reduceIte,reduceCtorEq,Int.reduceLT,Int.reduceLE,Int.reduceEq,Nat.reduceLT,Nat.reduceLeDiff,Nat.reduceEqDiff,Int.reduceNeg,qc,h2,r1,ht]
  by_cases hs:a0=b0
  ·simp -implicitDefEqProofs (maxSteps:=2000000) (disch:=omega) only [ps,↓reduceIte,reduceCtorEq,Int.reduceLT,Int.reduceLE,Int.reduceEq,Nat.reduceLT,Nat.reduceLeDiff,Nat.reduceEqDiff,Int.reduceNeg,qc,hs,htt]
  ·simp -implicitDefEqProofs (maxSteps:=2000000) (disch:=omega) only [ps,↓reduceIte,reduceCtorEq,Int.reduceLT,Int.reduceLE,Int.reduceEq,Nat.reduceLT,Nat.reduceLeDiff,Nat.reduceEqDiff,Int.reduceNeg,qc,hs,htt,hdec]
 ·rw [←nx.z,←ny.z]
  cases a0<;>cases b0<;>simp [Int.neg_mul,Int.mul_neg]

theorem qrq {X Y Q R:Int} (h:Y*Q+R=X) (h0:0≤R) (h1:R<Y):Q=X / Y∧R=X % Y:=by
 subst h
 have hY:Y≠0:=by omega
 constructor
 ·rw [Int.add_comm,Int.add_mul_ediv_left _ _ hY,Int.ediv_eq_zero_of_lt h0 h1];omega
 ·rw [Int.add_comm,Int.add_mul_emod_self_left,Int.emod_eq_of_lt h0 h1]
theorem qs7 (sx sy:Bool) {X Y:Int} (hX:0≤X):(if sx then -X else X).tdiv (if sy then -Y else Y)=if(!(sx == sy))then -(X / Y)else X / Y:=by
 have h:X.tdiv Y=X / Y:=qc2 hX
 cases sx<;>cases sy<;>simp [Int.neg_tdiv,Int.tdiv_neg,h]
theorem qs8 (sx sy:Bool) {X Y:Int} (hX:0≤X):(if sx then -X else X).tmod (if sy then -Y else Y)=if sx then -(X % Y)else X % Y:=by
 have h:X.tmod Y=X % Y:=qc3 hX
 cases sx<;>cases sy<;>simp [Int.neg_tmod,Int.tmod_neg,h]
theorem qkR {q r b:Int} (hb:0<b):b*q≤r↔q≤r / b:=by
 rw [Int.le_ediv_iff_mul_le hb,Int.mul_comm]
theorem qpX (r b:List Int) (cr:Cn U r) (cb:Cn U b) (hb:0<V U b) (hlr:r.length≤900000) (hlb:b.length≤900000):
  ∀(m:Nat) (low high:Int),high-low<2^m→0≤low→low≤V U r / V U b→V U r / V U b≤high→high≤65535→
  ∃K,∀k n,K≤k→m<n→qbi k n r b low high=some (V U r / V U b):=by
 intro m
 induction m with
 | zero=>
  intro low high h1 h2 h3 h4 h5
  refine⟨0,fun k n _ hn=> ?_⟩
  obtain⟨n,rfl⟩:∃m,n=m+1:=⟨n-1,by omega⟩
  have:low=V U r / V U b:=by simp at h1;omega
  rw [←this] at h4 ⊢
  show qZ k (qbi k n) _ _ _ _=_
  unfold qZ
  simp at h1
  simp -implicitDefEqProofs (maxSteps:=2000000) (disch:=omega) only [ps,↓reduceIte,reduceCtorEq,Int.reduceLT,Int.reduceLE,Int.reduceEq,Nat.reduceLT,Nat.reduceLeDiff,Nat.reduceEqDiff,Int.reduceNeg,qc]
 | succ m ih=>
  intro low high h1 h2 h3 h4 h5
  by_cases h:low<high
  ·have hm:high-low<2*2^m:=by rw [Int.pow_succ] at h1;omega
   obtain⟨q,hq⟩:∃q,q=(low+high+1) / 2:=⟨_,rfl⟩
   obtain⟨l,⟨K1,s1⟩,s2,s3⟩:=qhG q (by omega)
   have hq0:decide (q<0)=false:=by simp;omega
   rw [hq0] at s1 s2
   obtain⟨s,t,⟨K2,t1⟩,t2,t3⟩:=qgR false false b l (qhH cb rfl) s2 (by omega) (by omega)
   obtain⟨K3,c1⟩:=qlf t r (by omega) (by omega) t2.c cr
   have hvt:V U t=V U b*q:=by
    have e:=t2.abs (by decide)
    have:0≤V U b*q:=Int.mul_nonneg (by omega) (by omega)
    omega
   rw [hvt] at c1
   have e1:IntKind.i64.wrap (Int.tdiv (IntKind.i64.wrap (IntKind.i64.wrap (low+high)+1)) 2)=q:=by
    rw [qe (x:=low+high) (by omega),qe (x:=low+high+1) (by omega),qc2 (by omega),qe (by omega)]
    exact hq.symm
   by_cases hle:V U b*q≤V U r
   ·obtain⟨K4,i1⟩:=ih q high (by omega) (by omega) ((qkR hb).1 hle) h4 h5
    refine⟨max K1 (max K2 (max K3 K4)),fun k n hk hn=> ?_⟩
    obtain⟨n,rfl⟩:∃m,n=m+1:=⟨n-1,by omega⟩
    rw [←i1 k n (by omega) (by omega)]
    have c:=c1 k (by omega)
    obtain⟨cz,hcz,hcases⟩:=qfl (V U b*q) (V U r)
    rw [hcz] at c
    have a1:=s1 k (by omega)
    have a2:=t1 k (by omega)
    show qZ k (qbi k n) _ _ _ _=_
    unfold qZ
    rw [e1]
    simp -implicitDefEqProofs (maxSteps:=2000000) (disch:=omega) only [ps,↓reduceIte,reduceCtorEq,Int.reduceLT,Int.reduceLE,Int.reduceEq,Nat.reduceLT,Nat.reduceLeDiff,Nat.reduceEqDiff,Int.reduceNeg,qc,a1,a2,c]
   ·have hgt:V U r / V U b≤q-1:=by
     have:=mt (qkR hb).2 hle
     omega
    obtain⟨K4,i1⟩:=ih low (q-1) (by omega) (by omega) h3 hgt (by omega)
    refine⟨max K1 (max K2 (max K3 K4)),fun k n hk hn=> ?_⟩
    obtain⟨n,rfl⟩:∃m,n=m+1:=⟨n-1,by omega⟩
    rw [←i1 k n (by omega) (by omega)]
    have c:=c1 k (by omega)
    obtain⟨cz,hcz,hcases⟩:=qfl (V U b*q) (V U r)
    rw [hcz] at c
    have a1:=s1 k (by omega)
    have a2:=t1 k (by omega)
    show qZ k (qbi k n) _ _ _ _=_
    unfold qZ
    rw [e1]
    simp -implicitDefEqProofs (maxSteps:=2000000) (disch:=omega) only [ps,↓reduceIte,reduceCtorEq,Int.reduceLT,Int.reduceLE,Int.reduceEq,Nat.reduceLT,Nat.reduceLeDiff,Nat.reduceEqDiff,Int.reduceNeg,qc,a1,a2,c]
  ·refine⟨0,fun k n _ hn=> ?_⟩
   obtain⟨n,rfl⟩:∃m,n=m+1:=⟨n-1,by omega⟩
   have:low=V U r / V U b:=by omega
   rw [←this] at h4 ⊢
   show qZ k (qbi k n) _ _ _ _=_
   unfold qZ
   simp -implicitDefEqProofs (maxSteps:=2000000) (disch:=omega) only [ps,↓reduceIte,reduceCtorEq,Int.reduceLT,Int.reduceLE,Int.reduceEq,Nat.reduceLT,Nat.reduceLeDiff,Nat.reduceEqDiff,Int.reduceNeg,qc]
theorem qs9 (r b:List Int) (cr:Cn U r) (cb:Cn U b) (hb:0<V U b) (hlr:r.length≤900000) (hlb:b.length≤900000) (hq:V U r<U*V U b):Rn (fun k=>qcu k r b) (V U r / V U b):=by
 refine Rn.up (f:=fun k=>qcu k r b) ?_
 show Rn (fun k=>qft k r b) _
 unfold qft
 have hr0:=qr (B:=U) (by decide) cr.1
 refine Rn.bind (qlf r b (by omega) (by omega) cr cb) ?_
 obtain⟨cz,hcz,hcases⟩:=qfl (V U r) (V U b)
 rw [hcz]
 by_cases h:V U r<V U b
 ·have:V U r / V U b=0:=Int.ediv_eq_zero_of_lt hr0 h
  rw [this]
  (first | (refine Rn.t ?hc ?_;case hc=>simp -implicitDefEqProofs (maxSteps:=2000000) (disch:=omega) only [ps,↓reduceIte,reduceCtorEq,Int.reduceLT,Int.reduceLE,Int.reduceEq,Nat.reduceLT,Nat.reduceLeDiff,Nat.reduceEqDiff,Int.reduceNeg,qc]) | (refine Rn.f ?hc ?_;case hc=>simp -implicitDefEqProofs (maxSteps:=2000000) (disch:=omega) only [ps,↓reduceIte,reduceCtorEq,Int.reduceLT,Int.reduceLE,Int.reduceEq,Nat.reduceLT,Nat.reduceLeDiff,Nat.reduceEqDiff,Int.reduceNeg,qc]))
  exact Rn.pure _
 ·have q0:0≤V U r / V U b:=Int.ediv_nonneg hr0 (by omega)
  have q1:V U r / V U b<U:=Int.ediv_lt_of_lt_mul hb hq
  have q2:V U r / V U b<65536:=q1
  obtain⟨K,h1⟩:=qpX r b cr cb hb hlr hlb 16 0 65535 (by decide) (by decide) q0 (by omega) (by decide)
  (first | (refine Rn.t ?hc ?_;case hc=>simp -implicitDefEqProofs (maxSteps:=2000000) (disch:=omega) only [ps,↓reduceIte,reduceCtorEq,Int.reduceLT,Int.reduceLE,Int.reduceEq,Nat.reduceLT,Nat.reduceLeDiff,Nat.reduceEqDiff,Int.reduceNeg,qc]) | (refine Rn.f ?hc ?_;case hc=>simp -implicitDefEqProofs (maxSteps:=2000000) (disch:=omega) only [ps,↓reduceIte,reduceCtorEq,Int.reduceLT,Int.reduceLE,Int.reduceEq,Nat.reduceLT,Nat.reduceLeDiff,Nat.reduceEqDiff,Int.reduceNeg,qc]))
  exact Rn.bind (Rn.eq (K+17) fun k hk=>h1 k k (by omega) (by omega)) (Rn.pure _)

theorem qrr (b1 r:List Int) (x1:Int) (hx:0≤x1∧x1<U) (cb:Cn U b1) (hb:0<V U b1) (cr:Cn U r) (hr:V U r<V U b1) (hlr:r.length≤800000) (hlb:b1.length≤800000):
  ∃d,(0≤d∧d<U)∧Rn (fun k=>qcu k (tl (x1::r)) b1) d∧Rn (fun k=>qF k (1+r.length) (x1::r)) ((tl (x1::r)).length,x1::r)∧
   (d=0→V U (tl (x1::r))<V U b1)∧(0<d→∃l s t m,Rn (fun k=>qV k d) (false,l)∧Rn (fun k=>qW k false b1 false l) (s,t)∧Rn (fun k=>qaC k (tl (x1::r)) t) m∧
    Cn U m∧V U m<V U b1∧V U m+V U b1*d=x1+U*V U r∧m.length≤b1.length):=by
 have hr0:=qr (B:=U) (by decide) cr.1
 have dn:Dg U (x1::r):=Dg.cons hx cr.1
 have cn:Cn U (tl (x1::r)):=Cn.of dn
 have vn:V U (tl (x1::r))=x1+U*V U r:=by rw [qha];rfl
 have ln:=qcx (x1::r)
 have hlen:(x1::r).length=r.length+1:=rfl
 have hlt:V U (tl (x1::r))<U*V U b1:=by
  have:U*(V U r+1)≤U*V U b1:=Int.mul_le_mul_of_nonneg_left (by omega) (by decide)
  rw [vn];rw [Int.mul_add,Int.mul_one] at this;omega
 have hn0:=qr (B:=U) (by decide) cn.1
 have hd:=qs9 (tl (x1::r)) b1 cn cb hb (by omega) (by omega) hlt
 have q0:0≤V U (tl (x1::r)) / V U b1:=Int.ediv_nonneg hn0 (by omega)
 have q1:V U (tl (x1::r)) / V U b1<U:=Int.ediv_lt_of_lt_mul hb hlt
 have qm:=Int.emod_add_mul_ediv (V U (tl (x1::r))) (V U b1)
 have qa:=Int.emod_nonneg (V U (tl (x1::r))) (show V U b1≠0 by omega)
 have qb:=Int.emod_lt_of_pos (V U (tl (x1::r))) hb
 refine⟨_,⟨q0,q1⟩,hd,?_,?_,?_⟩
 ·have:=qs5 (1+r.length) (x1::r) (by omega) (by omega)
  rwa [List.take_of_length_le (by omega)] at this
 ·intro h;rw [h] at qm;omega
 ·intro h
  generalize V U (tl (x1::r)) / V U b1=d at*
  have q2:d<65536:=q1
  obtain⟨l,s1,s2,s3⟩:=qhG d (by omega)
  have hq0:decide (d<0)=false:=by simp;omega
  rw [hq0] at s1 s2
  obtain⟨s,t,t1,t2,t3⟩:=qgR false false b1 l (qhH cb rfl) s2 (by omega) (by omega)
  have hvt:V U t=V U b1*d:=by
   have e:=t2.abs (by decide)
   have:0≤V U b1*d:=Int.mul_nonneg (by omega) (by omega)
   omega
  obtain⟨m,m1,m2,m3,m4⟩:=qkb (tl (x1::r)) t (by omega) cn.1 t2.c (by omega)
  refine⟨l,s,t,m,s1,t1,m1,m2,by omega,by omega,?_⟩
  refine Nat.le_of_not_lt fun hlt=> ?_
  have:=Cn.len_lt (B:=U) (by decide) cb m2 hlt
  omega
def Dst (q:Nat) (i:Int) (a0:Bool) (a1:List Int) (b0:Bool) (b1 qs r:List Int) (x:((Nat×Nat×Int×Bool×List Int×Bool×List Int×Bool×Nat×Bool×Nat×List Int×List Int×List Int×List Int) ⊕ (Nat×List Int×Int×Bool×List Int×Bool×List Int×Bool×Nat×Bool×Nat×List Int×List Int×List Int))):Prop:=
 (∃mem m1 m2,x= .inl (q,r.length,i,a0,a1,b0,b1,false,0,false,0,qs,mem,m1,m2)∧r.length≤mem.length∧mem.take r.length=r)∨(∃m1 m2,x= .inr (q,r,i,a0,a1,b0,b1,false,0,false,0,qs,m1,m2))
def qBj (q:Nat) (a0:Bool) (a1:List Int) (b0:Bool) (b1 qs r:List Int) (x:((Nat×Nat×Bool×List Int×Bool×List Int×Bool×Nat×Bool×Nat×List Int×List Int×List Int×List Int) ⊕ (Nat×List Int×Bool×List Int×Bool×List Int×Bool×Nat×Bool×Nat×List Int×List Int×List Int))):Prop:=
 (∃mem m1 m2,x= .inl (q,r.length,a0,a1,b0,b1,false,0,false,0,qs,mem,m1,m2)∧r.length≤mem.length∧mem.take r.length=r)∨(∃m1 m2,x= .inr (q,r,a0,a1,b0,b1,false,0,false,0,qs,m1,m2))
theorem qoJ {b vq vr x d va vm:Int} (h:b*vq+vr=va) (e:vm+b*d=x+U*vr):b*(d+U*vq)+vm=x+U*va:=by
 subst h;grind
theorem qta (a0 b0:Bool) (a1 b1:List Int) (da:Dg U a1) (cb:Cn U b1) (hb:0<V U b1) (hla:a1.length≤800000) (hlb:b1.length≤800000):
  ∀(e:Nat) (qs r:List Int) x,e≤a1.length→qs.length=a1.length→Dg U qs→Cn U r→V U r<V U b1→V U b1*V U (qs.drop e)+V U r=V U (a1.drop e)→Dst a1.length ((e:Int)-1) a0 a1 b0 b1 qs r x→
  ∃qs' r' y,qBj a1.length a0 a1 b0 b1 qs' r' y∧(qs'.length=a1.length∧Dg U qs'∧Cn U r'∧V U r'<V U b1∧V U b1*V U qs'+V U r'=V U a1)∧∃K,∀k n,K≤k→e<n→qM k n x=some y:=by
 intro e
 induction e with
 | zero=>
  intro qs r x he hl dq cr hr hv hx
  rcases hx with ⟨mem,m1,m2,rfl,h1,h2⟩ | ⟨m1,m2,rfl⟩
  ·refine⟨qs,r,_,.inl ⟨mem,m1,m2,rfl,h1,h2⟩,⟨hl,dq,cr,hr,by simpa using hv⟩,0,fun k n _ hn=> ?_⟩
   obtain⟨n,rfl⟩:∃m,n=m+1:=⟨n-1,by omega⟩
   show qw k (qM k n) _=_
   unfold qw
   simp -implicitDefEqProofs (maxSteps:=2000000) (disch:=omega) only [ps,↓reduceIte,reduceCtorEq,Int.reduceLT,Int.reduceLE,Int.reduceEq,Nat.reduceLT,Nat.reduceLeDiff,Nat.reduceEqDiff,Int.reduceNeg,qc,qc,Int.zero_sub,Int.natCast_zero]
  ·refine⟨qs,r,_,.inr ⟨m1,m2,rfl⟩,⟨hl,dq,cr,hr,by simpa using hv⟩,0,fun k n _ hn=> ?_⟩
   obtain⟨n,rfl⟩:∃m,n=m+1:=⟨n-1,by omega⟩
   show qw k (qM k n) _=_
   unfold qw
   simp -implicitDefEqProofs (maxSteps:=2000000) (disch:=omega) only [ps,↓reduceIte,reduceCtorEq,Int.reduceLT,Int.reduceLE,Int.reduceEq,Nat.reduceLT,Nat.reduceLeDiff,Nat.reduceEqDiff,Int.reduceNeg,qc,qc,Int.zero_sub,Int.natCast_zero]
 | succ j ih=>
  intro qs r x he hl dq cr hr hv hx
  have hlr:r.length≤b1.length:=by
   refine Nat.le_of_not_lt fun hlt=> ?_
   have:=Cn.len_lt (B:=U) (by decide) cb cr hlt
   omega
  obtain⟨x1,hx1⟩:=qH (show j<a1.length by omega)
  obtain⟨x2,hx2⟩:=qH (show j<qs.length by omega)
  obtain⟨d,hd,⟨K1,h1⟩,⟨K2,h2⟩,h3,h4⟩:=qrr b1 r x1 (da.get hx1) cb hb cr hr (by omega) hlb
  have hjj:((j+1:Nat):Int)-1=(j:Int):=by omega
  have hdrop:(qs.set j d).drop j=d::qs.drop (j+1):=by
   rw [List.drop_eq_getElem_cons (by simp;omega)]
   simp [List.drop_set_of_lt]
  have htl:=qgK (x1::r)
  have ltl:=qcx (x1::r)
  have hlen:(x1::r).length=r.length+1:=rfl
  have hVa:=qb8 (B:=U) hx1
  rw [hjj] at hx
  by_cases hd0:d=0
  ·have hlt:=h3 hd0
   subst hd0
   have cn:Cn U (tl (x1::r)):=Cn.of (Dg.cons (da.get hx1) cr.1)
   have vn:V U (tl (x1::r))=x1+U*V U r:=by rw [qha];rfl
   have key:=ih (qs.set j 0) (tl (x1::r))
   have hvv:V U b1*V U ((qs.set j 0).drop j)+V U (tl (x1::r))=V U (a1.drop j):=by
    rw [hdrop,hVa];simp only [V];exact qoJ hv (by rw [vn];omega)
   rcases hx with ⟨mem,m1,m2,rfl,g1,g2⟩ | ⟨m1,m2,rfl⟩
   ·obtain⟨qs',r',y,i1,i2,K,i3⟩:=key _ (by omega) (by simpa using hl) (dq.set j hd) cn hlt hvv (.inl ⟨x1::r,m1,m2,rfl,ltl,htl⟩)
    refine⟨qs',r',y,i1,i2,max K (max K1 K2),fun k n hk hn=> ?_⟩
    obtain⟨n,rfl⟩:∃m,n=m+1:=⟨n-1,by omega⟩
    rw [←i3 k n (by omega) (by omega)]
    have c1:=h1 k (by omega)
    have c2:=h2 k (by omega)
    show qw k (qM k n) _=_
    unfold qw
    simp only [qc]
    simp -implicitDefEqProofs (maxSteps:=2000000) (disch:=omega) only [ps,↓reduceIte,reduceCtorEq,Int.reduceLT,Int.reduceLE,Int.reduceEq,Nat.reduceLT,Nat.reduceLeDiff,Nat.reduceEqDiff,Int.reduceNeg,qc,g2,hx1,hx2,c1,c2,htl,List.take_succ_cons,List.cons_append]
   ·obtain⟨qs',r',y,i1,i2,K,i3⟩:=key _ (by omega) (by simpa using hl) (dq.set j hd) cn hlt hvv (.inl ⟨x1::r,m1,m2,rfl,ltl,htl⟩)
    refine⟨qs',r',y,i1,i2,max K (max K1 K2),fun k n hk hn=> ?_⟩
    obtain⟨n,rfl⟩:∃m,n=m+1:=⟨n-1,by omega⟩
    rw [←i3 k n (by omega) (by omega)]
    have c1:=h1 k (by omega)
    have c2:=h2 k (by omega)
    show qw k (qM k n) _=_
    unfold qw
    simp only [qc]
    simp -implicitDefEqProofs (maxSteps:=2000000) (disch:=omega) only [ps,↓reduceIte,reduceCtorEq,Int.reduceLT,Int.reduceLE,Int.reduceEq,Nat.reduceLT,Nat.reduceLeDiff,Nat.reduceEqDiff,Int.reduceNeg,qc,hx1,hx2,c1,c2,htl,List.take_succ_cons,List.cons_append]
  ·obtain⟨l,s,t,m,⟨K3,s1⟩,⟨K4,s2⟩,⟨K5,s3⟩,s4,s5,s6,s7⟩:=h4 (by omega)
   have key:=ih (qs.set j d) m
   have hvv:V U b1*V U ((qs.set j d).drop j)+V U m=V U (a1.drop j):=by
    rw [hdrop,hVa];simp only [V];exact qoJ hv s6
   rcases hx with ⟨mem,m1,m2,rfl,g1,g2⟩ | ⟨m1,m2,rfl⟩
   ·obtain⟨qs',r',y,i1,i2,K,i3⟩:=key _ (by omega) (by simpa using hl) (dq.set j hd) s4 s5 hvv (.inr ⟨m1,m2,rfl⟩)
    refine⟨qs',r',y,i1,i2,max K (max (max K1 K2) (max K3 (max K4 K5))),fun k n hk hn=> ?_⟩
    obtain⟨n,rfl⟩:∃m,n=m+1:=⟨n-1,by omega⟩
    rw [←i3 k n (by omega) (by omega)]
    have c1:=h1 k (by omega)
    have c2:=h2 k (by omega)
    have c3:=s1 k (by omega)
    have c4:=s2 k (by omega)
    have c5:=s3 k (by omega)
    show qw k (qM k n) _=_
    unfold qw
    simp only [qc]
    simp -implicitDefEqProofs (maxSteps:=2000000) (disch:=omega) only [ps,↓reduceIte,reduceCtorEq,Int.reduceLT,Int.reduceLE,Int.reduceEq,Nat.reduceLT,Nat.reduceLeDiff,Nat.reduceEqDiff,Int.reduceNeg,qc,g2,hx1,hx2,c1,c2,c3,c4,c5,htl,List.take_succ_cons,List.cons_append]
   ·obtain⟨qs',r',y,i1,i2,K,i3⟩:=key _ (by omega) (by simpa using hl) (dq.set j hd) s4 s5 hvv (.inr ⟨m1,m2,rfl⟩)
    refine⟨qs',r',y,i1,i2,max K (max (max K1 K2) (max K3 (max K4 K5))),fun k n hk hn=> ?_⟩
    obtain⟨n,rfl⟩:∃m,n=m+1:=⟨n-1,by omega⟩
    rw [←i3 k n (by omega) (by omega)]
    have c1:=h1 k (by omega)
    have c2:=h2 k (by omega)
    have c3:=s1 k (by omega)
    have c4:=s2 k (by omega)
    have c5:=s3 k (by omega)
    show qw k (qM k n) _=_
    unfold qw
    simp only [qc]
    simp -implicitDefEqProofs (maxSteps:=2000000) (disch:=omega) only [ps,↓reduceIte,reduceCtorEq,Int.reduceLT,Int.reduceLE,Int.reduceEq,Nat.reduceLT,Nat.reduceLeDiff,Nat.reduceEqDiff,Int.reduceNeg,qc,hx1,hx2,c1,c2,c3,c4,c5,htl,List.take_succ_cons,List.cons_append]

abbrev mk (a1:List Int):List Int:=a1++ [11259375]
section
variable {a0 b0 : Bool} {a1 b1 : List Int} (la : a1.length ≤ 9223372036854775807) (lb : b1.length ≤ 9223372036854775807) (da : Dg W a1) (db : Dg W b1)
include la lb da db
end

set_option maxHeartbeats 1000000 in
theorem qg8 (a0 b0:Bool) (a1 b1:List Int) {x y:Int} (nx:Nm U a0 a1 x) (ny:Nm U b0 b1 y) (hla:a1.length≤800000) (hlb:b1.length≤800000) (hb0:b1≠ []):
  ∃s q t r,Rn (fun k=>qaO k a0 a1 b0 b1) (s,q,t,r)∧Nm U s q (x.tdiv y)∧Nm U t r (x.tmod y)∧q.length≤a1.length∧r.length≤b1.length:=by
 have hb:0<V U b1:=by
  have p:=qr (B:=U) (by decide) ny.c.1
  have:=mt (ny.c.nil_iff (B:=U) (by decide)).2 hb0
  omega
 have pa:=qr (B:=U) (by decide) nx.c.1
 obtain⟨qs,r,z,hz,⟨lq,dq,cr,hr,hv⟩,K,hl⟩:=qta a0 b0 a1 b1 nx.c.1 ny.c hb hla hlb a1.length (List.replicate a1.length 0) [] _ (Nat.le_refl _) (by simp) (Dg.rep _ (by decide)) Cn.nil (by simpa [V] using hb) (by
  rw [List.drop_of_length_le (by simp),List.drop_of_length_le (by simp)];simp [V]) (.inl ⟨[],[],[],rfl,by simp,rfl⟩)
 have hr0:=qr (B:=U) (by decide) cr.1
 have hu:=qrq hv hr0 hr
 have cq:Cn U (tl qs):=Cn.of dq
 have e1:=qs7 a0 b0 (Y:=V U b1) pa
 have e2:=qs8 a0 b0 (Y:=V U b1) pa
 rw [nx.z,ny.z,←hu.1] at e1
 rw [nx.z,ny.z,←hu.2] at e2
 have n1:=qkQ (a0:= !(a0 == b0)) cq (qha qs)
 have n2:=qkQ (a0:=a0) cr rfl
 have ltq:=qcx qs
 refine⟨_,_,_,_,?_,n1.cast e1.symm,n2.cast e2.symm,by omega,?_⟩
 ·refine Rn.up (f:=fun k=>qaO k a0 a1 b0 b1) (Rn.eq (K+a1.length+4) fun k hk=> ?_)
  show qe6 k a0 a1 b0 b1=_
  unfold qe6
  have hdec:∀l:List Int,decide ((0:Int)<(l.length:Int))=decide (0<l.length):=fun l=>by congr 1;simp
  have h1:qM k k (Sum.inl (a1.length,0,(a1.length:Int)-1,a0,a1,b0,b1,false,0,false,0,List.replicate a1.length 0,[],[],[]))=some z:=hl k k (by omega) (by omega)
  have h2:=qka qs (by omega) k (by omega)
  rw [lq] at h2
  have h3:=qgK qs
  rcases hz with ⟨mem,m1,m2,rfl,g1,g2⟩ | ⟨m1,m2,rfl⟩
  ·simp -implicitDefEqProofs (maxSteps:=2000000) (disch:=omega) only [ps,↓reduceIte,reduceCtorEq,Int.reduceLT,Int.reduceLE,Int.reduceEq,Nat.reduceLT,Nat.reduceLeDiff,Nat.reduceEqDiff,Int.reduceNeg,qc,h1]
   simp -implicitDefEqProofs (maxSteps:=2000000) (disch:=omega) only [ps,↓reduceIte,reduceCtorEq,Int.reduceLT,Int.reduceLE,Int.reduceEq,Nat.reduceLT,Nat.reduceLeDiff,Nat.reduceEqDiff,Int.reduceNeg,qc,h2,g1]
   cases a0<;>cases b0<;>simp -implicitDefEqProofs (maxSteps:=2000000) (disch:=omega) only [ps,↓reduceIte,reduceCtorEq,Int.reduceLT,Int.reduceLE,Int.reduceEq,Nat.reduceLT,Nat.reduceLeDiff,Nat.reduceEqDiff,Int.reduceNeg,qc,h3,g2,hdec,if_true,if_false]
  ·simp -implicitDefEqProofs (maxSteps:=2000000) (disch:=omega) only [ps,↓reduceIte,reduceCtorEq,Int.reduceLT,Int.reduceLE,Int.reduceEq,Nat.reduceLT,Nat.reduceLeDiff,Nat.reduceEqDiff,Int.reduceNeg,qc,h1]
   simp -implicitDefEqProofs (maxSteps:=2000000) (disch:=omega) only [ps,↓reduceIte,reduceCtorEq,Int.reduceLT,Int.reduceLE,Int.reduceEq,Nat.reduceLT,Nat.reduceLeDiff,Nat.reduceEqDiff,Int.reduceNeg,qc,h2]
   cases a0<;>cases b0<;>simp -implicitDefEqProofs (maxSteps:=2000000) (disch:=omega) only [ps,↓reduceIte,reduceCtorEq,Int.reduceLT,Int.reduceLE,Int.reduceEq,Nat.reduceLT,Nat.reduceLeDiff,Nat.reduceEqDiff,Int.reduceNeg,qc,h3,hdec,if_true,if_false]
 ·refine Nat.le_of_not_lt fun hlt=> ?_
  have:=Cn.len_lt (B:=U) (by decide) ny.c cr hlt
  omega
theorem qn5 (x0:Bool) (x1:Nat) (m:List Int) (M:Nat) (hM:M≤800000):∀(N:Nat) (a b:List Int),V U b≤N→Cn U a→Cn U b→a.length≤M→b.length≤M→
  ∃l b1,(∃K,∀k n,K≤k→N<n→qcn k n false a false b x0 x1 m=some (false,l,false,b1,x0,x1,m))∧Cn U l∧V U l=Int.gcd (V U a) (V U b)∧l.length≤M:=by
 intro N
 induction N using Nat.strongRecOn with
 | ind N ih=>
  intro a b hN ca cb ha hb
  have pa:=qr (B:=U) (by decide) ca.1
  by_cases h0:b= []
  ·subst h0
   refine⟨a,[],⟨0,fun k n _ hn=> ?_⟩,ca,by simp [V];omega,ha⟩
   obtain⟨n,rfl⟩:∃m,n=m+1:=⟨n-1,by omega⟩
   show qca k (qcn k n) _ _ _ _ _ _ _=_
   unfold qca
   simp -implicitDefEqProofs (maxSteps:=2000000) (disch:=omega) only [ps,↓reduceIte,reduceCtorEq,Int.reduceLT,Int.reduceLE,Int.reduceEq,Nat.reduceLT,Nat.reduceLeDiff,Nat.reduceEqDiff,Int.reduceNeg,qc]
  ·have pb:0<V U b:=by
    have p:=qr (B:=U) (by decide) cb.1
    have:=mt (cb.nil_iff (B:=U) (by decide)).2 h0
    omega
   obtain⟨s,q,t,r,⟨K1,h1⟩,h2,h3,h4,h5⟩:=qg8 false false a b (qhH ca rfl) (qhH cb rfl) (by omega) (by omega) h0
   have hr0:=Int.emod_nonneg (V U a) (show V U b≠0 by omega)
   have hr1:=Int.emod_lt_of_pos (V U a) pb
   rw [qc3 pa] at h3
   obtain⟨R,hR⟩:=Int.eq_ofNat_of_zero_le hr0
   have ht:t=false:=by rw [h3.neg (by decide)];simp;omega
   subst ht
   have hvr:V U r=R:=by rw [h3.abs (by decide),hR];rfl
   obtain⟨l,b1,⟨K2,i1⟩,i2,i3,i4⟩:=ih R (by omega) b r (by omega) cb h3.c hb (by omega)
   refine⟨l,b1,⟨max K1 K2,fun k n hk hn=> ?_⟩,i2,?_,i4⟩
   ·obtain⟨n,rfl⟩:∃m,n=m+1:=⟨n-1,by omega⟩
    rw [←i1 k n (by omega) (by omega)]
    have c1:=h1 k (by omega)
    have lb:0<b.length:=by
     cases b with
     | nil=>exact absurd rfl h0
     | cons _ _=>simp
    show qca k (qcn k n) _ _ _ _ _ _ _=_
    unfold qca
    simp -implicitDefEqProofs (maxSteps:=2000000) (disch:=omega) only [ps,↓reduceIte,reduceCtorEq,Int.reduceLT,Int.reduceLE,Int.reduceEq,Nat.reduceLT,Nat.reduceLeDiff,Nat.reduceEqDiff,Int.reduceNeg,qc,c1]
   ·rw [i3,hvr,←hR]
    obtain⟨A,hA⟩:=Int.eq_ofNat_of_zero_le pa
    obtain⟨B,hB⟩:=Int.eq_ofNat_of_zero_le (Int.le_of_lt pb)
    rw [hA,hB]
    show(((Int.gcd (B:Int) ((A % B:Nat):Int)):Nat):Int)=_
    rw [Int.gcd_natCast_natCast,Int.gcd_natCast_natCast,Nat.gcd_comm,←Nat.gcd_rec,Nat.gcd_comm]
theorem qlC (a0 b0:Bool) (a1 b1:List Int) {x y:Int} (nx:Nm U a0 a1 x) (ny:Nm U b0 b1 y) (hx:a1.length≤800000) (hy:b1.length≤800000):
  ∃l,Rn (fun k=>qcR k a0 a1 b0 b1) (false,l)∧Nm U false l (Int.gcd x y)∧l.length≤max a1.length b1.length:=by
 obtain⟨N,hN⟩:=Int.eq_ofNat_of_zero_le (qr (B:=U) (by decide) ny.c.1)
 obtain⟨l,b',⟨K,h1⟩,h2,h3,h4⟩:=qn5 false 0 [] (max a1.length b1.length) (by omega) N a1 b1 (by omega) nx.c ny.c (by omega) (by omega)
 have e:(Int.gcd (V U a1) (V U b1):Int)=Int.gcd x y:=by
  have e1:=nx.z
  have e2:=ny.z
  rw [←e1,←e2]
  cases a0<;>cases b0<;>simp
 refine⟨l,Rn.up (f:=fun k=>qcR k a0 a1 b0 b1) ?_,qhH h2 (by rw [h3,e]),h4⟩
 have q1:Rn (fun k=>qbT k a0 a1) (false,a1):=Rn.up (f:=fun k=>qbT k a0 a1) (Rn.pure _)
 have q2:Rn (fun k=>qbT k b0 b1) (false,b1):=Rn.up (f:=fun k=>qbT k b0 b1) (Rn.pure _)
 refine Rn.bind (f:=fun k=>qbT k a0 a1) q1 (Rn.bind q2 ?_)
 exact Rn.bind (x:=(false,l,false,b',false,0,[])) (Rn.eq (K+N+1) fun k hk=>h1 k k (by omega) (by omega)) (Rn.pure _)
section
variable {a0 b0 : Bool} {a1 b1 : List Int} (la : a1.length ≤ 9223372036854775807) (lb : b1.length ≤ 9223372036854775807) (da : Dg W a1) (db : Dg W b1)
include la lb da db
end

def qnx (n0:Bool) (n1:List Int) (d0:Bool) (d1:List Int):Int:=
 if Ri n0 n1∧Ri d0 d1 then(if d0=false∧d1≠ []∧Int.gcd (Zv W n0 n1) (Zv W d0 d1)=1 then 0 else 20)else 10
theorem qyU {d1:List Int} {d0:Bool} (h0:d0=false) (hne:d1≠ []) (cd:Cn W d1):0<Zv W d0 d1:=by
 subst h0
 have p:=qr (B:=W) (by decide) cd.1
 have q:=mt (cd.nil_iff (B:=W) (by decide)).2 hne
 simp [Zv];omega
theorem qpY {x y:Int} (hy:0<y) (hg:Int.gcd x y=1):(Rat.divInt x y).num=x∧((Rat.divInt x y).den:Int)=y:=by
 refine⟨?_,?_⟩
 ·rw [qns x (by omega),if_neg (by omega),hg];simp
 ·rw [qnt x (by omega),if_neg (by omega),hg];simp
theorem qtb {n0 d0:Bool} {n1 d1:List Int} (dn:Dg W n1) (dd:Dg W d1) (h:qnx n0 n1 d0 d1=0):∃q,Fr n0 n1 d0 d1 q∧n1.length≤72∧d1.length≤72:=by
 unfold qnx at h
 split at h
 ·rename_i hr
  split at h
  ·rename_i hc
   obtain⟨h1,h2,h3⟩:=hc
   have a:=hr.1.nm dn
   have b:=hr.2.nm dd
   obtain⟨e1,e2⟩:=qpY (qyU h1 h2 b.c) h3
   exact⟨Rat.divInt (Zv W n0 n1) (Zv W d0 d1),⟨a.cast e1.symm,b.cast e2.symm⟩,hr.1.1,hr.2.1⟩
  ·cases h
 ·cases h
section
variable {n0 d0 : Bool} {n1 d1 : List Int} (la : n1.length ≤ 9223372036854775807) (lb : d1.length ≤ 9223372036854775807) (da : Dg W n1) (db : Dg W d1)
include la lb da db
end
abbrev RT:=(Bool×List Int)×Bool×List Int
def RT.f (r:RT):Int:=qnx r.1.1 r.1.2 r.2.1 r.2.2
def RT.good (r:RT):Prop:=(r.1.2.length≤9223372036854775807∧Dg W r.1.2)∧r.2.2.length≤9223372036854775807∧Dg W r.2.2
section
variable {x0 x2 y0 y2 : Bool} {x1 x3 y1 y3 : List Int} {x y : Rat} (hx : Fr x0 x1 x2 x3 x) (hy : Fr y0 y1 y2 y3 y) (l1 : x1.length ≤ 72) (l3 : x3.length ≤ 72) (m1 : y1.length ≤ 72) (m3 : y3.length ≤ 72)
include hx hy l1 l3 m1 m3
end

structure Tx (z:Int) (s:ByteArray):Prop where
 nz:z=0→s=bytesOf [48]
 ex:z≠0→∃l,Cn 10 l∧V 10 l=z.natAbs∧s=bytesOf ((if z<0 then [45] else [])++(sg l).reverse)
theorem Tx.ext {z:Int} {s t:ByteArray} (h1:Tx z s) (h2:Tx z t):s=t:=by
 by_cases h:z=0
 ·rw [h1.nz h,h2.nz h]
 ·obtain⟨l,a1,a2,a3⟩:=h1.ex h
  obtain⟨m,b1,b2,b3⟩:=h2.ex h
  rw [a3,b3,Cn.ext (by decide) a1 b1 (by rw [a2,b2])]
end Go.Proofs.YtlnailgfialgnaaGreatDoor.Am

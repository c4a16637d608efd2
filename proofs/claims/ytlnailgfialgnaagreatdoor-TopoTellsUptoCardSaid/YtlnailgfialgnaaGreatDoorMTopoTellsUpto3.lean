/- The law TopoTellsUpto returns true for every input, and its arguments read as they did. -/
import Derived.Test.YtlnailgfialgnaaGreatDoorMTopoTellsUpto2
import Derived.KernelRfl
import Derived.Test.YtlnailgfialgnaaGreatDoorRows
import Derived.Test.YtlnailgfialgnaaGreatDoorCards
import Derived.Test.YtlnailgfialgnaaGreatDoorTie
import Derived.WalkKit
import Derived.ProofKit
import Derived.OpenShut
import Derived.ShutString
import Derived.ChangeOld
import Derived.Below
import Derived.SizedLaws
import Derived.Carry
import Derived.LaidMore
import Derived.Lay
import Derived.SevenTiedAt
import Derived.Stop.Joined
import Derived.Handed
import Derived.LaidLaws
import Derived.Deep.DeepHandedRow
import Derived.Lib.LaidTab

set_option linter.unusedVariables false
set_option linter.unusedSimpArgs false
set_option maxRecDepth 10000
namespace Go.Proofs.YtlnailgfialgnaaGreatDoor.Am
open Go
theorem qAC {α:Type} {f:Nat→Option α} {x:α} (h:∀j,f (j+40)=some x):Rn f x:=Rn.eq 40 fun k hk=>by
 obtain⟨j,rfl⟩:∃j,k=j+40:=⟨k-40,by omega⟩
 exact h j
theorem qql:Rn (fun k=>qfB k) true:=qAC fun j=>by kernel_rfl
theorem qqm (f0:List ByteArray) (f1:List Dv) (f2 f3 f4:Int) (hl:f1.length≤1000000000000000000):∀(d i:Nat) (n:Int),i+d=f1.length→∃o,Rl (fun k q=>qak k q n (i:Int) f0 f1 f2 f3 f4) o:=by
 intro d
 induction d with
 | zero=>
  intro i n e
  refine⟨_,Rl.up (f:=fun k q=>qak k q n (i:Int) f0 f1 f2 f3 f4) (r:=(n,f0,f1,f2,f3,f4)) ?_⟩
  show Rl (fun k q=>qa2 k (qak k q) _ _ _ _ _ _ _) _
  unfold qa2
  exact Rl.f (by first | omega | (simp only [decide_eq_true_eq,decide_eq_false_iff_not,Int.toNat_natCast,beq_iff_eq,bne_iff_ne,ne_eq,Int.not_lt,Int.not_le,ge_iff_le,gt_iff_lt,beq_eq_false_iff_ne,Nat.zero_add];omega)) (Rl.pure _)
 | succ d ih=>
  intro i n e
  have hi:i<f1.length:=by omega
  have eg:f1[i]? =some f1[i]:=List.getElem?_eq_getElem hi
  generalize f1[i]=x at eg
  by_cases c:n<2000
  ·obtain⟨o,ho⟩:=ih (i+1) (IntKind.wrap .i64 (n+(IntKind.wrap .i64 ((IntKind.wrap .i64 ((IntKind.wrap .i64 ((IntKind.wrap .i64 ((IntKind.wrap .i64 ((1:Int)+(min (2000:Int) (((List.length x.2.2.1):Nat):Int))))+(min (2000:Int) (((List.length x.2.2.2.2.2.1.2.1):Nat):Int))))+(min (2000:Int) (((List.length x.2.2.2.2.2.1.2.2):Nat):Int))))+(min (2000:Int) (((List.length x.2.2.2.2.2.2.2.2.1):Nat):Int))))+(min (2000:Int) (((List.length x.2.2.2.2.2.2.2.2.2):Nat):Int)))))) (by omega)
   refine⟨o,Rl.up (f:=fun k q=>qak k q n (i:Int) f0 f1 f2 f3 f4) ?_⟩
   show Rl (fun k q=>qa2 k (qak k q) _ _ _ _ _ _ _) _
   unfold qa2
   rw [qe (x:=(i:Int)+1) (by omega)]
   exact Rl.t (by first | omega | (simp only [decide_eq_true_eq,decide_eq_false_iff_not,Int.toNat_natCast,beq_iff_eq,bne_iff_ne,ne_eq,Int.not_lt,Int.not_le,ge_iff_le,gt_iff_lt,beq_eq_false_iff_ne,Nat.zero_add];omega)) (Rl.t (by first | omega | (simp only [decide_eq_true_eq,decide_eq_false_iff_not,Int.toNat_natCast,beq_iff_eq,bne_iff_ne,ne_eq,Int.not_lt,Int.not_le,ge_iff_le,gt_iff_lt,beq_eq_false_iff_ne,Nat.zero_add];omega)) (Rl.t (by first | omega | (simp only [decide_eq_true_eq,decide_eq_false_iff_not,Int.toNat_natCast,beq_iff_eq,bne_iff_ne,ne_eq,Int.not_lt,Int.not_le,ge_iff_le,gt_iff_lt,beq_eq_false_iff_ne,Nat.zero_add];omega)) (Rl.at (by rw [Int.toNat_natCast];exact eg) ho)))
  ·refine⟨_,Rl.up (f:=fun k q=>qak k q n (i:Int) f0 f1 f2 f3 f4) (r:=(n,f0,f1,f2,f3,f4)) ?_⟩
   show Rl (fun k q=>qa2 k (qak k q) _ _ _ _ _ _ _) _
   unfold qa2
   exact Rl.t (by first | omega | (simp only [decide_eq_true_eq,decide_eq_false_iff_not,Int.toNat_natCast,beq_iff_eq,bne_iff_ne,ne_eq,Int.not_lt,Int.not_le,ge_iff_le,gt_iff_lt,beq_eq_false_iff_ne,Nat.zero_add];omega)) (Rl.f (by first | omega | (simp only [decide_eq_true_eq,decide_eq_false_iff_not,Int.toNat_natCast,beq_iff_eq,bne_iff_ne,ne_eq,Int.not_lt,Int.not_le,ge_iff_le,gt_iff_lt,beq_eq_false_iff_ne,Nat.zero_add];omega)) (Rl.pure _))
theorem qts (f0:List ByteArray) (f1:List Dv) (f2 f3 f4:Int) (hl:f1.length≤1000000000000000000):∃b,Rn (fun k=>qdY k f0 f1 f2 f3 f4) b:=by
 obtain⟨o,ho⟩:=qqm f0 f1 f2 f3 f4 hl f1.length 0 f0.length (by omega)
 refine⟨_,Rn.up (f:=fun k=>qdY k f0 f1 f2 f3 f4) (r:=decide (o.1≥2000)) ?_⟩
 show Rn (fun k=>qfC k f0 f1 f2 f3 f4) _
 unfold qfC
 exact Rn.bind ho.diag (Rn.pure _)
theorem qqn (mode:Int) (L:Nat) (hL:L≤1000000000) (l2:List Int) (f0:List ByteArray) (f1:List Dv) (f2 f3 f4:Int) (n0 n1:Nat) (n2 n3 n4:Int) (m:List ByteArray) (m1:List Dv):∀(d i:Nat) (ls:List Int),i+d=L→ls.length=L→
  ∃ls',Rl (fun k q=>qan k q mode L l2 (L:Int) (i:Int) f0 f1 f2 f3 f4 n0 n1 n2 n3 n4 ls m m1) (mode,l2,f0,f1,f2,f3,f4,n0,n1,n2,n3,n4,ls',m,m1):=by
 intro d
 induction d with
 | zero=>
  intro i ls e h
  refine⟨ls,Rl.up (f:=fun k q=>qan k q mode L l2 (L:Int) (i:Int) f0 f1 f2 f3 f4 n0 n1 n2 n3 n4 ls m m1) ?_⟩
  show Rl (fun k q=>qbF k (qan k q) _ _ _ _ _ _ _ _ _ _ _ _ _ _ _ _ _ _) _
  unfold qbF
  exact Rl.f (by rw [decide_eq_true_eq];omega) (Rl.pure _)
 | succ d ih=>
  intro i ls e h
  obtain⟨ls',hr⟩:=ih (i+1) (ls.set i (-3)) (by omega) (by rw [List.length_set];exact h)
  have w1:IntKind.i64.wrap ((i:Int)+1)=((i+1:Nat):Int):=by rw [qe (by omega)];omega
  have eg:ls[0+Int.toNat (i:Int)]? =some (ls[i]'(by omega)):=by rw [Nat.zero_add,Int.toNat_natCast];exact List.getElem?_eq_getElem (by omega)
  refine⟨ls',Rl.up (f:=fun k q=>qan k q mode L l2 (L:Int) (i:Int) f0 f1 f2 f3 f4 n0 n1 n2 n3 n4 ls m m1) ?_⟩
  show Rl (fun k q=>qbF k (qan k q) _ _ _ _ _ _ _ _ _ _ _ _ _ _ _ _ _ _) _
  unfold qbF
  refine Rl.t (by rw [decide_eq_true_eq];omega) (Rl.t (by omega) (Rl.at eg ?_))
  rw [w1,Nat.zero_add,Int.toNat_natCast]
  exact hr
theorem qtt (f0:List ByteArray) (f1:List Dv) (f2 f3 f4 mode:Int) (g:Gd f0 f1):Rn (fun k=>qc1 k f0 f1 f2 f3 f4 mode) true:=by
 have hl1:=g.l1
 have hl0:=g.l0
 refine Rn.up (f:=fun k=>qc1 k f0 f1 f2 f3 f4 mode) ?_
 show Rn (fun k=>qec k f0 f1 f2 f3 f4 mode) _
 unfold qec
 obtain⟨b,hb⟩:=qts f0 f1 f2 f3 f4 (by omega)
 refine Rn.bind qql (Rn.f (by decide) (Rn.bind hb ?_))
 cases b with
 | true=>exact Rn.t rfl (Rn.pure _)
 | false=>
 refine Rn.f (by decide) ?_
 have hc:=qlK f0 f1 f2 f3 f4 g
 have hk:=qlg g (f2:=f2) (f3:=f3) (f4:=f4)
 have a1:=qkX f0 f1 f2 f3 f4 _ hc hk mode
 have a3:=qlM f0 f1 f2 f3 f4 _ hc hk mode
 have b1:=qja f0 f1 f2 f3 f4 g mode
 have b3:=qjN f0 f1 f2 f3 f4 g mode
 have c1:=qqk f0 f1 f2 f3 f4 g mode
 have c2:=qof f0 f1 f2 f3 f4 g mode
 have hs:=qtr f0 f1 f2 f3 f4 g
 have hcp:=qvo f0 f1 f2 f3 f4 g
 have q1:(qgG f0 f1 (chk f0 f1 f2 f3 f4) mode).length≤1000000000:=by
  unfold qgG
  split
  ·have:=qjx (flR (if mode=2 then qg0 else bOp) f1) f0.length;omega
  ·simp
 have q3:(qgH f1 (chk f0 f1 f2 f3 f4) mode).length≤1000000000:=by
  unfold qgH
  split
  ·have:∀(l:List Dv) (i:Nat) (rt:Nat→Nat),(lps mode l i rt).length≤l.length:=by
    intro l
    induction l with
    | nil=>intro i rt;exact Nat.le_refl _
    | cons d l ih=>
     intro i rt
     have h1:=ih (i+1) (jn rt (nd d 0) (nd d 1))
     have h2:=ih (i+1) rt
     rw [lps]
     repeat' split
     all_goals (simp only [List.length_cons];omega)
   have:=this f1 0 id;omega
  ·simp
 generalize qnN f0 f1 f2 f3 f4 mode=ct at c1 c2
 generalize qgG f0 f1 (chk f0 f1 f2 f3 f4) mode=fl at a1 b1 q1
 generalize qgH f1 (chk f0 f1 f2 f3 f4) mode=lp at a3 b3 q3
 generalize qct (chk f0 f1 f2 f3 f4) mode=e at a1 b1 a3 b3
 have i1:=qlh fl fl (by omega)
 have i3:=qlh lp lp (by omega)
 rw [decide_eq_true rfl] at i1 i3
 have tk0:List.take f0.length f0=f0:=List.take_length
 have tk1:List.take f1.length f1=f1:=List.take_length
 have tkf:List.take fl.length fl=fl:=List.take_length
 have tkl:List.take lp.length lp=lp:=List.take_length
 have le0:0+f0.length≤f0.length:=by omega
 have le1:0+f1.length≤f1.length:=by omega
 have lef:0+fl.length≤fl.length:=by omega
 have lel:0+lp.length≤lp.length:=by omega
 obtain⟨ls',hlp⟩:=qqn mode fl.length q1 fl f0 f1 f2 f3 f4 f0.length f1.length f2 f3 f4 f0 f1 fl.length 0 fl (by omega) rfl
 refine Rn.bind hcp (Rn.t le0 (Rn.t le1 ?_))
 show Rn (fun k=>Option.bind (qbb k (List.take f0.length f0) (List.take f1.length f1) f2 f3 f4 mode) _) _
 rw [tk0,tk1]
 refine Rn.bind a1 (Rn.t le0 (Rn.t le1 ?_))
 refine Rn.bind a3 (Rn.bind b1 (Rn.bind b3 (Rn.t lef ?_)))
 show Rn (fun k=>Option.bind (qay k (List.take fl.length fl) fl) _) _
 rw [tkf]
 refine Rn.bind i1 (Rn.t rfl (Rn.t (by simp) (Rn.t lel ?_)))
 show Rn (fun k=>Option.bind (qay k (List.take lp.length lp) lp) _) _
 rw [tkl]
 refine Rn.bind i3 (Rn.t rfl (Rn.t (by simp) (Rn.t le0 (Rn.t le1 ?_))))
 refine Rn.bind c1 (Rn.bind c2 (Rn.f (by simp) (Rn.bind hlp.diag (Rn.t le0 (Rn.t le1 ?_)))))
 show Rn (fun k=>Option.bind (qbb k (List.take f0.length f0) (List.take f1.length f1) f2 f3 f4 mode) _) _
 rw [tk0,tk1]
 refine Rn.bind a1 (Rn.t lef ?_)
 show Rn (fun k=>Option.bind (qay k (List.take fl.length fl) fl) _) _
 rw [tkf]
 refine Rn.bind i1 (Rn.t rfl (Rn.t le0 (Rn.t le1 ?_)))
 exact Rn.bind hs (Rn.pure _)
theorem qlj (x:qkW.D) (mode:Int) (w:qhI 8589934592 qkW x) (wm:qhI 8589934592 (.int .i64) mode):∃k,qc1 k x.1 x.2.1 x.2.2.1.1 x.2.2.1.2 x.2.2.2 mode=some true:=by
 obtain⟨K,h⟩:=qtt x.1 x.2.1 x.2.2.1.1 x.2.2.1.2 x.2.2.2 mode (qAz w)
 exact⟨K,h K (Nat.le_refl _)⟩
end Go.Proofs.YtlnailgfialgnaaGreatDoor.Am
namespace Go.Proofs.YtlnailgfialgnaaGreatDoor.topoTellsUpto
open Go.ChangeShapes Go.WideShapes Go.ChangeAt Go.RowKit
open Go.Proofs.YtlnailgfialgnaaGreatDoor.Am
set_option linter.unusedVariables false
theorem own : ownKnob Tryz.prog.godebug = none := by kernel_rfl
theorem laidOut : laidOutB Tryz.prog = true := by kernel_rfl
theorem reads (os : Os) {H : Type} (enc : TypeId × Value → H) : ∃ places, DataW.whole enc Tryz.prog ((World.laidAll Tryz.prog os Rows.topoTellsUptoRow.laid).forCall (fun _ _ => 0) ⟨#[], #[.agg #[.slice none 0 0, .slice none 0 0, .int .i64 0, .int .i64 0, .int .i64 0], .int .i64 0], []⟩).memory Tryz.f3.params.toList Rows.topoTellsSpec.vars false (#[.agg #[.slice none 0 0, .slice none 0 0, .int .i64 0, .int .i64 0, .int .i64 0], .int .i64 0] : Array Value).toList 8 = some ([.agg [.nil, .nil, .agg [.lit (.int .i64 0), .lit (.int .i64 0)], .lit (.int .i64 0)], .lit (.int .i64 0)], [], places) :=
  ⟨[], by kernel_rfl⟩
theorem laid_met (os : Os) : laidMet Tryz.prog Rows.topoTellsUptoRow.laid ((World.laidAll Tryz.prog os Rows.topoTellsUptoRow.laid).forCall (fun _ _ => 0) ⟨#[], #[.agg #[.slice none 0 0, .slice none 0 0, .int .i64 0, .int .i64 0, .int .i64 0], .int .i64 0], []⟩).memory :=
  laidMet_of_run' 8 (by kernel_rfl) (by kernel_rfl)
set_option maxRecDepth 100000 in
theorem lifted (os : Os) (started : os.Started) (H : Type) (enc : TypeId × Value → H) (F : Stop.Interp) :
    ReturnsInHanded {} Tryz.checked os 3 .any ((Rows.OpenSpec.upto Rows.topoTellsSpec).preRow enc Tryz.prog Tryz.f3 Rows.topoTellsUptoRow.domain false Rows.topoTellsUptoRow.laid) (((Rows.OpenSpec.upto Rows.topoTellsSpec).at F).post enc Tryz.prog Tryz.f3 false true false false) := by
  obtain ⟨places, hx⟩ := reads os enc
  refine returnsInHanded_of_row (C := Tryz.checked) (s := Rows.OpenSpec.upto Rows.topoTellsSpec) own started (by kernel_rfl) Tryz.func3
    (witness_row_at (enc := enc) (C := Tryz.checked) false (World.laidAll Tryz.prog os Rows.topoTellsUptoRow.laid) #[.agg #[.slice none 0 0, .slice none 0 0, .int .i64 0, .int .i64 0, .int .i64 0], .int .i64 0] (World.laidAll_os _ _ _) (by kernel_rfl) (by kernel_rfl) (by kernel_rfl)
      (OpenSpec.preRow_of_cond 8 hx (by kernel_rfl) (fun k hk => by cases hk; kernel_rfl) (by kernel_rfl) (laid_met os))) ?_
  intro W base args ds gs before hval0 hW _ hcond _ hL _ _
  have hsz0 : (DataW.weightsEach Tryz.prog [27, 3] (ds ++ gs)).all (· ≤ 8589934592) = true := qqf (by kernel_rfl) (hcond _ rfl)
  have hval : ∀ (j : Nat) t v, Tryz.f3.params[j]? = some t → args[j]? = some v → Value.okWide Tryz.prog W .any base t v := hval0
  have hW' := hW
  obtain ⟨p, q, hA0, hV, rfl, hfz, hnd⟩ := hW
  have hA : DataW.TrodAll enc Tryz.prog W 0 (fun _ => true) true Tryz.f3.params.toList args.toList ds p := hA0
  rw [Tryz.params3] at hA hval
  obtain ⟨v0, vs0, d0, ds0, p0, q0, hargs, rfl, rfl, h0, r0⟩ := trodAll_cons hA
  obtain ⟨v1, vs1, d1, ds1, p1, q1, rfl, rfl, rfl, h1, r1⟩ := trodAll_cons r0
  obtain ⟨rfl, rfl, rfl⟩ := trodAll_nil r1
  obtain rfl : args = #[v0, v1] := by cases args; simp_all
  obtain ⟨rfl, rfl⟩ := trodVars_none hV
  obtain ⟨hz0, hs0⟩ := qjL hsz0
  obtain ⟨hz1, hs1⟩ := qjL hs0
  have lt0 : ∀ x ∈ p0, x.block < W.heap.size := by obtain ⟨m, hm⟩ := h0; exact DataW.trod_lt m _ _ _ hm
  obtain ⟨y0, rv0, nm0, wf0⟩ := qnF (d := 9) (c := (.pr (.sl .str) (.pr (.sl (.pr (.int .u8) (.pr .str (.pr (.sl (.int .i64)) (.pr (.int .i64) (.pr (.pr (.int .i64) (.int .i64)) (.pr (.pr (.int .i64) (.pr (.sl (.pr (.int .i64) (.int .i64))) (.sl (.int .i64)))) (.pr .str (.pr (.int .u8) (.pr (.sl (.pr (.int .i64) (.int .i64))) (.sl (.pr (.int .i64) (.int .i64))))))))))))) (.pr (.pr (.int .i64) (.int .i64)) (.int .i64))))) true (by kernel_rfl) (by kernel_rfl) (by kernel_rfl) (hval 0 27 v0 rfl rfl) h0 hz0
  have lt1 : ∀ x ∈ p1, x.block < W.heap.size := by obtain ⟨m, hm⟩ := h1; exact DataW.trod_lt m _ _ _ hm
  obtain ⟨y1, rv1, nm1, wf1⟩ := qnF (d := 9) (c := (.int .i64)) false (by kernel_rfl) (by kernel_rfl) (by kernel_rfl) (hval 1 3 v1 rfl rfl) h1 hz1
  clear hA0 hval0
  obtain ⟨k, hk⟩ := qlj y0 y1 wf0 wf1
  refine (qs6 qvR (qAu k) (x := (y0.1, y0.2.1, y0.2.2.1.1, y0.2.2.1.2, y0.2.2.2, y1)) (y := true) hk rfl (args := [qi8 true (.pr (.sl .str) (.pr (.sl (.pr (.int .u8) (.pr .str (.pr (.sl (.int .i64)) (.pr (.int .i64) (.pr (.pr (.int .i64) (.int .i64)) (.pr (.pr (.int .i64) (.pr (.sl (.pr (.int .i64) (.int .i64))) (.sl (.int .i64)))) (.pr .str (.pr (.int .u8) (.pr (.sl (.pr (.int .i64) (.int .i64))) (.sl (.pr (.int .i64) (.int .i64))))))))))))) (.pr (.pr (.int .i64) (.int .i64)) (.int .i64)))) y0, qi8 false (.int .i64) y1]) rfl (qnw rv0 (qnw rv1 qu5)) (qkP nm0 (qkP nm1 rfl))).mono fun e W' ⟨he, bel⟩ => ?_
  subst he
  exact ⟨_, rfl, _, _, _, [], _, [], hW', trodAll_mk1 (shut_bool Tryz.underlying4 _), (trodAll_cons_mk (Below.trod laidOut (by kernel_rfl) (of_decide_eq_true (by kernel_rfl)) h0 bel lt0) (trodAll_cons_mk (Below.trod laidOut (by kernel_rfl) (of_decide_eq_true (by kernel_rfl)) h1 bel lt1) trodAll_mk0)), rfl, bel.frame _, fun h => by cases h⟩
theorem over : Rows.topoTellsUptoRow.holds Tryz.pinned (Rows.OpenSpec.upto Rows.topoTellsSpec) :=
  OpenClaim.holds_of_cond 3 Tryz.f3 rfl rfl rfl rfl rfl rfl rfl ⟨rfl, rfl, rfl, rfl, rfl⟩ rfl rfl rfl rfl rfl (by kernel_rfl) Tryz.func3 (by kernel_rfl)
    (of_decide_eq_true (by kernel_rfl)) (by unfold Func.isWrapper; first | (rw [if_pos (by decide +kernel)]; kernel_rfl) | (rw [if_neg (by decide +kernel)]; exact ⟨rfl, rfl⟩))
    (fun os started H enc _ F => by rw [OpenClaim.pre_eq_preRow]; exact lifted os started H enc F)
theorem proved : Rows.TopoTellsUptoCardSaid :=
  Claim7.holds_tied_plain_at .later [] _ _ _ _ over (fun _ h => by cases h) (by kernel_rfl) (fun _ h => by cases h) topoTellsUpto_row_tie rfl ⟨rfl, rfl⟩ (by kernel_rfl) rfl
    (fun f fn hf hfn => by
      obtain rfl : f = 3 := Option.some.inj ((show Tryz.prog.funcNamed "shunt/shuntlaw10.TopoTells" = some 3 by kernel_rfl).symm.trans hf) |>.symm
      obtain rfl : fn = Tryz.f3 := (Option.some.inj (Tryz.func3.symm.trans hfn)).symm
      exact ⟨by kernel_rfl, fun j t ht => by
        rw [Tryz.params3] at ht
        have hm : t ∈ [27, 3] := by simpa using Array.mem_of_getElem? ht
        have hall : ([27, 3].all fun u => !Tryz.prog.wantsStandIn u) = true := by kernel_rfl
        exact (show Tryz.prog.wantsStandIn t = false by simpa using List.all_eq_true.1 hall t hm)⟩)
    (by kernel_rfl)
#print axioms proved
end Go.Proofs.YtlnailgfialgnaaGreatDoor.topoTellsUpto
namespace Go.Proofs.YtlnailgfialgnaaGreatDoor
theorem topoTellsUpto_holds : Rows.TopoTellsUptoCardSaid := topoTellsUpto.proved
end Go.Proofs.YtlnailgfialgnaaGreatDoor

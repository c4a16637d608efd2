/- The abstract machine's runs: one operation, a row of operations. -/
import Derived.Test.YtbhnafdmilfobaaGreatMA1
import Derived.LoopN
import Derived.ChangeArms
import Derived.OpenShut
import Derived.Carry
import Derived.ShutString
import Derived.SizedLaws

set_option linter.unusedVariables false
set_option linter.unusedSimpArgs false
namespace Go.Proofs.YtbhnafdmilfobaaGreat.Am
open Go

section
variable {P : Program} {n : Nat} {w0 : World} {M0 : Bool → Nat → Prop} {U : Nat → Prop} {ι ι' ι0 : Io} {h h1 h2 h0 : Hp} {fr : List (Nat × Sv)} {mem mem1 : Mem} {a : Act} {w w' : World} {p : Nat}
  {c : Cfg} {callF : FuncId → List Vl → List Blk → Option (List Vl × List Blk)} {o : Oper} {nx : Nat} {e : Eff}

theorem qp.wp (hp : qp P n w0 M0 U ι h fr mem a w nx o e) {next : Act → World → Prop} {Q : Exit → Act → World → Prop} (hk : ∀ u w', Nxt n w0 M0 U ι h fr mem nx e a u w' → next (a.put o.dst u) w') : o.wp P a w next Q := by
  rcases hp with ⟨u, w', h1, h2⟩ | ⟨w', h1, h2⟩
  · exact qz5 h1 (hk u w' h2)
  · exact qwD h1 (hk _ w' h2)

theorem qrU (hT : qcp P c.T) (hC : qfZ P callF) (hs : Sim n w0 M0 U ι h fr mem a w) (hf : ∀ m, nx ≤ m → m < e.nn → ¬ U m) (he : stp c callF o fr mem nx = some e) {next : Act → World → Prop} {Q : Exit → Act → World → Prop}
    (hk : ∀ u w', Nxt n w0 M0 U ι h fr mem nx e a u w' → next (a.put o.dst u) w') : o.wp P a w next Q := by
  cases hop : o.op with
  | move x => exact (qzj hs hop he).wp hk
  | assign x => exact (qvk hs hop he).wp hk
  | pick k x y => exact (qzk hs hop he).wp hk
  | alloc t => exact (qwE hT hs hf hop he).wp hk
  | box t x => exact (qz6 hT hs hf hop he).wp hk
  | build t ps => exact (qwJ hT hs hop he).wp hk
  | buildSlice t l ps => exact (qpV hT hs hf hop he).wp hk
  | load t x => exact (qzl hT hs hop he).wp hk
  | store t x y => exact (qwF hT hs hop he).wp hk
  | nilCheck x => exact (qs3 hs hop he).wp hk
  | binOp op t x y t2 => exact (qwH hT hs hop he).wp hk
  | unOp op t x => exact (qzm hs hop he).wp hk
  | convert s d x => exact (qtX hT hs hf hop he).wp hk
  | makeSlice t l k => exact (qrO hT hs hf hop he).wp hk
  | slice t x lo hi mx => exact (qwM hT hs hop he).wp hk
  | fieldAddr s x f => exact (qrP hT hs hop he).wp hk
  | field s x f => exact (qwK hT hs hop he).wp hk
  | indexAddr t x i => exact (qrQ hT hs hop he).wp hk
  | index t x i => exact (qwL hT hs hop he).wp hk
  | extract x i => exact (qtV hs hop he).wp hk
  | call k =>
    obtain ⟨callee, args, ats⟩ := k
    cases callee with
    | value f => exact qzp hC hs hf hop he hk
    | invoke r m => simp [stp, hop] at he
    | builtin b =>
      cases b with
      | len => exact (qz8 hT hs hop he).wp hk
      | min => exact (qz9 hs hop he).wp hk
      | max => exact (qAa hs hop he).wp hk
      | append => exact (qvn hT hs hf hop he).wp hk
      | _ => simp [stp, hop] at he
  | _ => simp [stp, hop] at he

theorem Sim.put (hs : Sim n w0 M0 U ι h fr mem a w) {dst : Option Nat} {v : Sv} {u : Value} {fr' : List (Nat × Sv)} (hr : RS ι h v u) (hn : ∀ m ∈ v.nms, U m) (e : qeG n fr dst v = some fr') :
    Sim n w0 M0 U ι h fr' mem (a.put dst u) w := by
  cases dst with
  | none => cases e; exact hs
  | some d =>
    simp only [qeG] at e
    split at e
    · rename_i hd
      cases e
      refine { hs with hsize := by simp [Act.put, hs.hsize], hfr := ?_, hnm := ?_ }
      · intro t v' e'
        rw [qdP] at e'
        split at e'
        · rename_i ht
          cases e'
          subst ht
          exact ⟨u, by simp [Act.put, hs.hsize, hd], hr⟩
        · rename_i ht
          obtain ⟨u', q1, q2⟩ := hs.hfr t v' e'
          exact ⟨u', by simp [Act.put, Array.getElem?_setIfInBounds_ne ht, q1], q2⟩
      · intro t v' e' m hm
        rw [qdP] at e'
        split at e'
        · cases e'; exact hn m hm
        · exact hs.hnm t v' e' m hm
    · cases e

def qJg : Value → Option Bool
  | .bool b => some b
  | _ => none

theorem qhO (hs : Sim n w0 M0 U ι h fr mem a w) {ops : Array Oper} {b : Bool} (e : qdB ops.toList o fr = some b) : Region.wanted o (yielded ops a.tmps) = b := by
  unfold qdB at e
  unfold Region.wanted
  split at e
  · rename_i hg
    cases e
    rw [hg]
  · rename_i j want hg
    rw [hg]
    simp only [Option.bind_eq_some_iff] at e
    obtain ⟨d, ⟨o', e1, e2⟩, v, e3, e⟩ := e
    obtain ⟨u, q1, q2⟩ := hs.hfr d v e3
    have hy : yielded ops a.tmps j = qJg u := by
      have h1 : ((ops[j]?).bind (·.dst)).bind (a.tmps[·]?) = some u := by
        have : ops[j]? = some o' := by simpa using e1
        rw [this]
        simp only [Option.bind_some, e2]
        exact q1
      unfold yielded
      rw [h1]
      cases u <;> rfl
    simp only [hy]
    split at e
    · rename_i b'
      cases e
      have := RP.bool_inv (show RP h (.bool b') u from q2)
      subst this
      rfl
    · rename_i hnb
      cases e
      have hub : ∀ b', u ≠ .bool b' := by
        rintro b' rfl
        cases v with
        | v x =>
          cases x with
          | a x =>
            cases x with
            | ptr m i o => obtain ⟨L, _, hq⟩ := q2; cases hq
            | sm m lo k => rcases q2 with ⟨L, c, _, hq, _⟩ | ⟨_, _, _, hq⟩ <;> cases hq
            | bool b => exact hnb b rfl
            | _ => have q2 : RP h _ _ := q2; cases q2
          | g cs => obtain ⟨A, hq, _⟩ := q2; cases hq
        | t vs => obtain ⟨A, hq, _⟩ := q2; cases hq
        | u => cases q2
      cases u <;> first | rfl | exact absurd rfl (hub _)

structure Hist (w0 : World) (M0 : Bool → Nat → Prop) (p : Nat) (ι0 : Io) (h0 : Hp) (ι : Io) (h : Hp) : Prop where
  sub : Sub h0 h
  same : ∀ i, i < p → ι i = ι0 i
  view : ∀ b, b < w0.heap.size → ¬ M0 false b → h b = h0 b

def Cnf (n : Nat) (w0 : World) (M0 : Bool → Nat → Prop) (p : Nat) (ι0 : Io) (h0 : Hp) (σ : St) (a : Act) (w : World) : Prop :=
  ∃ ι h, Sim n w0 M0 (fun m => m < σ.nx) ι h σ.fr σ.mem a w ∧ Hist w0 M0 p ι0 h0 ι h ∧ p ≤ σ.nx

theorem qrV (ι : Io) (h : Hp) : RS ι h .u undef := rfl

theorem qrW (hT : qcp P c.T) (hC : qfZ P callF) {ops : Array Oper} {Q : Exit → Act → World → Prop} :
    ∀ (r : List Oper) (i : Nat) (σ σ' : St) (is is' : List Info) (a : Act) (w : World), ops.toList.drop i = r → Cnf n w0 M0 p ι0 h0 σ a w → qcH c callF n ops.toList r σ is = some (σ', is') →
      (∀ a' w', Cnf n w0 M0 p ι0 h0 σ' a' w' → Q .normal a' w') → wpOps P ops Q (List.range' i r.length) a w := by
  intro r
  induction r with
  | nil =>
    intro i σ σ' is is' a w _ hc he hk
    simp [qcH] at he
    obtain ⟨rfl, rfl⟩ := he
    exact hk a w hc
  | cons o r ih =>
    intro i σ σ' is is' a w hd hc he hk
    have ho : ops[i]? = some o := by
      have : ops.toList[i]? = some o := by
        have := List.getElem?_drop (xs := ops.toList) (i := i) (j := 0)
        rw [hd] at this
        simpa using this.symm
      simpa using this
    have hd' : ops.toList.drop (i + 1) = r := by
      rw [← List.drop_drop, hd]
      rfl
    simp only [List.length_cons, List.range'_succ, wpOps, ho]
    obtain ⟨ι, h, hs, hh, hp⟩ := hc
    simp only [qcH] at he
    cases hw : qdB ops.toList o σ.fr with
    | none => rw [hw] at he; simp [qeY] at he
    | some b =>
      rw [qhO hs hw]
      rw [hw] at he
      cases b with
      | false =>
        simp only [qeY] at he
        cases hp' : qeG n σ.fr o.dst .u with
        | none => rw [hp'] at he; simp [qgW] at he
        | some fr' =>
          rw [hp'] at he
          simp only [qgW] at he
          rw [if_neg (by simp)]
          exact ih (i + 1) ⟨fr', σ.mem, σ.nx⟩ σ' _ is' _ w hd' ⟨ι, h, hs.put (qrV ι h) (by simp [Sv.nms]) hp', hh, hp⟩ he hk
      | true =>
        simp only [qeY] at he
        rw [if_pos rfl]
        left
        cases hst : stp c callF o σ.fr σ.mem σ.nx with
        | none => rw [hst] at he; simp [qlG] at he
        | some e =>
          rw [hst] at he
          simp only [qlG] at he
          cases hp' : qeG n σ.fr o.dst e.v with
          | none => rw [hp'] at he; simp [qgW] at he
          | some fr' =>
            rw [hp'] at he
            simp only [qgW] at he
            refine qrU hT hC hs (fun m h1 h2 h3 => by omega) hst ?_
            rintro u w' ⟨ι', h', n1, n2, n3, n4, n5, n6, n7⟩
            refine ih (i + 1) ⟨fr', qS σ.mem e.upd, e.nn⟩ σ' _ is' _ w' hd' ⟨ι', h', ?_, ⟨hh.sub.trans n1, fun j hj => ?_, fun b hb hM => ?_⟩, by simp only; omega⟩ he hk
            · exact (n3.put n4 n5 hp').weak fun m hm => by
                simp only at hm ⊢
                rcases hm with hm | hm <;> omega
            · rw [n2 j (by omega), hh.same j hj]
            · rw [n7 b hb hM, hh.view b hb hM]

end
end Go.Proofs.YtbhnafdmilfobaaGreat.Am

/- What an operation looks at: nothing but its operands and the blocks that it qgN. -/
set_option linter.unusedVariables false
set_option linter.unusedSimpArgs false
namespace Go.Proofs.YtbhnafdmilfobaaGreat.Am
open Go

theorem qvs {ns ns' : Nat → List Nat} : ∀ (k : Nat) (ms acc : List Nat), (∀ m ∈ clo ns k ms acc, ns' m = ns m) → clo ns' k ms acc = clo ns k ms acc := by
  have pre : ∀ (k : Nat) (ms acc : List Nat) (m : Nat), m ∈ acc → m ∈ clo ns k ms acc := by
    intro k
    induction k with
    | zero => intro ms acc m hm; exact hm
    | succ k ih =>
      intro ms acc m hm
      cases ms with
      | nil => exact hm
      | cons x ms =>
        simp only [clo]
        split
        · exact ih _ _ m hm
        · exact ih _ _ m (List.mem_append_left _ hm)
  intro k
  induction k with
  | zero => intro ms acc _; rfl
  | succ k ih =>
    intro ms acc h
    cases ms with
    | nil => rfl
    | cons x ms =>
      simp only [clo] at h ⊢
      split
      · rename_i hc
        rw [if_pos hc] at h
        exact ih _ _ h
      · rename_i hc
        rw [if_neg hc] at h
        have hx : ns' x = ns x := h x (pre _ _ _ _ (by simp))
        rw [hx]
        exact ih _ _ h

theorem qdV {α β : Type} {f g : α → Option β} {l : List α} (h : ∀ x ∈ l, f x = g x) : qu f l = qu g l := by
  induction l with
  | nil => rfl
  | cons x l ih =>
    simp only [qu]
    rw [h x (List.mem_cons_self ..), ih fun y hy => h y (List.mem_cons_of_mem _ hy)]

section
variable {mem mem' : Mem} {fr fr' : List (Nat × Sv)}

def Eqm (mem mem' : Mem) (F : List Nat) : Prop := ∀ m ∈ F, qn mem' m = qn mem m

theorem qhP {x : At} (h : Eqm mem mem' x.smn) : qeF mem' x = qeF mem x := by
  cases x <;> first | rfl | skip
  simp only [qeF]
  rw [h _ (by simp [At.smn])]
theorem qt1 {x : Vl} (h : Eqm mem mem' (x.cells.flatMap At.smn)) : qeg mem' x = qeg mem x := by
  cases x with
  | a x => simp only [qeg]; rw [qhP (by simpa [Vl.cells] using h)]
  | g cs =>
    simp only [qeg]
    rw [qdV (l := cs) fun x hx => qhP fun m hm => h m (List.mem_flatMap.2 ⟨x, hx, hm⟩)]
theorem qs7 {xs : List Vl} (h : Eqm mem mem' (qgk xs)) : qu (qeg mem') xs = qu (qeg mem) xs :=
  qdV fun x hx => qt1 fun m hm => h m (List.mem_flatMap.2 ⟨x, hx, hm⟩)
theorem qt2 {b : Blk} (h : b.pr = false → Eqm mem mem' (b.els.flatMap fun e => e.flatMap At.smn)) : qfr mem' b = qfr mem b := by
  unfold qfr
  split
  · rfl
  · rename_i hp
    rw [qdV fun e he => qdV fun x hx => qhP fun m hm => h (by simpa using hp) m (List.mem_flatMap.2 ⟨e, he, List.mem_flatMap.2 ⟨x, hx, hm⟩⟩)]
theorem qlC {F : List Nat} (h : Eqm mem mem' F) : qdm mem' F = qdm mem F := by
  induction F with
  | nil => rfl
  | cons m F ih =>
    simp only [qdm]
    rw [h m (List.mem_cons_self ..), ih fun x hx => h x (List.mem_cons_of_mem _ hx)]
theorem qlD {es : Nat} {x : At} {r : Nat × List (List At) × Bool × List Nat} (e : elsOf mem es x = some r) (h : Eqm mem mem' r.2.2.2) : elsOf mem' es x = some r := by
  cases x <;> first | exact e | skip
  rename_i m lo k
  simp only [elsOf, Option.bind_eq_some_iff] at e ⊢
  obtain ⟨B, e1, e2⟩ := e
  split at e2
  · rename_i hc
    cases e2
    exact ⟨B, by rw [h m (by simp), e1], by rw [if_pos hc]⟩
  · cases e2
theorem qmG {F : List Nat} {m : Nat} (u : Mem) (hm : qn mem' m = qn mem m) : qn (qS mem' u) m = qn (qS mem u) m := by
  induction u generalizing mem mem' with
  | nil => exact hm
  | cons p u ih =>
    obtain ⟨k, b⟩ := p
    simp only [qS]
    refine ih ?_
    rw [qbr, qbr, hm]

theorem qlJ {o : Operand} (h : ∀ t, o = .tmp t → lk fr' t = lk fr t) : ev fr' o = ev fr o := by
  cases o <;> first | rfl | exact h _ rfl
theorem qpF {fr fr' : List (Nat × Sv)} {o : Operand} (h : ev fr' o = ev fr o) : gOf fr' o = gOf fr o := by unfold gOf; rw [h]
theorem qit {o : Operand} (h : ∀ t, o = .tmp t → lk fr' t = lk fr t) : evA fr' o = evA fr o := by unfold evA; rw [qlJ h]
theorem qpG {o : Operand} (h : ∀ t, o = .tmp t → lk fr' t = lk fr t) : evV fr' o = evV fr o := by unfold evV; rw [qlJ h]
theorem qvt {o : Operand} (h : ∀ t, o = .tmp t → lk fr' t = lk fr t) : evB fr' o = evB fr o := by unfold evB; rw [qit h]
theorem qpH {o : Operand} (h : ∀ t, o = .tmp t → lk fr' t = lk fr t) : evI fr' o = evI fr o := by unfold evI; rw [qit h]
theorem qiu {d : Nat} {o : Option Operand} (h : ∀ t, o = some (.tmp t) → lk fr' t = lk fr t) : qcG fr' d o = qcG fr d o := by
  cases o with
  | none => rfl
  | some o => exact qpH fun t ht => h t (by rw [ht])
theorem qiv {ps : List (Nat × Operand)} (h : ∀ i t, (i, Operand.tmp t) ∈ ps → lk fr' t = lk fr t) : qfY fr' ps = qfY fr ps :=
  qdV fun p hp => by
    obtain ⟨i, x⟩ := p
    simp only
    rw [qpG fun t ht => h i t (by rw [← ht]; exact hp)]

variable {c : Cfg} {callF : FuncId → List Vl → List Blk → Option (List Vl × List Blk)} {o : Oper} {nx : Nat} {e : Eff}

theorem Fzn.upd (F : List Nat) : ∀ {mem1 : Mem}, Fzn mem mem1 → Fzn mem (qS mem1 (qdm mem F)) := by
  induction F with
  | nil => intro mem1 h; exact h
  | cons m F ih =>
    intro mem1 h
    cases hB : qn mem m with
    | none => simp only [qdm, hB]; exact ih h
    | some B =>
      simp only [qdm, hB, qS]
      refine ih fun x => ?_
      rw [qbr]
      by_cases hx : m = x
      · rw [if_pos hx]; exact .inr ⟨B, by rw [← hx, hB], rfl⟩
      · rw [if_neg hx]; exact h x

theorem qpW {g : FuncId} {args : List Vl} (he : qfl c callF g args mem nx = some e) (hm : Eqm mem mem' e.rd) : qfl c callF g args mem' nx = some e := by
  unfold qfl at he ⊢
  simp only [Option.bind_eq_some_iff] at he ⊢
  obtain ⟨vals, e3, blks, e4, vals', e5, ⟨rs0, bs⟩, e6, rs, e7, bsR, e8, he⟩ := he
  generalize hN : clo (fun m => if c.mutA g = true then qdG mem m else qfs mem m) 64 (qh vals) [] = N at *
  generalize hF : (if c.mutA g = true then [] else qgk args ++ N.flatMap (qdN mem)) = F at *
  have hrd : Eqm mem mem' (N ++ F) := by
    cases he
    exact hm
  have hNm : Eqm mem mem' N := fun m h => hrd m (List.mem_append_left _ h)
  have hFm : Eqm mem mem' F := fun m h => hrd m (List.mem_append_right _ h)
  have hN' : clo (fun m => if c.mutA g = true then qdG mem' m else qfs mem' m) 64 (qh vals) [] = N := by
    rw [← hN]
    refine qvs _ _ _ fun m h => ?_
    rw [hN] at h
    simp only [qdG, qfs, hNm m h]
  have hsm : N.flatMap (qdN mem') = N.flatMap (qdN mem) := by
    have : ∀ (l : List Nat), (∀ m ∈ l, m ∈ N) → l.flatMap (qdN mem') = l.flatMap (qdN mem) := by
      intro l
      induction l with
      | nil => intro _; rfl
      | cons x l ih =>
        intro h
        simp only [List.flatMap_cons]
        rw [ih fun m hm => h m (List.mem_cons_of_mem _ hm)]
        congr 1
        simp only [qdN, hNm x (h x (List.mem_cons_self ..))]
    exact this N fun _ h => h
  have hF' : (if c.mutA g = true then [] else qgk args ++ N.flatMap (qdN mem')) = F := by rw [hsm, hF]
  refine ⟨vals, ?_, blks, ?_, vals', ?_, (rs0, bs), e6, rs, ?_, bsR, ?_, ?_⟩
  · split
    · rename_i hq; rw [if_pos hq] at e3; exact e3
    · rename_i hq
      rw [if_neg hq] at e3
      rw [qs7]
      · exact e3
      · intro m h
        refine hFm m ?_
        rw [← hF, if_neg hq]
        exact List.mem_append_left _ h
  · rw [hN', hF']
    rw [← e4]
    refine qdV fun m h => ?_
    rw [qmG (F := []) _ (hNm m h), qlC hFm]
    cases hb : qn (qS mem (qdm mem F)) m with
    | none => rfl
    | some b =>
      simp only [Option.bind_some]
      split
      · rfl
      · rename_i hq
        rw [qt2]
        intro hp
        intro m' hm'
        refine hFm m' ?_
        rw [← hF, if_neg hq]
        refine List.mem_append_right _ (List.mem_flatMap.2 ⟨m, h, ?_⟩)
        have hz : Fzn mem (qS mem (qdm mem F)) := Fzn.upd F (Fzn.refl mem)
        obtain ⟨B0, f1, f2, _, _, f5, _⟩ := hz.of hb
        unfold qdN
        rw [f1]
        simp only [← f5, hp]
        rw [← f2]
        simpa using hm'
  · rw [hN']; exact e5
  · rw [hN']; exact e7
  · rw [hN']; exact e8
  · rw [hN', hF', qlC hFm]; exact he

theorem qmH {t : TypeId} {s x : At} (he : qdH c t s x mem nx = some e) (hm : Eqm mem mem' e.rd) : qdH c t s x mem' nx = some e := by
  unfold qdH at he ⊢
  split at he
  · rename_i et ht
    simp only [Option.bind_eq_some_iff] at he ⊢
    obtain ⟨te, e1, src, e2, base, e3, he⟩ := he
    split at he
    · rename_i hc
      cases he
      refine ⟨te, e1, src, qlD e2 fun m h => hm m (List.mem_append_right _ h), base, ?_, by rw [if_pos hc]⟩
      split at e3
      · exact e3
      · rename_i m lo k
        simp only [Option.bind_eq_some_iff] at e3 ⊢
        obtain ⟨B, e4, e3⟩ := e3
        split at e3
        · rename_i hq
          cases e3
          exact ⟨B, by rw [hm m (List.mem_append_left _ (by simp)), e4], by rw [if_pos hq]⟩
        · cases e3
      · cases e3
    · cases he
  · cases he

theorem qvu (he : stp c callF o fr mem nx = some e) (hf : ∀ t, Operand.tmp t ∈ o.op.operands.toList → lk fr' t = lk fr t) (hm : Eqm mem mem' e.rd) : stp c callF o fr' mem' nx = some e := by
  have oE : ∀ x, x ∈ o.op.operands.toList → ev fr' x = ev fr x := fun x hx => qlJ fun t ht => hf t (ht ▸ hx)
  have oA : ∀ x, x ∈ o.op.operands.toList → evA fr' x = evA fr x := fun x hx => qit fun t ht => hf t (ht ▸ hx)
  have oV : ∀ x, x ∈ o.op.operands.toList → evV fr' x = evV fr x := fun x hx => qpG fun t ht => hf t (ht ▸ hx)
  have oB : ∀ x, x ∈ o.op.operands.toList → evB fr' x = evB fr x := fun x hx => qvt fun t ht => hf t (ht ▸ hx)
  have oI : ∀ x, x ∈ o.op.operands.toList → evI fr' x = evI fr x := fun x hx => qpH fun t ht => hf t (ht ▸ hx)
  cases hop : o.op <;> simp only [hop, Op.operands] at oE oA oV oB oI hf <;> simp only [stp, hop] at he ⊢
  case move x => rw [oE x (by simp)]; exact he
  case assign x => rw [oE x (by simp)]; exact he
  case pick k x y => rw [oB k (by simp), oA x (by simp), oA y (by simp)]; exact he
  case alloc t => exact he
  case box t x => rw [oV x (by simp)]; exact he
  case build t ps =>
    have : qu (fun p : Nat × Operand => (evV fr' p.2).bind fun v => some (p.1, v)) ps.toList = qu (fun p : Nat × Operand => (evV fr p.2).bind fun v => some (p.1, v)) ps.toList :=
      qiv fun i t h => hf t (by simp; exact ⟨i, by simpa using h⟩)
    rw [this]
    exact he
  case buildSlice t l ps =>
    have : qu (fun p : Nat × Operand => (evV fr' p.2).bind fun v => some (p.1, v)) ps.toList = qu (fun p : Nat × Operand => (evV fr p.2).bind fun v => some (p.1, v)) ps.toList :=
      qiv fun i t h => hf t (by simp; exact ⟨i, by simpa using h⟩)
    rw [this]
    exact he
  case load t x =>
    rw [oA x (by simp)]
    simp only [Option.bind_eq_some_iff] at he ⊢
    obtain ⟨ti, e1, y, e2, he⟩ := he
    refine ⟨ti, e1, y, e2, ?_⟩
    split at he
    · simp only [Option.bind_eq_some_iff] at he ⊢
      obtain ⟨B, e3, el, e4, v, e5, he⟩ := he
      cases he
      exact ⟨B, by rw [hm _ (by simp), e3], el, e4, v, e5, rfl⟩
    · exact he
    · cases he
  case store t x y =>
    rw [oA x (by simp), oV y (by simp)]
    simp only [Option.bind_eq_some_iff] at he ⊢
    obtain ⟨ti, e1, v, e2, z, e3, he⟩ := he
    refine ⟨ti, e1, v, e2, z, e3, ?_⟩
    split at he
    · simp only [Option.bind_eq_some_iff] at he ⊢
      obtain ⟨B, e4, el, e5, he⟩ := he
      split at he
      · rename_i hc
        cases he
        exact ⟨B, by rw [hm _ (by simp), e4], el, e5, by rw [if_pos hc]⟩
      · cases he
    · cases he
  case nilCheck x => rw [oA x (by simp)]; exact he
  case binOp op t x y t2 => rw [qpF (oE x (by simp)), oA x (by simp), oA y (by simp), oV y (by simp)]; exact he
  case unOp op t x => rw [oA x (by simp)]; exact he
  case convert s d x =>
    rw [oA x (by simp)]
    simp only [Option.bind_eq_some_iff] at he ⊢
    obtain ⟨y, e1, he⟩ := he
    refine ⟨y, e1, ?_⟩
    split at he
    · split at he
      · simp only [Option.bind_eq_some_iff] at he ⊢
        obtain ⟨q, e2, bs, e3, he⟩ := he
        cases he
        exact ⟨q, qlD e2 hm, bs, e3, rfl⟩
      · cases he
    · exact he
  case makeSlice t l k => rw [oI l (by simp), oI k (by simp)]; exact he
  case slice t x lo hi mx =>
    rw [oA x (by simp)]
    have hb1 : ∀ d, qcG fr' d lo = qcG fr d lo := fun d => qiu fun t ht => hf t (by simp [ht])
    have hb2 : ∀ d, qcG fr' d hi = qcG fr d hi := fun d => qiu fun t ht => hf t (by simp [ht])
    simp only [hb1, hb2]
    split at he
    · cases he
    · rename_i hmx
      rw [if_neg hmx]
      simp only [Option.bind_eq_some_iff] at he ⊢
      obtain ⟨td, e1, y, e2, he⟩ := he
      refine ⟨td, e1, y, e2, ?_⟩
      split at he
      · exact he
      · exact he
      · simp only [Option.bind_eq_some_iff] at he ⊢
        obtain ⟨te, e3, B, e4, l, b1, r, b2, he⟩ := he
        split at he
        · rename_i hc
          cases he
          exact ⟨te, e3, B, by rw [hm _ (by simp), e4], l, b1, r, b2, by rw [if_pos hc]⟩
        · cases he
      · cases he
  case fieldAddr s x f => rw [oA x (by simp)]; exact he
  case field s x f => rw [oV x (by simp)]; exact he
  case indexAddr t x i =>
    rw [oA x (by simp), oI i (by simp)]
    split at he
    · simp only [Option.bind_eq_some_iff] at he ⊢
      obtain ⟨te, e1, iv, e2, y, e3, he⟩ := he
      refine ⟨te, e1, iv, e2, y, e3, ?_⟩
      split at he
      · exact he
      · simp only [Option.bind_eq_some_iff] at he ⊢
        obtain ⟨B, e4, he⟩ := he
        split at he
        · rename_i hc
          cases he
          exact ⟨B, by rw [hm _ (by simp), e4], by rw [if_pos hc]⟩
        · cases he
      · cases he
    · cases he
  case index t x i => rw [qpF (oE x (by simp)), oA x (by simp), oI i (by simp)]; exact he
  case extract x i => rw [oE x (by simp)]; exact he
  case call k =>
    obtain ⟨callee, args, ats⟩ := k
    have hargs : ∀ x, x ∈ args.toList → x ∈ (Call.operands ⟨callee, args, ats⟩).toList := by
      intro x hx
      simp only [Call.operands, Array.toList_append, List.mem_append]
      exact .inr hx
    have harg : ∀ (i : Nat) (x : Operand), args[i]? = some x → x ∈ args.toList := by
      intro i x hx
      exact List.mem_of_getElem? (i := i) (by simpa using hx)
    have hb : ∀ i : Nat, ((args[i]?).bind fun o => evA fr' o) = (args[i]?).bind fun o => evA fr o := by
      intro i
      cases hx : args[i]? with
      | none => rfl
      | some x => exact oA x (hargs x (harg i x hx))
    cases callee with
    | value f =>
      simp only at he ⊢
      have hfm : f ∈ (Call.operands ⟨.value f, args, ats⟩).toList := by simp [Call.operands]
      rw [oA f hfm]
      simp only [Option.bind_eq_some_iff] at he ⊢
      obtain ⟨fa, e1, he⟩ := he
      refine ⟨fa, e1, ?_⟩
      split at he
      · simp only [Option.bind_eq_some_iff] at he ⊢
        obtain ⟨as, e2, he⟩ := he
        refine ⟨as, ?_, qpW he hm⟩
        rw [← e2]
        exact qdV fun x hx => oV x (hargs x hx)
      · cases he
    | invoke r m => cases he
    | builtin b =>
      cases b <;> simp only at he ⊢ <;> first | (cases he; done) | skip
      case len => rw [hb 0]; exact he
      case min => rw [hb 0, hb 1]; exact he
      case max => rw [hb 0, hb 1]; exact he
      case append =>
        rw [hb 0, hb 1]
        simp only [Option.bind_eq_some_iff] at he ⊢
        obtain ⟨t, e1, t', e2, s, e3, x, e4, he⟩ := he
        refine ⟨t, e1, t', e2, s, e3, x, e4, ?_⟩
        split at he
        · rename_i hq
          rw [if_pos hq]
          exact qmH he hm
        · cases he
  all_goals cases he

end
end Go.Proofs.YtbhnafdmilfobaaGreat.Am

/- Rows of operations whose order is drawn: whatever order is drawn, the state is the one of the text's order. -/
set_option linter.unusedVariables false
set_option linter.unusedSimpArgs false
namespace Go.Proofs.YtbhnafdmilfobaaGreat.Am
open Go

def qbq {β : Type} (L : Nat → Bool) (f : Nat → Option β) (init : Option β) : Nat → Option β
  | 0 => init
  | i + 1 => if L i then (match f i with | some x => some x | none => qbq L f init i) else qbq L f init i

theorem qrX {β : Type} {L : Nat → Bool} {f : Nat → Option β} {init : Option β} {j : Nat} (h1 : ∀ i, i < j → f i ≠ none → L i = true) :
    ∀ n, j ≤ n → (∀ k, j ≤ k → k < n → f k ≠ none → L k = false) → qbq L f init n = qbq (fun _ => true) f init j := by
  have base : ∀ i, i ≤ j → qbq L f init i = qbq (fun _ => true) f init i := by
    intro i
    induction i with
    | zero => intro _; rfl
    | succ i ih =>
      intro hi
      simp only [qbq, if_true]
      rw [ih (by omega)]
      cases hf : f i with
      | none => simp
      | some x => rw [h1 i (by omega) (by rw [hf]; simp)]; simp
  intro n
  induction n with
  | zero =>
    intro hj _
    have : j = 0 := by omega
    subst this
    rfl
  | succ n ih =>
    intro hj h2
    rcases Nat.eq_or_lt_of_le hj with hq | hq
    · rw [← hq]; exact base j (Nat.le_refl _)
    · simp only [qbq]
      rw [ih (by omega) fun k hk hk2 hf => h2 k hk (by omega) hf]
      cases hf : f n with
      | none => simp
      | some x => rw [h2 n (by omega) (by omega) (by rw [hf]; simp)]; simp

theorem qfQ {β : Type} {L L' : Nat → Bool} {f : Nat → Option β} {init : Option β} : ∀ n, (∀ i, i < n → f i ≠ none → L i = L' i) → qbq L f init n = qbq L' f init n := by
  intro n
  induction n with
  | zero => intro _; rfl
  | succ n ih =>
    intro h
    simp only [qbq]
    rw [ih fun i hi hf => h i (by omega) hf]
    cases hf : f n with
    | none => simp
    | some x => rw [h n (by omega) (by rw [hf]; simp)]

theorem qpI {β : Type} {L : Nat → Bool} {f : Nat → Option β} {init : Option β} {j : Nat} {x : β} (hj : L j = true) (hx : f j = some x) :
    ∀ n, j < n → (∀ k, j < k → k < n → f k ≠ none → L k = false) → qbq L f init n = some x := by
  intro n
  induction n with
  | zero => intro h _; omega
  | succ n ih =>
    intro h h2
    simp only [qbq]
    rcases Nat.eq_or_lt_of_le h with hq | hq
    · have : j = n := by omega
      subst this
      rw [hj, hx]
      simp
    · rw [ih (by omega) fun k hk hk2 hf => h2 k hk (by omega) hf]
      cases hf : f n with
      | none => simp
      | some y => rw [h2 n (by omega) (by omega) (by rw [hf]; simp)]; simp

section
variable {P : Program} {n : Nat} {w0 : World} {M0 : Bool → Nat → Prop} {U : Nat → Prop} {ι ι' ι0 : Io} {h h1 h2 h0 : Hp} {fr fr' : List (Nat × Sv)} {mem mem' : Mem} {a : Act} {w w' : World} {p : Nat}
  {c : Cfg} {callF : FuncId → List Vl → List Blk → Option (List Vl × List Blk)} {o : Oper} {nx : Nat} {e : Eff}

structure Rec where
  v : Sv
  upd : Mem
  rd : List Nat

def qp0 (c : Cfg) (callF : FuncId → List Vl → List Blk → Option (List Vl × List Blk)) (nt : Nat) (ops : List Oper) (o : Oper) (σ σ' : St) (r : Rec) : Prop :=
  ((qdB ops o σ.fr = some true ∧ stp c callF o σ.fr σ.mem σ.nx = some { v := r.v, upd := r.upd, nn := σ'.nx, rd := r.rd }) ∨
   (qdB ops o σ.fr = some false ∧ r = { v := .u, upd := [], rd := [] } ∧ σ'.nx = σ.nx)) ∧
  qeG nt σ.fr o.dst r.v = some σ'.fr ∧ σ'.mem = qS σ.mem r.upd

theorem qrY {nt : Nat} {ops : List Oper} : ∀ (r : List Oper) (σ σ' : St) (is is' : List Info), qcH c callF nt ops r σ is = some (σ', is') →
    ∃ (T : Nat → St) (R : Nat → Rec), T 0 = σ ∧ T r.length = σ' ∧ (∀ (i : Nat) (o : Oper), r[i]? = some o → qp0 c callF nt ops o (T i) (T (i + 1)) (R i)) ∧
      is'.reverse = is.reverse ++ (List.range r.length).map fun i => ({ rd := (R i).rd, wr := (R i).upd.map (·.1) } : Info) := by
  intro r
  induction r with
  | nil =>
    intro σ σ' is is' h
    simp [qcH] at h
    obtain ⟨rfl, rfl⟩ := h
    exact ⟨fun _ => σ, fun _ => ⟨.u, [], []⟩, rfl, rfl, by simp, by simp⟩
  | cons o r ih =>
    intro σ σ' is is' h
    simp only [qcH] at h
    have fin : ∀ (σ1 : St) (rc : Rec), qp0 c callF nt ops o σ σ1 rc → qcH c callF nt ops r σ1 ({ rd := rc.rd, wr := rc.upd.map (·.1) } :: is) = some (σ', is') →
        ∃ (T : Nat → St) (R : Nat → Rec), T 0 = σ ∧ T (o :: r).length = σ' ∧ (∀ (i : Nat) (o' : Oper), (o :: r)[i]? = some o' → qp0 c callF nt ops o' (T i) (T (i + 1)) (R i)) ∧
          is'.reverse = is.reverse ++ (List.range (o :: r).length).map fun i => ({ rd := (R i).rd, wr := (R i).upd.map (·.1) } : Info) := by
      intro σ1 rc hst hr
      obtain ⟨T, R, t1, t2, t3, t4⟩ := ih σ1 σ' _ is' hr
      refine ⟨fun i => match i with | 0 => σ | i + 1 => T i, fun i => match i with | 0 => rc | i + 1 => R i, rfl, by simpa using t2, ?_, ?_⟩
      · intro i o' hi
        cases i with
        | zero => simp at hi; subst hi; simp only [t1]; exact hst
        | succ i => simp at hi; exact t3 i o' hi
      · rw [t4]
        simp only [List.length_cons, List.range_succ_eq_map, List.map_cons, List.map_map, List.reverse_cons, List.append_assoc, List.singleton_append]
        rfl
    cases hw : qdB ops o σ.fr with
    | none => rw [hw] at h; simp [qeY] at h
    | some b =>
      rw [hw] at h
      cases b with
      | false =>
        simp only [qeY] at h
        cases hp : qeG nt σ.fr o.dst .u with
        | none => rw [hp] at h; simp [qgW] at h
        | some f =>
          rw [hp] at h
          exact fin ⟨f, σ.mem, σ.nx⟩ ⟨.u, [], []⟩ ⟨.inr ⟨hw, rfl, rfl⟩, hp, rfl⟩ h
      | true =>
        simp only [qeY] at h
        cases hst : stp c callF o σ.fr σ.mem σ.nx with
        | none => rw [hst] at h; simp [qlG] at h
        | some e =>
          rw [hst] at h
          simp only [qlG] at h
          cases hp : qeG nt σ.fr o.dst e.v with
          | none => rw [hp] at h; simp [qgW] at h
          | some f =>
            rw [hp] at h
            exact fin ⟨f, qS σ.mem e.upd, e.nn⟩ ⟨e.v, e.upd, e.rd⟩ ⟨.inl ⟨hw, hst⟩, hp, rfl⟩ h

inductive Reach (ops : List Oper) : Nat → Nat → Prop
  | edge {i j : Nat} {o : Oper} {e : Edge} (ho : ops[j]? = some o) (he : e ∈ o.after) (hb : Region.binds .any e = true) (hi : e.on = i) : Reach ops i j
  | step {i k j : Nat} {o : Oper} {e : Edge} (ho : ops[j]? = some o) (he : e ∈ o.after) (hb : Region.binds .any e = true) (hk : e.on = k) (hr : Reach ops i k) : Reach ops i j

theorem qvv (acc : List Nat) (i : Nat) : ∀ (l : List Edge) (m : Nat), (l.foldl (fun m e => m ||| 2 ^ e.on ||| acc.getD e.on 0) m).testBit i = true →
    m.testBit i = true ∨ ∃ e ∈ l, e.on = i ∨ (acc.getD e.on 0).testBit i = true := by
  intro l
  induction l with
  | nil => intro m h; exact .inl h
  | cons e l ih =>
    intro m h
    rcases ih _ h with h | ⟨e', he', h⟩
    · simp only [Nat.testBit_or, Bool.or_eq_true, Nat.testBit_two_pow, decide_eq_true_eq] at h
      rcases h with (h | h) | h
      · exact .inl h
      · exact .inr ⟨e, List.mem_cons_self .., .inl h⟩
      · exact .inr ⟨e, List.mem_cons_self .., .inr h⟩
    · exact .inr ⟨e', List.mem_cons_of_mem _ he', h⟩

theorem qt3 (ops : List Oper) : ∀ j i, ((qz4 ops).getD j 0).testBit i = true → Reach ops i j := by
  have key : ∀ (r : List Oper) (k : Nat) (acc : List Nat), acc.length = k → ops.drop k = r → (∀ j i, (acc.getD j 0).testBit i = true → Reach ops i j) →
      ∀ j i, ((r.foldl (fun acc o => acc ++ [(o.after.toList.filter (Region.binds .any)).foldl (fun m e => m ||| 2 ^ e.on ||| acc.getD e.on 0) 0]) acc).getD j 0).testBit i = true → Reach ops i j := by
    intro r
    induction r with
    | nil => intro k acc _ _ h; exact h
    | cons o r ih =>
      intro k acc hl hd h
      have ho : ops[k]? = some o := by
        have := List.getElem?_drop (xs := ops) (i := k) (j := 0)
        rw [hd] at this
        simpa using this.symm
      refine ih (k + 1) _ (by simp [hl]) (by rw [← List.drop_drop, hd]; rfl) ?_
      intro j i hi
      rw [List.getD_eq_getElem?_getD, List.getElem?_append] at hi
      split at hi
      · exact h j i (by rw [List.getD_eq_getElem?_getD]; exact hi)
      · rename_i hj
        rcases Nat.eq_or_lt_of_le (Nat.le_of_not_lt hj) with hq | hq
        · rw [← hq] at hi
          simp only [Nat.sub_self, List.getElem?_cons_zero, Option.getD_some] at hi
          have hjk : j = k := by omega
          subst hjk
          rcases qvv acc i _ _ hi with h0 | ⟨e, he, hi⟩
          · simp at h0
          · rw [List.mem_filter] at he
            obtain ⟨he, hb⟩ := he
            rcases hi with hi | hi
            · exact .edge ho (by simpa using he) hb hi
            · exact .step ho (by simpa using he) hb rfl (h _ _ hi)
        · rw [List.getElem?_eq_none (by simp; omega)] at hi
          simp at hi
  intro j i hi
  exact key ops 0 [] rfl rfl (by simp) j i hi

theorem Reach.listed {ops : List Oper} {L : Nat → Bool} (hd : ∀ j, L j = true → ∀ o, ops[j]? = some o → ∀ e ∈ o.after, Region.binds .any e = true → L e.on = true) {i j : Nat} (hr : Reach ops i j)
    (hj : ∀ o, ops[j]? = some o → ∀ e ∈ o.after, Region.binds .any e = true → L e.on = true) : L i = true := by
  induction hr with
  | edge ho he hb hi => rw [← hi]; exact hj _ ho _ he hb
  | step ho he hb hk hr ih =>
    have := hj _ ho _ he hb
    rw [hk] at this
    exact ih (hd _ this)

end
end Go.Proofs.YtbhnafdmilfobaaGreat.Am

/- Rows of operations whose order is drawn: every order drawn leaves the state of the text's order. -/
set_option linter.unusedVariables false
set_option linter.unusedSimpArgs false
namespace Go.Proofs.YtbhnafdmilfobaaGreat.Am
open Go

section
variable {P : Program} {n : Nat} {w0 : World} {M0 : Bool → Nat → Prop} {U : Nat → Prop} {ι ι' ι0 : Io} {h h1 h2 h0 : Hp} {fr fr' : List (Nat × Sv)} {mem mem' : Mem} {a : Act} {w w' : World} {p : Nat}
  {c : Cfg} {callF : FuncId → List Vl → List Blk → Option (List Vl × List Blk)} {o : Oper} {nx : Nat} {e : Eff}

theorem qvw {v : Vl} (h : Am.val v nx = some e) : e.nn = nx := by
  simp only [Am.val, Option.some.injEq] at h; subst h; rfl
theorem qzq {v : Option At} (h : Am.valA v nx = some e) : e.nn = nx := by
  simp only [Am.valA, Option.bind_eq_some_iff] at h
  obtain ⟨x, _, h⟩ := h
  exact qvw h

theorem qAb (he : stp c callF o fr mem nx = some e) : nx ≤ e.nn := by
  unfold stp at he
  split at he
  all_goals
    (repeat' first
      | (rw [qvw he]; exact Nat.le_refl _)
      | (rw [qzq he]; exact Nat.le_refl _)
      | (cases he; first | exact Nat.le_refl _ | exact Nat.le_succ _)
      | (simp only [qdH, qfl] at he)
      | (unfold qwz at he)
      | (unfold qwy at he)
      | (unfold eqG at he)
      | (cases he; done)
      | (obtain ⟨_, _, he⟩ := he)
      | (simp only [Option.bind_eq_some_iff, Option.some.injEq] at he; obtain ⟨_, _, he⟩ := he)
      | (simp only [Option.some.injEq] at he; subst he; first | exact Nat.le_refl _ | exact Nat.le_succ _ | exact Nat.le_add_right _ _)
      | split at he
      | exact Nat.le_add_right _ _)

theorem qs8 {ops : List Oper} (hf : ∀ t ∈ qgi ops o, lk fr' t = lk fr t) : qdB ops o fr' = qdB ops o fr := by
  unfold qdB
  cases hg : o.guard with
  | none => rfl
  | some jw =>
    obtain ⟨j, want⟩ := jw
    simp only
    cases hd : (ops[j]?).bind (·.dst) with
    | none => rfl
    | some d =>
      simp only [Option.bind_some]
      rw [hf d (by simp [qgi, hg, hd])]

theorem Sim.congr (hs : Sim n w0 M0 U ι h fr mem a w) (hf : ∀ t, lk fr' t = lk fr t) (hm : ∀ m, lk mem' m = lk mem m) : Sim n w0 M0 U ι h fr' mem' a w := by
  have hg : ∀ m, qn mem' m = qn mem m := fun m => by unfold qn; rw [hm m]
  exact { hs with
    hfr := fun t v e => hs.hfr t v (by rw [← hf]; exact e)
    hmem := fun m B e => hs.hmem m B (by rw [← hg]; exact e)
    hinj := fun m m' B B' L L' e e' => hs.hinj m m' B B' L L' (by rw [← hg]; exact e) (by rw [← hg]; exact e')
    hmut := fun m B L e => hs.hmut m B L (by rw [← hg]; exact e)
    hfrz := fun m B L e => hs.hfrz m B L (by rw [← hg]; exact e)
    hown := fun m B L e => hs.hown m B L (by rw [← hg]; exact e)
    hown2 := fun m B L e => hs.hown2 m B L (by rw [← hg]; exact e)
    hnm := fun t v e => hs.hnm t v (by rw [← hf]; exact e)
    hnb := fun m B e => hs.hnb m B (by rw [← hg]; exact e)
    hpr := fun m B e => hs.hpr m B (by rw [← hg]; exact e) }

def wF (ops : Array Oper) (R : Nat → Rec) (t i : Nat) : Option Sv := if ((ops[i]?).bind (·.dst)) = some t then some (R i).v else none
def wM (R : Nat → Rec) (m i : Nat) : Option (Option Blk) := lk (R i).upd.reverse m

structure Trace (c : Cfg) (callF : FuncId → List Vl → List Blk → Option (List Vl × List Blk)) (n : Nat) (ops : Array Oper) (T : Nat → St) (R : Nat → Rec) : Prop where
  step : ∀ (i : Nat) (o : Oper), ops[i]? = some o → qp0 c callF n ops.toList o (T i) (T (i + 1)) (R i)
  clash : ∀ (i j : Nat) (o p : Oper), ops[i]? = some o → ops[j]? = some p → i < j → clash ops.toList o p ⟨(R i).rd, (R i).upd.map (·.1)⟩ ⟨(R j).rd, (R j).upd.map (·.1)⟩ = true → Reach ops.toList i j
  less : ∀ (j : Nat) (o : Oper) (e : Edge), ops[j]? = some o → e ∈ o.after → Region.binds .any e = true → e.on < j

section
variable {ops : Array Oper} {T : Nat → St} {R : Nat → Rec} {L : Nat → Bool}

theorem Trace.nx1 (ht : Trace c callF n ops T R) {i : Nat} (hi : i < ops.size) : (T i).nx ≤ (T (i + 1)).nx := by
  obtain ⟨hs, _, _⟩ := ht.step i ops[i] (by simp [hi])
  rcases hs with ⟨_, hs⟩ | ⟨_, _, hs⟩
  · exact qAb hs
  · omega
theorem Trace.nxs (ht : Trace c callF n ops T R) {i j : Nat} (hij : i ≤ j) (hj : j ≤ ops.size) : (T i).nx ≤ (T j).nx := by
  induction j with
  | zero => have : i = 0 := by omega
            subst this; exact Nat.le_refl _
  | succ j ih =>
    rcases Nat.eq_or_lt_of_le hij with h | h
    · subst h; exact Nat.le_refl _
    · exact Nat.le_trans (ih (by omega) (by omega)) (ht.nx1 (by omega))

theorem Trace.frs (ht : Trace c callF n ops T R) (t : Nat) : ∀ j, j ≤ ops.size → lk (T j).fr t = qbq (fun _ => true) (wF ops R t) (lk (T 0).fr t) j := by
  intro j
  induction j with
  | zero => intro _; rfl
  | succ j ih =>
    intro hj
    have hlt : j < ops.size := by omega
    obtain ⟨_, hp, _⟩ := ht.step j ops[j] (by simp [hlt])
    simp only [qbq, if_true, wF, Array.getElem?_eq_getElem hlt, Option.bind_some]
    cases hd : ops[j].dst with
    | none =>
      rw [hd] at hp
      simp only [qeG, Option.some.injEq] at hp
      rw [← hp, ih (by omega)]
      simp
    | some d =>
      rw [hd] at hp
      simp only [qeG] at hp
      split at hp
      · rw [← Option.some.inj hp, qdP]
        by_cases hdt : d = t
        · simp [hdt]
        · rw [if_neg hdt, ih (by omega)]
          simp [hdt]
      · cases hp
theorem Trace.mems (ht : Trace c callF n ops T R) (m : Nat) : ∀ j, j ≤ ops.size → lk (T j).mem m = qbq (fun _ => true) (wM R m) (lk (T 0).mem m) j := by
  intro j
  induction j with
  | zero => intro _; rfl
  | succ j ih =>
    intro hj
    have hlt : j < ops.size := by omega
    obtain ⟨_, _, hm⟩ := ht.step j ops[j] (by simp [hlt])
    rw [hm, qto, ih (by omega)]
    simp only [qbq, if_true, wM]
    cases lk (R j).upd.reverse m <;> rfl

structure Down (ops : Array Oper) (L : Nat → Bool) : Prop where
  lt : ∀ i, L i = true → i < ops.size
  down : ∀ j, L j = true → ∀ o, ops[j]? = some o → ∀ e ∈ o.after, Region.binds .any e = true → L e.on = true

theorem qfR {β : Type} {l : List (Nat × β)} {m : Nat} (h : lk l.reverse m ≠ none) : m ∈ l.map (·.1) := by
  have : ∀ (l : List (Nat × β)), lk l m ≠ none → m ∈ l.map (·.1) := by
    intro l
    induction l with
    | nil => intro h; exact absurd rfl h
    | cons q r ih =>
      intro h
      rw [qdP] at h
      split at h
      · simp [*]
      · exact List.mem_cons_of_mem _ (ih h)
  have := this _ h
  simpa using this

theorem qlK {xs ys : List Nat} {m : Nat} (h1 : m ∈ xs) (h2 : m ∈ ys) : qmy xs ys = true := by
  simp only [qmy, List.any_eq_true, List.contains_iff_mem]
  exact ⟨m, h1, h2⟩

theorem Trace.sees (ht : Trace c callF n ops T R) (hL : Down ops L) {j : Nat} {oj : Oper} (ho : ops[j]? = some oj) (hj : L j = false)
    (hr : ∀ e ∈ oj.after, Region.binds .any e = true → L e.on = true) :
    (∀ t ∈ qgi ops.toList oj, qbq L (wF ops R t) (lk (T 0).fr t) ops.size = lk (T j).fr t) ∧
    (∀ m ∈ (R j).rd, qbq L (wM R m) (lk (T 0).mem m) ops.size = lk (T j).mem m) := by
  have hlt : j < ops.size := (Array.getElem?_eq_some_iff.1 ho).1
  have hdn : ∀ i, Reach ops.toList i j → L i = true := fun i hi =>
    hi.listed (fun k hk o' ho' => hL.down k hk o' (by simpa using ho')) (fun o' ho' => by
      have : o' = oj := by have h1 : ops[j]? = some o' := by simpa using ho'
                           rw [ho] at h1; exact (Option.some.inj h1).symm
      subst this; exact hr)
  have hup : ∀ k, Reach ops.toList j k → L k = false := fun k hk => by
    cases hq : L k with
    | false => rfl
    | true =>
      have := hk.listed (L := L) (fun k hk o' ho' => hL.down k hk o' (by simpa using ho')) (fun o' ho' => hL.down k hq o' (by simpa using ho'))
      rw [hj] at this; cases this
  constructor
  · intro t htm
    rw [ht.frs t j (by omega)]
    have hw : ∀ k, k < ops.size → wF ops R t k ≠ none → ∃ ok, ops[k]? = some ok ∧ ok.dst = some t := by
      intro k hk hne
      unfold wF at hne
      split at hne
      · rename_i hd
        simp only [Option.bind_eq_some_iff] at hd
        exact hd
      · exact absurd rfl hne
    refine qrX (fun i hi hne => ?_) _ (by omega) fun k hk hk2 hne => ?_
    · obtain ⟨oi, e1, e2⟩ := hw i (by omega) hne
      refine hdn i (ht.clash i j oi oj e1 ho hi ?_)
      simp only [Am.clash, e2, List.contains_iff_mem.2 htm, Bool.true_or]
    · rcases Nat.eq_or_lt_of_le hk with rfl | hk
      · exact hj
      · obtain ⟨ok, e1, e2⟩ := hw k hk2 hne
        refine hup k (ht.clash j k oj ok ho e1 hk ?_)
        simp only [Am.clash, e2, List.contains_iff_mem.2 htm, Bool.true_or, Bool.or_true]
  · intro m hm
    rw [ht.mems m j (by omega)]
    refine qrX (fun i hi hne => ?_) _ (by omega) fun k hk hk2 hne => ?_
    · refine hdn i (ht.clash i j _ oj (Array.getElem?_eq_getElem (by omega)) ho hi ?_)
      simp only [Am.clash, qlK (qfR hne) hm, Bool.true_or, Bool.or_true]
    · rcases Nat.eq_or_lt_of_le hk with rfl | hk
      · exact hj
      · refine hup k (ht.clash j k oj _ ho (Array.getElem?_eq_getElem hk2) hk ?_)
        simp only [Am.clash, qlK hm (qfR hne), Bool.true_or, Bool.or_true]

theorem Trace.puts (ht : Trace c callF n ops T R) (hL : Down ops L) {j : Nat} {oj : Oper} (ho : ops[j]? = some oj) (hj : L j = false) {L' : Nat → Bool}
    (hL1 : L' j = true) (hL2 : ∀ i, i ≠ j → L' i = L i) :
    (∀ t, qbq L' (wF ops R t) (lk (T 0).fr t) ops.size = if oj.dst = some t then some (R j).v else qbq L (wF ops R t) (lk (T 0).fr t) ops.size) ∧
    (∀ m, qbq L' (wM R m) (lk (T 0).mem m) ops.size = (lk (R j).upd.reverse m).or (qbq L (wM R m) (lk (T 0).mem m) ops.size)) := by
  have hlt : j < ops.size := (Array.getElem?_eq_some_iff.1 ho).1
  have hup : ∀ k, j < k → Reach ops.toList j k → L' k = false := fun k hjk hk => by
    rw [hL2 k (by omega)]
    cases hq : L k with
    | false => rfl
    | true =>
      have := hk.listed (L := L) (fun k hk o' ho' => hL.down k hk o' (by simpa using ho')) (fun o' ho' => hL.down k hq o' (by simpa using ho'))
      rw [hj] at this; cases this
  constructor
  · intro t
    by_cases hd : oj.dst = some t
    · rw [if_pos hd]
      refine qpI hL1 (by simp [wF, ho, hd]) _ hlt fun k hk hk2 hne => ?_
      unfold wF at hne
      split at hne
      · rename_i hdk
        simp only [Option.bind_eq_some_iff] at hdk
        obtain ⟨ok, e1, e2⟩ := hdk
        refine hup k hk (ht.clash j k oj ok ho e1 hk ?_)
        simp only [Am.clash, hd, e2, beq_self_eq_true, Bool.or_true, Bool.true_or]
      · exact absurd rfl hne
    · rw [if_neg hd]
      refine qfQ _ fun i hi hne => hL2 i ?_
      rintro rfl
      simp [wF, ho, hd] at hne
  · intro m
    cases hm : lk (R j).upd.reverse m with
    | some x =>
      simp only [Option.some_or]
      refine qpI hL1 hm _ hlt fun k hk hk2 hne => hup k hk (ht.clash j k oj _ ho (Array.getElem?_eq_getElem hk2) hk ?_)
      simp only [Am.clash, qlK (qfR (show lk (R j).upd.reverse m ≠ none by rw [hm]; simp)) (qfR hne), Bool.true_or, Bool.or_true]
    | none =>
      simp only [Option.none_or]
      refine qfQ _ fun i hi hne => hL2 i ?_
      rintro rfl
      exact hne hm

def Mid (n : Nat) (w0 : World) (M0 : Bool → Nat → Prop) (p : Nat) (ι0 : Io) (h0 : Hp) (ops : Array Oper) (T : Nat → St) (R : Nat → Rec) (L : Nat → Bool) (a : Act) (w : World) : Prop :=
  ∃ fr mem ι h, Sim n w0 M0 (fun m => m < (T 0).nx ∨ ∃ i, L i = true ∧ (T i).nx ≤ m ∧ m < (T (i + 1)).nx) ι h fr mem a w ∧ Hist w0 M0 p ι0 h0 ι h ∧
    (∀ t, lk fr t = qbq L (wF ops R t) (lk (T 0).fr t) ops.size) ∧ (∀ m, lk mem m = qbq L (wM R m) (lk (T 0).mem m) ops.size)

theorem Sim.ext {U' : Nat → Prop} (hs : Sim n w0 M0 U ι h fr mem a w) (hu : ∀ m, U m → U' m) : Sim n w0 M0 U' ι h fr mem a w := hs.weak hu

theorem Trace.next (hT : qcp P c.T) (hC : qfZ P callF) (ht : Trace c callF n ops T R) (hL : Down ops L) (hp : p ≤ (T 0).nx) {j : Nat} {oj : Oper} (ho : ops[j]? = some oj) (hj : L j = false)
    (hr : ∀ e ∈ oj.after, Region.binds .any e = true → L e.on = true) {L' : Nat → Bool} (hL1 : L' j = true) (hL2 : ∀ i, i ≠ j → L' i = L i)
    {Q : Exit → Act → World → Prop} {K : Act → World → Prop} (hK : ∀ a' w', Mid n w0 M0 p ι0 h0 ops T R L' a' w' → K a' w') (hc : Mid n w0 M0 p ι0 h0 ops T R L a w) : wpOp P ops Q j K a w := by
  have hlt : j < ops.size := (Array.getElem?_eq_some_iff.1 ho).1
  obtain ⟨fr, mem, ι, h, hs, hh, hf, hm⟩ := hc
  obtain ⟨s1, s2⟩ := ht.sees hL ho hj hr
  obtain ⟨p1, p2⟩ := ht.puts hL ho hj hL1 hL2
  obtain ⟨hst, hput, hmm⟩ := ht.step j oj ho
  unfold wpOp
  rw [ho]
  simp only
  have hw : qdB ops.toList oj fr = qdB ops.toList oj (T j).fr := qs8 fun t htm => by rw [hf, s1 t htm]
  have hput' : ∀ v, v = (R j).v → ∃ f', qeG n fr oj.dst v = some f' ∧ ∀ t, lk f' t = qbq L' (wF ops R t) (lk (T 0).fr t) ops.size := by
    rintro v rfl
    cases hd : oj.dst with
    | none =>
      refine ⟨fr, rfl, fun t => ?_⟩
      rw [p1, hd, hf]
      simp
    | some d =>
      rw [hd] at hput
      simp only [qeG] at hput ⊢
      split at hput
      · rename_i hdn
        rw [if_pos hdn]
        refine ⟨_, rfl, fun t => ?_⟩
        rw [p1, hd, qdP, hf]
        simp
      · cases hput
  rcases hst with ⟨hwt, hst⟩ | ⟨hwt, hR, hnx⟩
  · rw [qhO hs (hw.trans hwt), if_pos rfl]
    left
    have he : stp c callF oj fr mem (T j).nx = some { v := (R j).v, upd := (R j).upd, nn := (T (j + 1)).nx, rd := (R j).rd } := by
      refine qvu hst (fun t htm => ?_) fun m hmr => ?_
      · rw [hf]
        refine s1 t ?_
        simp only [qgi, List.mem_append, List.mem_filterMap]
        exact .inl ⟨_, htm, rfl⟩
      · unfold qn
        rw [hm, s2 m hmr]
    refine qrU hT hC hs (fun m h1 h2 h3 => ?_) he ?_
    · simp only at h2
      rcases h3 with h3 | ⟨i, hi, h3, h4⟩
      · have := ht.nxs (Nat.zero_le j) (by omega)
        omega
      · have hij : i ≠ j := by rintro rfl; rw [hj] at hi; cases hi
        have hil := hL.lt i hi
        rcases Nat.lt_or_ge i j with hq | hq
        · have := ht.nxs (show i + 1 ≤ j by omega) (by omega)
          omega
        · have := ht.nxs (show j + 1 ≤ i by omega) (by omega)
          omega
    · rintro u w' ⟨ι', h', n1, n2, n3, n4, n5, n6, n7⟩
      obtain ⟨f', e1, e2⟩ := hput' _ rfl
      refine hK _ _ ⟨f', qS mem (R j).upd, ι', h', ?_, ⟨hh.sub.trans n1, fun i hi => ?_, fun b hb hM => ?_⟩, e2, fun m => ?_⟩
      · refine (n3.put n4 n5 e1).weak fun m hm => ?_
        rcases hm with (hm | ⟨i, hi, hm⟩) | hm
        · exact .inl hm
        · exact .inr ⟨i, by rw [hL2 i (by rintro rfl; rw [hj] at hi; cases hi)]; exact hi, hm⟩
        · exact .inr ⟨j, hL1, hm⟩
      · have := ht.nxs (Nat.zero_le j) (by omega)
        rw [n2 i (by omega), hh.same i hi]
      · rw [n7 b hb hM, hh.view b hb hM]
      · rw [qto, p2, hm]
  · rw [qhO hs (hw.trans hwt), if_neg (by simp)]
    obtain ⟨f', e1, e2⟩ := hput' .u (by rw [hR])
    refine hK _ _ ⟨f', mem, ι, h, ?_, hh, e2, fun m => ?_⟩
    · refine (hs.put (qrV ι h) (by simp [Sv.nms]) e1).weak fun m hm => ?_
      rcases hm with hm | ⟨i, hi, hm⟩
      · exact .inl hm
      · exact .inr ⟨i, by rw [hL2 i (by rintro rfl; rw [hj] at hi; cases hi)]; exact hi, hm⟩
    · rw [p2, hR, hm]
      simp [lk]

theorem Mid.last (ht : Trace c callF n ops T R) (hp : p ≤ (T 0).nx) (hL : ∀ i, i < ops.size → L i = true) (hL' : Down ops L) (hc : Mid n w0 M0 p ι0 h0 ops T R L a w) : Cnf n w0 M0 p ι0 h0 (T ops.size) a w := by
  obtain ⟨fr, mem, ι, h, hs, hh, hf, hm⟩ := hc
  have hx := ht.nxs (Nat.zero_le ops.size) (Nat.le_refl _)
  refine ⟨ι, h, ((hs.congr (fr' := (T ops.size).fr) (mem' := (T ops.size).mem) (fun t => ?_) fun m => ?_).weak fun m hm => ?_), hh, by omega⟩
  · rw [hf, ht.frs t _ (Nat.le_refl _)]
    exact (qfQ _ fun i hi _ => hL i hi).symm
  · rw [hm, ht.mems m _ (Nat.le_refl _)]
    exact (qfQ _ fun i hi _ => hL i hi).symm
  · rcases hm with hm | ⟨i, hi, _, hm⟩
    · omega
    · have := ht.nxs (show i + 1 ≤ ops.size from hL'.lt i hi) (Nat.le_refl _)
      omega

def left (ops : Array Oper) (listed : Array Bool) : Nat := ((List.range ops.size).filter fun i => !listed.getD i false).length

theorem qwO {listed : Array Bool} {j : Nat} (hz : listed.size = ops.size) (hj : j < ops.size) (hf : listed.getD j false = false) : left ops (listed.setIfInBounds j true) < left ops listed := by
  unfold left
  have hsub : ((List.range ops.size).filter fun i => !(listed.setIfInBounds j true).getD i false) = (((List.range ops.size).filter fun i => !listed.getD i false).filter fun i => i != j) := by
    rw [List.filter_filter]
    apply List.filter_congr
    intro i _
    by_cases hij : i = j
    · subst hij
      simp [hz, hj]
    · rw [getD_set_ne false (Ne.symm hij)]
      simp [hij]
  rw [hsub]
  have hmem : j ∈ (List.range ops.size).filter fun i => !listed.getD i false := by simp [List.mem_filter, hj]; simpa using hf
  have := List.length_filter_lt_length_iff_exists (p := fun i => i != j) (l := (List.range ops.size).filter fun i => !listed.getD i false)
  exact this.2 ⟨j, hmem, by simp⟩

theorem Trace.any (hT : qcp P c.T) (hC : qfZ P callF) (ht : Trace c callF n ops T R) (hp : p ≤ (T 0).nx) {Q : Exit → Act → World → Prop}
    (hQ : ∀ a' w', Cnf n w0 M0 p ι0 h0 (T ops.size) a' w' → Q .normal a' w') :
    ∀ (fuel : Nat) (listed : Array Bool) (a : Act) (w : World), listed.size = ops.size → left ops listed ≤ fuel → Down ops (fun i => listed.getD i false) →
      Mid n w0 M0 p ι0 h0 ops T R (fun i => listed.getD i false) a w → wpAny P .any ops Q fuel listed a w := by
  have all : ∀ (listed : Array Bool), listed.size = ops.size → Region.ready .any ops listed = [] → ∀ i, i < ops.size → listed.getD i false = true := by
    intro listed hz hr i
    induction i using Nat.strongRecOn with
    | ind i ih =>
      intro hi
      cases hq : listed.getD i false with
      | true => rfl
      | false =>
        have : i ∈ Region.ready .any ops listed := mem_ready.2 ⟨by
          have : i < listed.size := by omega
          simp [this] at hq ⊢
          exact hq, ops[i], by simp [hi], fun e he hb => ih _ (ht.less i ops[i] e (by simp [hi]) he hb) (Nat.lt_trans (ht.less i ops[i] e (by simp [hi]) he hb) hi)⟩
        rw [hr] at this
        cases this
  intro fuel
  induction fuel with
  | zero =>
    intro listed a w hz hl hd hc
    have hall : ∀ i, i < ops.size → listed.getD i false = true := by
      intro i hi
      have h0 : left ops listed = 0 := by omega
      unfold left at h0
      rw [List.length_eq_zero_iff, List.filter_eq_nil_iff] at h0
      have := h0 i (by simp [hi])
      simpa using this
    refine ⟨?_, hQ _ _ (hc.last ht hp hall hd)⟩
    rw [List.eq_nil_iff_forall_not_mem]
    intro i hi
    obtain ⟨h1, o', ho', _⟩ := mem_ready.1 hi
    have hlt : i < ops.size := (Array.getElem?_eq_some_iff.1 ho').1
    have := hall i hlt
    have hlt' : i < listed.size := by omega
    simp [hlt'] at this h1
    rw [this] at h1
    cases h1
  | succ fuel ih =>
    intro listed a w hz hl hd hc
    refine ⟨fun hr => hQ _ _ (hc.last ht hp (all listed hz hr) hd), fun j hj => ?_⟩
    obtain ⟨h1, oj, ho, he⟩ := mem_ready.1 hj
    have hlt : j < ops.size := (Array.getElem?_eq_some_iff.1 ho).1
    have hjf : listed.getD j false = false := by
      have hlt' : j < listed.size := by omega
      simp [hlt'] at h1 ⊢
      exact h1
    have hL1 : (listed.setIfInBounds j true).getD j false = true := by
      have hlt' : j < listed.size := by omega
      simp [hlt']
    have hL2 : ∀ i, i ≠ j → (listed.setIfInBounds j true).getD i false = listed.getD i false := fun i hi => getD_set_ne false (Ne.symm hi)
    refine ht.next hT hC hd hp ho hjf he (L' := fun i => (listed.setIfInBounds j true).getD i false) hL1 hL2 (fun a' w' hm => ih _ a' w' (by simp [hz]) ?_ ?_ hm) hc
    · have := qwO hz hlt hjf
      omega
    · refine ⟨fun i hi => ?_, fun i hi o' ho' e hee hb => ?_⟩
      · by_cases hij : i = j
        · subst hij; exact hlt
        · rw [hL2 i hij] at hi; exact hd.lt i hi
      · by_cases hij : i = j
        · subst hij
          rw [ho] at ho'
          cases ho'
          exact getD_set_true (he e hee hb)
        · rw [hL2 i hij] at hi
          exact getD_set_true (hd.down i hi o' ho' e hee hb)

theorem qt4 (hT : qcp P c.T) (hC : qfZ P callF) (hm : P.follows .mixedOrders = true) {σ σ' : St} {is : List Info} {id : Nat} {Q : Exit → Act → World → Prop}
    (he : qcH c callF n ops.toList ops.toList σ [] = some (σ', is)) (hd : qmz ops.toList is.reverse = true) (hc : Cnf n w0 M0 p ι0 h0 σ a w)
    (hQ : ∀ a' w', Cnf n w0 M0 p ι0 h0 σ' a' w' → Q .normal a' w') : (Code.region id ops true).wp P Q a w := by
  obtain ⟨T, R, t1, t2, t3, t4⟩ := qrY _ _ _ _ _ he
  subst t1
  simp only [List.reverse_nil, List.nil_append] at t4
  rw [t4] at hd
  simp only [qmz, Bool.and_eq_true, qtm, List.all_eq_true, List.mem_range] at hd
  obtain ⟨⟨_, hpairs⟩, hless⟩ := hd
  have ht : Trace c callF n ops T R := by
    refine ⟨fun i o ho => t3 i o (by simpa using ho), ?_, ?_⟩
    · intro i j o p ho hp hij hcl
      have hj : j < ops.size := (Array.getElem?_eq_some_iff.1 hp).1
      have := hpairs j (by simpa using hj) i hij
      have e1 : ops.toList[i]? = some o := by simpa using ho
      have e2 : ops.toList[j]? = some p := by simpa using hp
      rw [e1, e2] at this
      simp only [List.getElem?_map, List.getElem?_range (show i < ops.toList.length by simp; omega), List.getElem?_range (show j < ops.toList.length by simpa using hj), Option.map_some] at this
      rw [hcl] at this
      simp only [Bool.not_true, Bool.false_or] at this
      exact qt3 _ _ _ this
    · intro j o e ho hee hb
      have hj : j < ops.size := (Array.getElem?_eq_some_iff.1 ho).1
      have h1 := hless (o, j) (by rw [List.mem_zipIdx_iff_getElem?]; simpa using ho)
      simp only [Array.all_eq_true_iff_forall_mem, Bool.or_eq_true, Bool.not_eq_true', decide_eq_true_eq] at h1
      rcases h1 e hee with h2 | h2
      · rw [hb] at h2; cases h2
      · exact h2
  obtain ⟨ι, h, hs, hh, hp⟩ := hc
  refine wp_region_any hm (ht.any hT hC hp (fun a' w' hc' => hQ a' w' (by rw [← t2]; simpa using hc')) _ _ _ _ (by simp) ?_ ?_ ?_)
  · unfold left
    exact Nat.le_trans (List.length_filter_le _ _) (by simp)
  · refine ⟨fun i hi => ?_, fun i hi => ?_⟩
    all_goals
      simp only [Array.getD_eq_getD_getElem?, Array.getElem?_replicate] at hi
      split at hi <;> simp at hi
  · refine ⟨(T 0).fr, (T 0).mem, ι, h, hs.drew.weak fun m hm => .inl hm, hh, fun t => ?_, fun m => ?_⟩
    all_goals
      have key : ∀ {β : Type} (f : Nat → Option β) (init : Option β) (k : Nat), qbq (fun i => (Array.replicate ops.size false).getD i false) f init k = init := by
        intro β f init k
        induction k with
        | zero => rfl
        | succ k ih =>
          have : (Array.replicate ops.size false).getD k false = false := by
            simp only [Array.getD_eq_getD_getElem?, Array.getElem?_replicate]
            split <;> rfl
          simp only [qbq, this]
          exact ih
      rw [key]
end
end
end Go.Proofs.YtbhnafdmilfobaaGreat.Am

/- Code: a loop's head keeps what is named; every code that the machine runs. -/
set_option linter.unusedVariables false
set_option linter.unusedSimpArgs false
namespace Go.Proofs.YtbhnafdmilfobaaGreat.Am
open Go

section
variable {P : Program} {n : Nat} {w0 : World} {M0 : Bool → Nat → Prop} {U : Nat → Prop} {ι ι' ι0 : Io} {h h1 h2 h0 : Hp} {fr fr' : List (Nat × Sv)} {mem mem' : Mem} {a : Act} {w w' : World} {p : Nat}
  {c : Cfg} {callF : FuncId → List Vl → List Blk → Option (List Vl × List Blk)} {o : Oper} {nx : Nat} {e : Eff}

theorem Sim.reword (hs : Sim n w0 M0 U ι h fr mem a w) {m : Nat} {B B' : Blk} (he : qn mem m = some B) (hes : B'.es = B.es) (hty : B'.ty = B.ty) (hfz : B'.fz = B.fz)
    (hnil : B.els = [] → B'.els = []) (hr : ∀ C, RBs ι h C B.es B.els → RBs ι h C B'.es B'.els) (hn : ∀ m' ∈ B'.nms, U m') (hp : B'.pr = true → ∀ e ∈ B'.els, ∀ x ∈ e, x.pr = true) :
    Sim n w0 M0 U ι h fr (qcL mem (m, some B')) a w := by
  have hh : ∀ x B1, qn (qcL mem (m, some B')) x = some B1 → (x = m ∧ B1 = B') ∨ (x ≠ m ∧ qn mem x = some B1) := by
    intro x B1 e
    rw [qbr] at e
    by_cases hx : m = x
    · rw [if_pos hx] at e; exact .inl ⟨hx.symm, by simpa using e.symm⟩
    · rw [if_neg hx] at e; exact .inr ⟨Ne.symm hx, e⟩
  have hh2 : ∀ x B1, qn (qcL mem (m, some B')) x = some B1 → ∃ B2, qn mem x = some B2 ∧ B1.fz = B2.fz := by
    intro x B1 e
    rcases hh x B1 e with ⟨rfl, rfl⟩ | ⟨hx, e'⟩
    · exact ⟨B, he, hfz⟩
    · exact ⟨B1, e', rfl⟩
  refine { hs with hmem := ?_, hinj := ?_, hmut := ?_, hfrz := ?_, hown := ?_, hown2 := ?_, hnb := ?_, hpr := ?_ }
  · intro x B1 e
    rcases hh x B1 e with ⟨rfl, rfl⟩ | ⟨hx, e'⟩
    · have hb := hs.hmem x B he
      unfold RB at hb ⊢
      cases hL : ι x with
      | none => rw [hL] at hb; exact hnil hb
      | some L =>
        rw [hL] at hb
        obtain ⟨C, q1, q2, q3, q4⟩ := hb
        exact ⟨C, by rw [q1, hty], q2, by rw [q3, hes], hr C q4⟩
    · exact hs.hmem x B1 e'
  · intro x y B1 B2 L1 L2 e1 e2
    obtain ⟨B3, f1, _⟩ := hh2 x B1 e1
    obtain ⟨B4, f2, _⟩ := hh2 y B2 e2
    exact hs.hinj x y B3 B4 L1 L2 f1 f2
  · intro x B1 L e hz
    obtain ⟨B2, f1, f2⟩ := hh2 x B1 e
    exact hs.hmut x B2 L f1 (by rw [← f2]; exact hz)
  · intro x B1 L e hz
    obtain ⟨B2, f1, f2⟩ := hh2 x B1 e
    exact hs.hfrz x B2 L f1 (by rw [← f2]; exact hz)
  · intro x B1 L e hz
    obtain ⟨B2, f1, f2⟩ := hh2 x B1 e
    exact hs.hown x B2 L f1 (by rw [← f2]; exact hz)
  · intro x B1 L e
    obtain ⟨B2, f1, f2⟩ := hh2 x B1 e
    exact hs.hown2 x B2 L f1
  · intro x B1 e
    rcases hh x B1 e with ⟨rfl, rfl⟩ | ⟨hx, e'⟩
    · exact ⟨(hs.hnb x B he).1, hn⟩
    · exact hs.hnb x B1 e'
  · intro x B1 e hq
    rcases hh x B1 e with ⟨rfl, rfl⟩ | ⟨hx, e'⟩
    · exact hp hq
    · exact hs.hpr x B1 e' hq

theorem qhQ (hs : Sim n w0 M0 (fun m => m < nx) ι h fr mem a w) {x : At} {v : Value} (hr : RA ι h x v) (hn : ∀ m ∈ x.nm, m < nx) :
    nx ≤ (qdn nx x).2.2 ∧ Sim n w0 M0 (fun m => m < (qdn nx x).2.2) ι h fr (qS mem (qdn nx x).2.1) a w ∧ RA ι h (qdn nx x).1 v ∧ ∀ m ∈ (qdn nx x).1.nm, m < (qdn nx x).2.2 := by
  have same : (qdn nx x) = (x, [], nx) → _ := fun (e : qdn nx x = (x, [], nx)) => (show nx ≤ (qdn nx x).2.2 ∧ Sim n w0 M0 (fun m => m < (qdn nx x).2.2) ι h fr (qS mem (qdn nx x).2.1) a w ∧ RA ι h (qdn nx x).1 v ∧ ∀ m ∈ (qdn nx x).1.nm, m < (qdn nx x).2.2 by
    rw [e]; exact ⟨Nat.le_refl _, hs, hr, hn⟩)
  cases x with
  | snil es ty =>
    simp only [qdn, qS]
    have h1 := hs.nameNil nx (by simp) { els := [], es := es, ty := ty, pr := true, fz := false } rfl
    refine ⟨by omega, h1.weak fun m hm => by rcases hm with hm | hm <;> omega, ?_, by simp [At.nm]⟩
    have hr : RP h _ _ := hr
    cases hr
    refine .inr ⟨?_, rfl, rfl, rfl⟩
    cases hL : ι nx with
    | none => rfl
    | some L => have := (hs.hdom nx L hL).1; simp at this
  | _ => exact same rfl

theorem qgb : ∀ {cs : List At} {nx : Nat} {mem : Mem} {us : List Value}, Sim n w0 M0 (fun m => m < nx) ι h fr mem a w → RL ι h cs us → (∀ x ∈ cs, ∀ m ∈ x.nm, m < nx) →
    nx ≤ (qd3 nx cs).2.2 ∧ Sim n w0 M0 (fun m => m < (qd3 nx cs).2.2) ι h fr (qS mem (qd3 nx cs).2.1) a w ∧ RL ι h (qd3 nx cs).1 us ∧ ∀ x ∈ (qd3 nx cs).1, ∀ m ∈ x.nm, m < (qd3 nx cs).2.2 := by
  intro cs
  induction cs with
  | nil => intro nx mem us hs hr hn; exact ⟨Nat.le_refl _, hs, hr, hn⟩
  | cons x r ih =>
    intro nx mem us hs hr hn
    cases us with
    | nil => exact absurd hr.1 (by simp)
    | cons u us =>
      have hx : RA ι h x u := by obtain ⟨u', e1, e2⟩ := hr.2 0 x rfl; simp at e1; subst e1; exact e2
      have hr' : RL ι h r us := ⟨by simpa using hr.1, fun j y e => by simpa using hr.2 (j + 1) y (by simpa using e)⟩
      obtain ⟨a1, a2, a3, a4⟩ := qhQ hs hx (hn x (List.mem_cons_self ..))
      obtain ⟨b1, b2, b3, b4⟩ := ih a2 hr' fun y hy m hm => Nat.lt_of_lt_of_le (hn y (List.mem_cons_of_mem _ hy) m hm) a1
      simp only [qd3]
      refine ⟨Nat.le_trans a1 b1, by rw [qdr]; exact b2, RL.cons a3 b3, fun y hy m hm => ?_⟩
      rcases List.mem_cons.1 hy with rfl | hy
      · exact Nat.lt_of_lt_of_le (a4 m hm) b1
      · exact b4 y hy m hm

def qjK (ι : Io) (h : Hp) (a : Act) (k : Nat) (frs : List (Nat × Sv)) : Prop := ∀ p ∈ frs, ∃ x u, p.2 = .v x ∧ a.tmps[p.1]? = some u ∧ RV ι h x u ∧ ∀ m ∈ qh [x], m < k
theorem qjK.mono {k k' : Nat} {frs : List (Nat × Sv)} (hs : qjK ι h a k frs) (hk : k ≤ k') : qjK ι h a k' frs := fun q hq => by
  obtain ⟨x, u, q1, q2, q3, q4⟩ := hs q hq
  exact ⟨x, u, q1, q2, q3, fun m hm => Nat.lt_of_lt_of_le (q4 m hm) hk⟩

theorem qs9 {σ : St} (hs : Sim n w0 M0 (fun m => m < σ.nx) ι h σ.fr σ.mem a w) : ∀ {ks : List Kp} {q : List (Nat × Sv) × Mem × Nat}, qft σ ks = some q →
    σ.nx ≤ q.2.2 ∧ Sim n w0 M0 (fun m => m < q.2.2) ι h σ.fr (qS σ.mem q.2.1) a w ∧ qjK ι h a q.2.2 q.1 := by
  intro ks
  induction ks with
  | nil => intro q e; cases e; exact ⟨Nat.le_refl _, hs, fun p hp => by cases hp⟩
  | cons k r ih =>
    intro q e
    cases k with
    | s t =>
      simp only [qft, Option.bind_eq_some_iff] at e
      obtain ⟨q0, e0, e⟩ := e
      obtain ⟨i1, i2, i3⟩ := ih e0
      split at e
      · rename_i x hl
        cases e
        obtain ⟨u, f1, f2⟩ := i2.hfr t _ hl
        obtain ⟨a1, a2, a3, a4⟩ := qhQ i2 (x := x) (v := u) f2 fun m hm => i2.hnm t _ hl m (by simpa [Sv.nms, qh, Vl.cells] using hm)
        refine ⟨Nat.le_trans i1 a1, by simp only; rw [qdr]; exact a2, fun q hq => ?_⟩
        rcases List.mem_cons.1 hq with rfl | hq
        · exact ⟨_, u, rfl, f1, a3, fun m hm => a4 m (by simpa [qh, Vl.cells] using hm)⟩
        · exact i3.mono a1 q hq
      · rename_i cs hl
        cases e
        obtain ⟨u, f1, f2⟩ := i2.hfr t _ hl
        obtain ⟨A, rfl, f3⟩ : RV ι h (.g cs) u := f2
        obtain ⟨a1, a2, a3, a4⟩ := qgb i2 f3 fun x hx m hm => i2.hnm t _ hl m (by simp only [Sv.nms, qh, Vl.cells, List.flatMap_cons, List.flatMap_nil, List.append_nil, List.mem_flatMap]; exact ⟨x, hx, hm⟩)
        refine ⟨Nat.le_trans i1 a1, by simp only; rw [qdr]; exact a2, fun q hq => ?_⟩
        rcases List.mem_cons.1 hq with rfl | hq
        · refine ⟨_, _, rfl, f1, ⟨A, rfl, a3⟩, fun m hm => ?_⟩
          simp only [qh, Vl.cells, List.flatMap_cons, List.flatMap_nil, List.append_nil, List.mem_flatMap] at hm
          obtain ⟨x, hx, hm⟩ := hm
          exact a4 x hx m hm
        · exact i3.mono a1 q hq
      · cases e
    | b t =>
      simp only [qft, Option.bind_eq_some_iff] at e
      obtain ⟨q0, e0, e⟩ := e
      obtain ⟨i1, i2, i3⟩ := ih e0
      split at e
      · rename_i m o hl
        simp only [Option.bind_eq_some_iff] at e
        obtain ⟨B, e1, e⟩ := e
        split at e
        · rename_i el hel
          cases e
          obtain ⟨u, f1, f2⟩ := i2.hfr t _ hl
          have hL0 : ∃ L, ι m = some L := by obtain ⟨L, hL, _⟩ : RA ι h (.ptr m 0 o) u := f2; exact ⟨L, hL⟩
          obtain ⟨L, hL⟩ := hL0
          have hb := i2.hmem m B e1
          unfold RB at hb
          rw [hL] at hb
          obtain ⟨C, c1, c2, c3, c4⟩ := hb
          -- the cells' values
          have hcells : ∀ C, RBs ι h C B.es B.els → ∃ us : List Value, RL ι h el us ∧ ∀ j u, us[j]? = some u → j < el.length → C[0 * B.es + j]? = some u := by
            intro C hC
            obtain ⟨k1, k2⟩ := hC 0 el (by rw [hel]; rfl)
            refine ⟨(List.range el.length).map fun j => (C[0 * B.es + j]?).getD undef, ⟨by simp, fun j x hx => ?_⟩, fun j u hu hj => ?_⟩
            · obtain ⟨u, g1, g2⟩ := k2 j x hx
              have hj : j < el.length := by
                rcases Nat.lt_or_ge j el.length with h' | h'
                · exact h'
                · rw [List.getElem?_eq_none (by omega)] at hx; cases hx
              exact ⟨u, by simp [hj]; simpa using congrArg (·.getD undef) g1, g2⟩
            · simp [hj] at hu
              obtain ⟨u', g1, g2⟩ := k2 j el[j] (List.getElem?_eq_getElem hj)
              rw [g1]
              simp at g1
              rw [g1] at hu
              simpa using hu
          obtain ⟨us, r1, r2⟩ := hcells C c4
          have hnm : ∀ x ∈ el, ∀ m' ∈ x.nm, m' < q0.2.2 := fun x hx m' hm' => (i2.hnb m B e1).2 m' (by
            simp only [Blk.nms, List.mem_flatMap]; exact ⟨el, by rw [hel]; simp, x, hx, hm'⟩)
          obtain ⟨a1, a2, a3, a4⟩ := qgb i2 r1 hnm
          have hkeep : ∀ (cs : List At) (k : Nat) (mem : Mem), m < k → qn (qS mem (qd3 k cs).2.1) m = qn mem m := by
            intro cs
            induction cs with
            | nil => intro k mem _; rfl
            | cons x r ih =>
              intro k mem hk
              simp only [qd3, qdr]
              have h1 : k ≤ (qdn k x).2.2 := by cases x <;> simp [qdn]
              rw [ih _ _ (Nat.lt_of_lt_of_le hk h1)]
              cases x <;> simp only [qdn, qS]
              rw [qbr, if_neg (by omega)]
          have hmm : m < q0.2.2 := (i2.hnb m B e1).1
          have e1' := (hkeep el q0.2.2 (qS σ.mem q0.2.1) hmm).trans e1
          have a5 := a2.reword (B' := { B with els := [(qd3 q0.2.2 el).1], pr := (qd3 q0.2.2 el).1.all At.pr }) e1' rfl rfl rfl (by rw [hel]; simp)
            (fun C hC => by
              obtain ⟨us, r1, r2⟩ := hcells C hC
              obtain ⟨_, _, b3, _⟩ := qgb i2 r1 hnm
              have hlen := (hC 0 el (by rw [hel]; rfl)).1
              intro i e' he'
              cases i with
              | succ i => simp at he'
              | zero =>
                simp at he'
                subst he'
                refine ⟨by rw [b3.1, ← r1.1, hlen], fun j x hx => ?_⟩
                obtain ⟨u, g1, g2⟩ := b3.2 j x hx
                have hj : j < el.length := by
                  rw [r1.1]
                  exact (List.getElem?_eq_some_iff.1 g1).1
                exact ⟨u, r2 j u g1 hj, g2⟩)
            (fun m' hm' => by
              simp only [Blk.nms, List.flatMap_cons, List.flatMap_nil, List.append_nil, List.mem_flatMap] at hm'
              obtain ⟨x, hx, hm'⟩ := hm'
              exact a4 x hx m' hm')
            (fun hq e he x hx => by
              simp only [List.mem_singleton] at he
              subst he
              exact List.all_eq_true.1 hq x hx)
          refine ⟨Nat.le_trans i1 a1, ?_, fun q hq => ?_⟩
          · simp only
            rw [qdr, qdr]
            exact a5
          · rcases List.mem_cons.1 hq with rfl | hq
            · exact ⟨_, u, rfl, f1, f2, fun m' hm' => by simp [qh, Vl.cells, At.nm] at hm'; subst hm'; exact Nat.lt_of_lt_of_le hmm a1⟩
            · exact i3.mono a1 q hq
        · cases e
      · cases e

theorem qt5 {ρ : Nat → Option Nat} {k k' : Nat} {ι' : Io} : ∀ {frs fr' : List (Nat × Sv)}, qjK ι h a k frs → qlH ρ frs = some fr' → (∀ m m', ρ m = some m' → ι' m' = ι m ∧ m' < k') →
    ∀ t v, lk fr' t = some v → ∃ u, a.tmps[t]? = some u ∧ RS ι' h v u ∧ ∀ m ∈ v.nms, m < k' := by
  intro frs
  induction frs with
  | nil => intro fr' _ e _ t v hl; cases e; cases hl
  | cons q r ih =>
    intro fr' hs e hρ t v hl
    obtain ⟨t0, v0⟩ := q
    obtain ⟨x, u, q1, q2, q3, q4⟩ := hs _ (List.mem_cons_self ..)
    simp only at q1 q2
    subst q1
    simp only [qlH, Option.bind_eq_some_iff] at e
    obtain ⟨y, e1, s, e2, e⟩ := e
    cases e
    rw [qdP] at hl
    split at hl
    · rename_i ht
      cases hl
      subst ht
      refine ⟨u, q2, q3.ren e1 fun m m' hq => (hρ m m' hq).1, fun m hm => ?_⟩
      obtain ⟨m0, _, hq⟩ := qtr e1 m hm
      exact (hρ m0 m hq).2
    · exact ih (fun q hq => hs q (List.mem_cons_of_mem _ hq)) e2 hρ t v hl

theorem qt6 (bs : List Blk) (m : Nat) : qn (qei (List.range bs.length) bs) m = bs[m]? := by
  have key : ∀ (bs : List Blk) (k : Nat), qn (qei (List.range' k bs.length) bs) m = if k ≤ m then bs[m - k]? else none := by
    intro bs
    induction bs with
    | nil => intro k; simp [qei, qn, lk]
    | cons b bs ih =>
      intro k
      simp only [List.length_cons, List.range'_succ, qei]
      unfold qn
      rw [qdP]
      by_cases hk : k = m
      · subst hk; simp
      · rw [if_neg hk]
        have := ih (k + 1)
        unfold qn at this
        rw [this]
        by_cases h2 : k ≤ m
        · rw [if_pos (by omega), if_pos h2]
          have : m - k = (m - (k + 1)) + 1 := by omega
          rw [this]
          rfl
        · rw [if_neg (by omega), if_neg h2]
  have := key bs 0
  rw [List.range_eq_range']
  rw [this]
  simp

theorem Mm.sim {bs : List Blk} (hm : Mm ι h w bs) (hι : ∀ i L, ι i = some L → i < bs.length) (hsize : a.tmps.size = n) (hd : a.defers = [])
    (hf : ∀ t v, lk fr t = some v → ∃ u, a.tmps[t]? = some u ∧ RS ι h v u ∧ ∀ m ∈ v.nms, m < bs.length)
    (hown : ∀ (i : Nat) (B : Blk) (L : Loc), bs[i]? = some B → B.fz = false → ι i = some L → w0.heap.size ≤ L.b ∨ M0 false L.b)
    (hown2 : ∀ (i : Nat) (B : Blk) (L : Loc), bs[i]? = some B → ι i = some L → w0.heap.size ≤ L.b ∨ M0 true L.b)
    (hframe : ∀ b, b < w0.heap.size → ¬ M0 false b → w.heap[b]? = w0.heap[b]?) (hgrow : w0.heap.size ≤ w.heap.size) (hos : w.os = w0.os) (htape : w.tape = w0.tape) (hout : w.output = w0.output)
    (hmem : ∀ m, qn mem m = bs[m]?) : Sim n w0 M0 (fun m => m < bs.length) ι h fr mem a w := by
  have hlt : ∀ {i : Nat} {B : Blk}, bs[i]? = some B → i < bs.length := fun {i B} e => (List.getElem?_eq_some_iff.1 e).1
  refine { hsize := hsize, hdefers := hd, hfr := fun t v e => let ⟨u, q1, q2, _⟩ := hf t v e; ⟨u, q1, q2⟩, hmem := ?_, hinj := ?_, hsub := hm.sub, hmut := ?_, hfrz := ?_, hown := ?_, hown2 := ?_,
           hframe := hframe, hgrow := hgrow, hos := hos, htape := htape, houtput := hout, hnm := fun t v e => let ⟨_, _, _, q3⟩ := hf t v e; q3, hnb := ?_, hdom := ?_, hpr := ?_ }
  · intro m B e; rw [hmem] at e; exact hm.rb m B e
  · intro m m' B B' L L' e e' l l' hq; rw [hmem] at e e'; exact hm.inj m m' B B' L L' e e' l l' hq
  · intro m B L e hz l; rw [hmem] at e; exact hm.mut' m B L e hz l
  · intro m B L e hz l; rw [hmem] at e; exact hm.frz m B L e hz l
  · intro m B L e hz l; rw [hmem] at e; exact hown m B L e hz l
  · intro m B L e l; rw [hmem] at e; exact hown2 m B L e l
  · intro m B e; rw [hmem] at e; exact ⟨hlt e, hm.nm m B e⟩
  · intro m L l
    have := hι m L l
    exact ⟨this, hm.dom m _ L (List.getElem?_eq_getElem this) l⟩
  · intro m B e; rw [hmem] at e; exact hm.pr m B e

theorem qta {ks : List Kp} {σ σ' : St} (e : qfP p ks σ = some σ') (hc : Cnf n w0 M0 p ι0 h0 σ a w) : Cnf n w0 M0 p ι0 h0 σ' a w := by
  obtain ⟨ι, h, hs, hh, hp⟩ := hc
  unfold qfP at e
  simp only [Option.bind_eq_some_iff] at e
  obtain ⟨q, e1, fr', e2, bs, e3, e⟩ := e
  split at e
  · rename_i hNp
    cases e
    obtain ⟨i1, i2, i3⟩ := qs9 hs e1
    generalize hN : clo (qdG (qS σ.mem q.2.1)) 64 (List.range p ++ qh (q.1.filterMap fun s => match s.2 with | .v x => some x | _ => none)) [] = N at *
    have hNd : N.Nodup := by rw [← hN]; exact qis _ _ _ _ List.nodup_nil
    have hpN : p ≤ N.length := by
      have := congrArg List.length hNp
      simp at this
      omega
    obtain ⟨hmm, hbl, hbf⟩ := qhN i2 i2 (Fzn.refl _) (Sub.refl h) hNd (cv := true) (fun hq => by cases hq) (bs := bs) (by simpa using e3)
    have hlt : ∀ {i m : Nat}, N[i]? = some m → i < N.length := fun {i m} e => (List.getElem?_eq_some_iff.1 e).1
    refine ⟨fun j => (N[j]?).bind ι, h, ?_, ⟨hh.sub, fun i hi => ?_, hh.view⟩, hpN⟩
    · simp only
      rw [← hbl]
      refine hmm.sim ?_ i2.hsize i2.hdefers ?_ ?_ ?_ i2.hframe i2.hgrow i2.hos i2.htape i2.houtput (qt6 bs)
      · intro i L hL
        rw [hbl]
        simp only [Option.bind_eq_some_iff] at hL
        obtain ⟨m, h1, _⟩ := hL
        exact hlt h1
      · refine qt5 i3 e2 fun m m' hq => ?_
        have := qe2 hq
        refine ⟨by simp [this], by rw [hbl]; exact hlt this⟩
      · intro i B L hB hz hL
        obtain ⟨m, B1, k1, k2, k3⟩ := hbf i B hB
        simp only [k1, Option.bind_some] at hL
        exact i2.hown m B1 L k2 (by rw [← k3]; exact hz) hL
      · intro i B L hB hL
        obtain ⟨m, B1, k1, k2, k3⟩ := hbf i B hB
        simp only [k1, Option.bind_some] at hL
        exact i2.hown2 m B1 L k2 hL
    · have : N[i]? = some i := by
        have h1 : (N.take p)[i]? = (List.range p)[i]? := by rw [hNp]
        rw [List.getElem?_take, if_pos hi, List.getElem?_range hi] at h1
        exact h1
      simp only [this, Option.bind_some]
      exact hh.same i hi
  · cases e

def qrZ : Out → Exit
  | .norm _ => .normal
  | .exit i _ => .exit i
  | .ret _ => .ret
def qJh : Out → St
  | .norm σ => σ
  | .exit _ σ => σ
  | .ret σ => σ

theorem qts {F : St → Option Out} {r : Option Out} {out : Out} (e : qgl F r = some out) : (∃ σ, r = some (.norm σ) ∧ F σ = some out) ∨ (r = some out ∧ qrZ out ≠ .normal) := by
  cases r with
  | none => cases e
  | some o =>
    cases o with
    | norm σ => exact .inl ⟨σ, rfl, e⟩
    | exit i σ => cases e; exact .inr ⟨rfl, by simp [qrZ]⟩
    | ret σ => cases e; exact .inr ⟨rfl, by simp [qrZ]⟩

theorem qmI {K : Act → World → Prop} {Q : Exit → Act → World → Prop} {e : Exit} (he : e ≠ .normal) (hq : Q e a w) : Exit.then K Q e a w := by
  cases e <;> first | exact hq | exact absurd rfl he

theorem qt7 (hT : qcp P c.T) (hC : qfZ P callF) (hmo : P.follows .mixedOrders = true) {kp : Nat → List Kp} {k : Nat} :
    ∀ (code : Code) (b : Nat) (σ : St) (out : Out) (Q : Exit → Act → World → Prop) (a : Act) (w : World), qa8 c callF kp n k p b code σ = some out → Cnf n w0 M0 p ι0 h0 σ a w →
      (∀ a' w', Cnf n w0 M0 p ι0 h0 (qJh out) a' w' → Q (qrZ out) a' w') → code.wp P Q a w := by
  intro code
  induction code with
  | skip => intro b σ out Q a w e hc hQ; simp only [qa8] at e; cases e; exact wp_skip (hQ _ _ hc)
  | region id ops draw =>
    intro b σ out Q a w e hc hQ
    simp only [qa8] at e
    cases hr : qcH c callF n ops.toList ops.toList σ [] with
    | none => rw [hr] at e; cases e
    | some r =>
      obtain ⟨σ', is⟩ := r
      rw [hr] at e
      simp only [qwA] at e
      cases draw with
      | false =>
        simp only [Bool.false_and] at e
        cases e
        refine wp_region ?_
        have := qrW hT hC (ops := ops) (Q := Q) ops.toList 0 σ σ' [] is a w rfl hc hr hQ
        rw [List.range_eq_range']
        simpa using this
      | true =>
        simp only [Bool.true_and] at e
        split at e
        · cases e
        · rename_i hd
          cases e
          exact qt4 hT hC hmo hr (by simpa using hd) hc hQ
  | seq x y ihx ihy =>
    intro b σ out Q a w e hc hQ
    simp only [qa8] at e
    refine wp_seq ?_
    rcases qts e with ⟨σ1, h1, h2⟩ | ⟨h1, h2⟩
    · exact ihx b σ _ _ a w h1 hc fun a' w' hc' => ihy b σ1 out Q a' w' h2 hc' hQ
    · exact ihx b σ _ _ a w h1 hc fun a' w' hc' => qmI h2 (hQ a' w' hc')
  | cond o x y ihx ihy =>
    intro b σ out Q a w e hc hQ
    simp only [qa8] at e
    cases ht : evB σ.fr o with
    | none => rw [ht] at e; cases e
    | some t =>
      rw [ht] at e
      obtain ⟨ι, h, hs, hh, hp⟩ := hc
      refine wp_cond (hs.evB ht) ?_
      cases t with
      | true => exact ihx b σ out Q a w e ⟨ι, h, hs, hh, hp⟩ hQ
      | false => exact ihy b σ out Q a w e ⟨ι, h, hs, hh, hp⟩ hQ
  | block id x ih =>
    intro b σ out Q a w e hc hQ
    simp only [qa8] at e
    refine wp_block ?_
    cases hr : qa8 c callF kp n k p id x σ with
    | none => rw [hr] at e; cases e
    | some o =>
      rw [hr] at e
      refine ih id σ o _ a w hr hc fun a' w' hc' => ?_
      cases o with
      | norm σ' => cases e; exact hQ a' w' hc'
      | ret σ' => cases e; exact hQ a' w' hc'
      | exit i σ' =>
        simp only [qoZ] at e
        simp only [qrZ, Exit.inBlock]
        split at e
        · cases e; rw [if_pos ‹_›]; exact hQ a' w' hc'
        · cases e; rw [if_neg ‹_›]; exact hQ a' w' hc'
  | loop x ih =>
    intro b σ out Q a w e hc hQ
    simp only [qa8] at e
    refine wp_loop_rounds k ?_
    suffices h : ∀ (k' : Nat) (σ : St) (a : Act) (w : World), qgI (qfP p (kp b)) (qa8 c callF kp n k p b x) k' σ = some out → Cnf n w0 M0 p ι0 h0 σ a w → Code.rounds P x Q k' a w from h k σ a w e hc
    intro k'
    induction k' with
    | zero => intro σ a w e; cases e
    | succ k' ih2 =>
      intro σ a w e hc
      simp only [qgI] at e
      rw [rounds_succ]
      cases hh : qfP p (kp b) σ with
      | none => rw [hh] at e; cases e
      | some σ1 =>
        rw [hh] at e
        simp only [hdK] at e
        have hc1 := qta hh hc
        rcases qts e with ⟨σ2, h1, h2⟩ | ⟨h1, h2⟩
        · exact ih b σ1 _ _ a w h1 hc1 fun a' w' hc' => ih2 σ2 a' w' h2 hc'
        · exact ih b σ1 _ _ a w h1 hc1 fun a' w' hc' => qmI h2 (hQ a' w' hc')
  | exit id => intro b σ out Q a w e hc hQ; simp only [qa8] at e; cases e; exact wp_exit (hQ _ _ hc)
  | ret => intro b σ out Q a w e hc hQ; simp only [qa8] at e; cases e; exact wp_ret (hQ _ _ hc)
  | _ => intro b σ out Q a w e hc hQ; simp only [qa8] at e; cases e

end
end Go.Proofs.YtbhnafdmilfobaaGreat.Am

/- Functions: what the machine's call says, the program's call does. -/
set_option linter.unusedVariables false
set_option linter.unusedSimpArgs false
namespace Go.Proofs.YtbhnafdmilfobaaGreat.Am
open Go

section
variable {P : Program} {n : Nat} {w0 : World} {M0 : Bool → Nat → Prop} {U : Nat → Prop} {ι ι' ι0 : Io} {h h1 h2 h0 : Hp} {fr fr' : List (Nat × Sv)} {mem mem' : Mem} {a : Act} {w w' : World} {p : Nat}
  {c : Cfg} {callF : FuncId → List Vl → List Blk → Option (List Vl × List Blk)} {o : Oper} {nx : Nat} {e : Eff}

def qr0 (tmps : Array Value) : ResultVar → Sem Value
  | .tmp t => pure (tmps.getD t undef)
  | .cell a t => do loadVar t (← asAddr (tmps.getD a undef))

theorem qtb (hT : qcp P c.T) {σ : St} (hs : Sim n w0 M0 U ι h σ.fr σ.mem a w) {r : ResultVar} {v : Vl} (e : qgJ c σ r = some v) :
    ∃ u, (qr0 a.tmps r).run P w = .ok u w ∧ RV ι h v u ∧ ∀ m ∈ qh [v], U m := by
  cases r with
  | tmp t =>
    obtain ⟨q1, q2⟩ := hs.evV e
    exact ⟨_, rfl, q1, q2⟩
  | cell x t =>
    simp only [qgJ, Option.bind_eq_some_iff] at e
    obtain ⟨ti, e1, y, e2, e⟩ := e
    obtain ⟨hr, hn⟩ := hs.evA e2
    split at e
    · rename_i m i o'
      simp only [Option.bind_eq_some_iff] at e
      obtain ⟨B, e3, el, e4, e5⟩ := e
      obtain ⟨L, hL, hx⟩ := hr
      have hb := hs.hmem m B e3
      unfold RB at hb
      rw [hL] at hb
      obtain ⟨C, h1, h2, h3, h4⟩ := hb
      obtain ⟨u, r1, r2, r3⟩ := qhK (hT t ti e1) e5 (off := i * B.es) h1 (h4 i el e4).2
      refine ⟨u, ?_, r2, ?_⟩
      · have hx' : a.tmps.getD x undef = .pointer (some ⟨L.b, i * L.es + o', none⟩) := hx
        simp [qr0, hx', asAddr, h3, r1]
      · intro m' hm'
        obtain ⟨z, hz, hm'⟩ := r3 m' hm'
        refine (hs.hnb m B e3).2 m' ?_
        simp only [Blk.nms, List.mem_flatMap]
        exact ⟨el, List.mem_of_getElem? e4, z, hz, hm'⟩
    · cases e

theorem qpX (hT : qcp P c.T) {fn : Func} {σ : St} (hs : Sim n w0 M0 U ι h σ.fr σ.mem a w) {rs : List Vl} (e : qu (qgJ c σ) fn.results.toList = some rs) :
    ∃ us : Array Value, (results fn a.tmps).run P w = .ok (qgK us) w ∧ RVs ι h rs us.toList ∧ ∀ m ∈ qh rs, U m := by
  have key : ∀ (l : List ResultVar) (rs : List Vl), qu (qgJ c σ) l = some rs → ∃ us : List Value, (l.mapM (qr0 a.tmps)).run P w = .ok us w ∧ RVs ι h rs us ∧ ∀ m ∈ qh rs, U m := by
    intro l
    induction l with
    | nil => intro rs e; cases e; exact ⟨[], by simp, ⟨rfl, by simp⟩, by simp [qh]⟩
    | cons r l ih =>
      intro rs e
      simp only [qu, Option.bind_eq_some_iff] at e
      obtain ⟨v, e1, vs, e2, e⟩ := e
      cases e
      obtain ⟨u, q1, q2, q3⟩ := qtb hT hs e1
      obtain ⟨us, r1, r2, r3⟩ := ih vs e2
      refine ⟨u :: us, by simp [List.mapM_cons, q1, r1], ⟨by simp [r2.1], fun j x hj => ?_⟩, fun m hm => ?_⟩
      · cases j with
        | zero => simp at hj; subst hj; exact ⟨u, rfl, q2⟩
        | succ j => simp at hj; simpa using r2.2 j x hj
      · obtain ⟨x, hx, hm2⟩ := qbk.1 hm
        rcases List.mem_cons.1 hx with rfl | hx
        · exact q3 m hm2
        · exact r3 m (qbk.2 ⟨x, hx, hm2⟩)
  obtain ⟨us, k1, k2, k3⟩ := key _ _ e
  refine ⟨us.toArray, ?_, by simpa using k2, k3⟩
  have : results fn a.tmps = (do let vs ← fn.results.mapM (qr0 a.tmps); pure (qgK vs)) := by
    unfold results qr0 qgK
    congr 1
  rw [this, Array.mapM_eq_mapM_toList]
  simp [k1]

theorem qtc : ∀ {rs : List Vl} {nx : Nat} {mem : Mem} {us : List Value}, Sim n w0 M0 (fun m => m < nx) ι h fr mem a w → RVs ι h rs us → (∀ m ∈ qh rs, m < nx) →
    nx ≤ (qbT nx rs).2.2 ∧ Sim n w0 M0 (fun m => m < (qbT nx rs).2.2) ι h fr (qS mem (qbT nx rs).2.1) a w ∧ RVs ι h (qbT nx rs).1 us ∧ ∀ m ∈ qh (qbT nx rs).1, m < (qbT nx rs).2.2 := by
  intro rs
  induction rs with
  | nil => intro nx mem us hs hr hn; exact ⟨Nat.le_refl _, hs, hr, hn⟩
  | cons x r ih =>
    intro nx mem us hs hr hn
    cases us with
    | nil => exact absurd hr.1 (by simp)
    | cons u us =>
      have hx : RV ι h x u := by obtain ⟨u', e1, e2⟩ := hr.2 0 x rfl; simp at e1; subst e1; exact e2
      have hr' : RVs ι h r us := ⟨by simpa using hr.1, fun j y e => by simpa using hr.2 (j + 1) y (by simpa using e)⟩
      have hn1 : ∀ m ∈ qh [x], m < nx := fun m hm => hn m (qbk.2 ⟨x, List.mem_cons_self .., hm⟩)
      have hn2 : ∀ m ∈ qh r, m < nx := fun m hm => by
        obtain ⟨y, hy, hm⟩ := qbk.1 hm
        exact hn m (qbk.2 ⟨y, List.mem_cons_of_mem _ hy, hm⟩)
      have fin : ∀ (y : Vl) (k : Nat) (u1 : Mem), nx ≤ k → Sim n w0 M0 (fun m => m < k) ι h fr (qS mem u1) a w → RV ι h y u → (∀ m ∈ qh [y], m < k) → qbT nx (x :: r) = (y :: (qbT k r).1, u1 ++ (qbT k r).2.1, (qbT k r).2.2) →
          nx ≤ (qbT nx (x :: r)).2.2 ∧ Sim n w0 M0 (fun m => m < (qbT nx (x :: r)).2.2) ι h fr (qS mem (qbT nx (x :: r)).2.1) a w ∧ RVs ι h (qbT nx (x :: r)).1 (u :: us) ∧ ∀ m ∈ qh (qbT nx (x :: r)).1, m < (qbT nx (x :: r)).2.2 := by
        intro y k u1 hk hs1 hy hny eq
        obtain ⟨b1, b2, b3, b4⟩ := ih hs1 hr' fun m hm => Nat.lt_of_lt_of_le (hn2 m hm) hk
        rw [eq]
        refine ⟨Nat.le_trans hk b1, by simp only; rw [qdr]; exact b2, ⟨by simp [b3.1], fun j z e => ?_⟩, fun m hm => ?_⟩
        · cases j with
          | zero => simp at e; subst e; exact ⟨u, rfl, hy⟩
          | succ j => simp at e; simpa using b3.2 j z e
        · obtain ⟨z, hz, hm2⟩ := qbk.1 hm
          rcases List.mem_cons.1 hz with rfl | hz
          · exact Nat.lt_of_lt_of_le (hny m hm2) b1
          · exact b4 m (qbk.2 ⟨z, hz, hm2⟩)
      cases x with
      | a x =>
        obtain ⟨a1, a2, a3, a4⟩ := qhQ hs (x := x) hx fun m hm => hn1 m (by simpa [qh, Vl.cells] using hm)
        exact fin (.a (qdn nx x).1) _ _ a1 a2 a3 (fun m hm => a4 m (by simpa [qh, Vl.cells] using hm)) rfl
      | g cs =>
        obtain ⟨A, rfl, f3⟩ := hx
        obtain ⟨a1, a2, a3, a4⟩ := qgb hs f3 fun x hx m hm => hn1 m (by simp only [qh, Vl.cells, List.flatMap_cons, List.flatMap_nil, List.append_nil, List.mem_flatMap]; exact ⟨x, hx, hm⟩)
        refine fin (.g (qd3 nx cs).1) _ _ a1 a2 ⟨A, rfl, a3⟩ (fun m hm => ?_) rfl
        simp only [qh, Vl.cells, List.flatMap_cons, List.flatMap_nil, List.append_nil, List.mem_flatMap] at hm
        obtain ⟨x, hx, hm⟩ := hm
        exact a4 x hx m hm

def qmJ (ι : Io) (blks : List Blk) : Bool → Nat → Prop
  | false => qhL ι blks
  | true => fun b => ∃ (j : Nat) (B0 : Blk) (L0 : Loc), blks[j]? = some B0 ∧ ι j = some L0 ∧ L0.b = b

theorem qiw (hT : qcp P c.T) {f : FuncId} {fn : Func} {blks : List Blk} {σ : St} {rs : List Vl} {bs : List Blk} (e : qg8 c f fn blks.length σ = some (rs, bs))
    (hι : ∀ i, i < blks.length → ι0 i = ι i) (hc : Cnf n w0 (qmJ ι blks) blks.length ι0 h0 σ a w) :
    a.defers = [] ∧ ∃ us : Array Value, (results fn a.tmps).run P w = .ok (qgK us) w ∧ ∃ ι' h', Post ι h0 w0 blks rs bs us.toList w ι' h' := by
  obtain ⟨ι1, h, hs, hh, hp⟩ := hc
  unfold qg8 at e
  simp only [Option.bind_eq_some_iff] at e
  obtain ⟨rs0, e1, rs1, e2, rs2, e3, bs2, e4, e⟩ := e
  obtain ⟨us, hres, hrv, hrn⟩ := qpX hT hs e1
  refine ⟨hs.hdefers, us, hres, ?_⟩
  generalize hN : clo (fun m => if c.mutA f = true then qdG (qS σ.mem (if c.ownR f = true then qbT σ.nx rs0 else (rs0, [], σ.nx)).2.1) m else qfs (qS σ.mem (if c.ownR f = true then qbT σ.nx rs0 else (rs0, [], σ.nx)).2.1) m) 64 (List.range blks.length ++ qh rs1) [] = N at *
  have hNd : N.Nodup := by rw [← hN]; exact qis _ _ _ _ List.nodup_nil
  clear hN
  split at e
  · rename_i hNp
    cases e
    generalize hq : (if c.ownR f = true then qbT σ.nx rs0 else (rs0, [], σ.nx)) = q at *
    -- the results' qgN
    have hown : Sim n w0 (qmJ ι blks) (fun m => m < q.2.2) ι1 h σ.fr (qS σ.mem q.2.1) a w ∧ RVs ι1 h q.1 us.toList := by
      rw [← hq]
      split
      · obtain ⟨_, a2, a3, _⟩ := qtc hs hrv hrn
        exact ⟨a2, a3⟩
      · exact ⟨hs, hrv⟩
    obtain ⟨hs1, hrv1⟩ := hown
    generalize hF : ((if c.ownR f = true then [] else qgk rs0) ++ if c.mutA f = true then [] else N.flatMap (qdN (qS σ.mem q.2.1))) = F at *
    obtain ⟨h1, s1, s2, s3, s4, s5⟩ := Sim.freezeL F hs1 (Fzn.refl _)
    have hpN : blks.length ≤ N.length := by
      have := congrArg List.length hNp
      simp at this
      omega
    have hvF : c.mutA f = false → Vw ι1 (qS σ.mem q.2.1) w h1 (N.flatMap (qdN (qS σ.mem q.2.1))) := by
      intro hm
      rw [← hF] at s2
      simp only [hm] at s2
      exact fun m hm => s2 m (List.mem_append_right _ hm)
    have hvals : RVs ι1 h1 rs1 us.toList := by
      split at e2
      · cases e2; exact hrv1.mono s1 fun _ _ => rfl
      · rename_i hm
        have hq' : q = (rs0, [], σ.nx) := by rw [← hq, if_neg hm]
        subst hq'
        rw [← hF] at s2
        simp only [if_neg hm] at s2
        exact (qlB hs1 s1 (fun m hm' => s2 m (List.mem_append_left _ hm')) hrv1 e2).1
    obtain ⟨hmm, hbl, hbf⟩ := qhN hs1 s4 s5 s1 hNd (cv := c.mutA f) hvF e4
    have hlt : ∀ {i m : Nat}, N[i]? = some m → i < N.length := fun {i m} e => (List.getElem?_eq_some_iff.1 e).1
    refine ⟨fun j => (N[j]?).bind ι1, h1, hvals.ren e3 (fun m m' hq => by simp [qe2 hq]), ?_, hh.sub.trans s1, by rw [hbl]; exact hpN, ?_, hmm, ?_, ?_, ?_, ?_, ?_, ?_, ?_, ?_⟩
    · intro m hm
      obtain ⟨m', _, hq⟩ := qfu e3 m hm
      rw [hbl]
      exact hlt (qe2 hq)
    · intro i hi
      have : N[i]? = some i := by
        have h1 : (N.take blks.length)[i]? = (List.range blks.length)[i]? := by rw [hNp]
        rw [List.getElem?_take, if_pos hi, List.getElem?_range hi] at h1
        exact h1
      simp only [this, Option.bind_some]
      rw [hh.same i hi, hι i hi]
    · intro i B L hB hz hL
      obtain ⟨m, B1, k1, k2, k3⟩ := hbf i B hB
      simp only [k1, Option.bind_some] at hL
      exact s4.hown m B1 L k2 (by rw [← k3]; exact hz) hL
    · intro i B L hB hL
      obtain ⟨m, B1, k1, k2, k3⟩ := hbf i B hB
      simp only [k1, Option.bind_some] at hL
      exact s4.hown2 m B1 L k2 hL
    · exact s4.hframe
    · intro b hb hnl
      have hnl' : ¬ qmJ ι blks false b := hnl
      rw [← hh.view b hb hnl']
      by_cases hx : ∃ m ∈ F, ∃ B L, qn (qS σ.mem q.2.1) m = some B ∧ ι1 m = some L ∧ L.b = b
      · obtain ⟨m, hm, B, L, k1, k2, rfl⟩ := hx
        rw [s2 m hm B L k1 k2]
        cases hz : B.fz with
        | false =>
          rcases hs1.hown m B L k1 hz k2 with h' | h'
          · omega
          · exact absurd h' hnl'
        | true => exact (hs1.hfrz m B L k1 hz k2).symm
      · exact s3 b fun m hm B L k1 k2 hq => hx ⟨m, hm, B, L, k1, k2, hq⟩
    · exact s4.hgrow
    · exact s4.hos
    · exact s4.htape
    · exact s4.houtput
  · cases e

theorem qtt {β : Type} : ∀ (l : List β) (k t : Nat), lk (qdO k l) t = if k ≤ t then l[t - k]? else none := by
  intro l
  induction l with
  | nil => intro k t; simp [qdO, lk]
  | cons x l ih =>
    intro k t
    simp only [qdO, qdP, ih]
    by_cases hk : k = t
    · subst hk; simp
    · rw [if_neg hk]
      by_cases h2 : k ≤ t
      · rw [if_pos (by omega), if_pos h2]
        have : t - k = (t - (k + 1)) + 1 := by omega
        rw [this]
        rfl
      · rw [if_neg (by omega), if_neg h2]

theorem Mm.cut {bs : List Blk} (hm : Mm ι h w bs) (hι : ∀ i, i < bs.length → ι' i = ι i) : Mm ι' h w bs := by
  have hlt : ∀ {i : Nat} {B : Blk}, bs[i]? = some B → i < bs.length := fun {i B} e => (List.getElem?_eq_some_iff.1 e).1
  refine ⟨fun i B e => ?_, hm.nm, ?_, hm.sub, ?_, ?_, ?_, hm.pr⟩
  · have := hm.rb i B e
    unfold RB at this ⊢
    rw [hι i (hlt e)]
    cases hL : ι i with
    | none => rw [hL] at this; exact this
    | some L =>
      rw [hL] at this
      obtain ⟨C, q1, q2, q3, q4⟩ := this
      exact ⟨C, q1, q2, q3, q4.mono (Sub.refl h) fun m hm' => hι m (hm.nm i B e m hm')⟩
  · intro i j B B' L L' e e' l l'
    rw [hι i (hlt e)] at l
    rw [hι j (hlt e')] at l'
    exact hm.inj i j B B' L L' e e' l l'
  · intro i B L e hz l; rw [hι i (hlt e)] at l; exact hm.mut' i B L e hz l
  · intro i B L e hz l; rw [hι i (hlt e)] at l; exact hm.frz i B L e hz l
  · intro i B L e l; rw [hι i (hlt e)] at l; exact hm.dom i B L e l

structure CfgOk (P : Program) (c : Cfg) : Prop where
  ty : qcp P c.T
  fn : ∀ f fn, c.F f = some fn → P.funcs[f]? = some fn ∧ (fn.name == "runtime.NumGoroutine") = false
  ext : ∀ f g args rs, c.X f = some g → g args = some rs → qvo P f ∧ ∀ (w : World) (ι : Io) (h : Hp) (vals : Array Value), RVs ι h args vals.toList → (∀ m ∈ qh args, m < 0) → Mm ι h w [] →
    Calls P f vals w fun e w' => ∃ (us : Array Value) (ι' : Io) (h' : Hp), e = .returned (qgK us) ∧ Post ι h w [] rs [] us.toList w' ι' h'
  mo : P.follows .mixedOrders = true

theorem qt8 (hk : CfgOk P c) : ∀ k, qfZ P (call c k) := by
  intro k
  induction k with
  | zero => intro f args blks rs bs e; cases e
  | succ k ih =>
    intro f args blks rs bs e
    simp only [call] at e
    cases hX : c.X f with
    | some g =>
      rw [hX] at e
      simp only at e
      split at e
      · rename_i hb
        have hb : blks = [] := by simpa using hb
        subst hb
        simp only [Option.bind_eq_some_iff] at e
        obtain ⟨rs', e1, e⟩ := e
        cases e
        obtain ⟨x1, x2⟩ := hk.ext f g args rs hX e1
        exact ⟨x1, fun w ι h vals hv hn hm => x2 w ι h vals hv hn hm⟩
      · cases e
    | none =>
      rw [hX] at e
      simp only [Option.bind_eq_some_iff] at e
      obtain ⟨fn, e1, e⟩ := e
      obtain ⟨hf, hname⟩ := hk.fn f fn e1
      cases hbody : fn.body with
      | none => rw [hbody] at e; cases e
      | some body =>
        rw [hbody] at e
        simp only [qtT] at e
        split at e
        · rename_i hlen
          refine ⟨⟨fn, hf, hname, by rw [hbody]; rfl⟩, fun w ι h vals hv hn hm => ?_⟩
          refine calls_of_wp hf hbody ?_
          have hvs : vals.size = args.length := by have := hv.1; simpa using this.symm
          let ι0 : Io := fun m => if m < blks.length then ι m else none
          have hι0 : ∀ i, i < blks.length → ι0 i = ι i := fun i hi => if_pos hi
          have hsim : Cnf fn.ntmps w (qmJ ι blks) blks.length ι0 h { fr := qdO 0 (args.map Sv.v), mem := qdO 0 (blks.map some), nx := blks.length } { tmps := vals ++ Array.replicate (fn.ntmps - vals.size) undef, defers := [] } w := by
            refine ⟨ι0, h, (hm.cut hι0).sim ?_ ?_ rfl ?_ ?_ ?_ (fun _ _ _ => rfl) (Nat.le_refl _) rfl rfl rfl ?_, ⟨Sub.refl h, fun _ _ => rfl, fun _ _ _ => rfl⟩, Nat.le_refl _⟩
            · intro i L hL
              by_cases hi : i < blks.length
              · exact hi
              · have : ι0 i = none := if_neg hi
                rw [this] at hL; cases hL
            · simp [hvs]; omega
            · intro t v hl
              simp only at hl
              rw [qtt] at hl
              simp only [Nat.zero_le, if_true, Nat.sub_zero, List.getElem?_map, Option.map_eq_some_iff] at hl
              obtain ⟨x, hx, rfl⟩ := hl
              obtain ⟨u, g1, g2⟩ := hv.2 t x hx
              have hnx : ∀ m ∈ qh [x], m < blks.length := fun m hm' => hn m (qbk.2 ⟨x, List.mem_of_getElem? hx, hm'⟩)
              refine ⟨u, ?_, g2.mono (Sub.refl h) (fun y hy m hm' => hι0 m (hnx m (by simp only [qh, List.flatMap_cons, List.flatMap_nil, List.append_nil, List.mem_flatMap]; exact ⟨y, hy, hm'⟩))), hnx⟩
              have g1' : vals[t]? = some u := by simpa using g1
              simp only
              rw [Array.getElem?_append_left (Array.getElem?_eq_some_iff.1 g1').1]
              exact g1'
            · intro i B L e1 hz hL
              exact .inr ⟨i, B, L, e1, hz, by rw [← hι0 i (List.getElem?_eq_some_iff.1 e1).1]; exact hL, rfl⟩
            · intro i B L e1 hL
              exact .inr ⟨i, B, L, e1, by rw [← hι0 i (List.getElem?_eq_some_iff.1 e1).1]; exact hL, rfl⟩
            · intro m
              unfold qn
              simp only
              rw [qtt]
              simp only [Nat.zero_le, if_true, Nat.sub_zero, List.getElem?_map]
              cases blks[m]? <;> rfl
          cases hr : qa8 c (call c k) (c.keep f) fn.ntmps k blks.length 0 body { fr := qdO 0 (args.map Sv.v), mem := qdO 0 (blks.map some), nx := blks.length } with
          | none => rw [hr] at e; cases e
          | some out =>
            rw [hr] at e
            refine qt7 hk.ty ih hk.mo body 0 _ out _ _ _ hr hsim fun a' w' hc' => ?_
            cases out with
            | norm σ =>
              obtain ⟨d1, us, d2, ι', h', d3⟩ := qiw hk.ty e hι0 hc'
              exact ⟨d1, _, d2, us, ι', h', rfl, d3⟩
            | ret σ =>
              obtain ⟨d1, us, d2, ι', h', d3⟩ := qiw hk.ty e hι0 hc'
              exact ⟨d1, _, d2, us, ι', h', rfl, d3⟩
            | exit i σ => cases e
        · cases e

end
end Go.Proofs.YtbhnafdmilfobaaGreat.Am

/- From the machine's word on a law to the program's: arguments opened, the call, what stays. -/
set_option linter.unusedVariables false
set_option linter.unusedSimpArgs false
namespace Go.Proofs.YtbhnafdmilfobaaGreat.Am
open Go Go.RowKit Go.WideShapes

def qgc (P : Program) : List Field → Nat → Nat → Bool
  | [], o, n => o == n
  | f :: r, o, n => f.offset == o && qgc P r (o + P.cellsOf f.type) n

def qf0 (P : Program) : Nat → TypeId → Bool
  | 0, _ => false
  | d + 1, t =>
    match P.underlying t with
    | some .bool => true
    | some (.int _) => true
    | some .string => true
    | some (.slice e) => decide (0 < P.cellsOf e) && qf0 P d e
    | some (.struct fs) => qgc P fs.toList 0 (P.cellsOf t) && fs.toList.all fun f => qf0 P d f.type
    | _ => false

inductive Typed (P : Program) : TypeId → List At → Prop
  | bool {t : TypeId} (hu : P.underlying t = some .bool) (b : Bool) : Typed P t [.bool b]
  | int {t : TypeId} {k : IntKind} (hu : P.underlying t = some (.int k)) (n : Int) (h : (Lit.int k n).wf = true) : Typed P t [.int k n]
  | str {t : TypeId} (hu : P.underlying t = some .string) (s : ByteArray) (h : s.size ≤ maxLen) (hb : s.size ≤ reachBytes) : Typed P t [.str s]
  | sl {t e : TypeId} (hu : P.underlying t = some (.slice e)) (els : List (List At)) (hn : els.length ≤ maxLen) (hb : els.length * P.bytesOf e ≤ reachBytes) (h : ∀ el ∈ els, Typed P e el) : Typed P t [.sl (P.cellsOf e) els.length els]
  | st {t : TypeId} {fs : Array Field} (hu : P.underlying t = some (.struct fs)) (cs : List At) (hl : cs.length = P.cellsOf t) (h : ∀ (i : Nat) (f : Field), fs[i]? = some f → Typed P f.type ((cs.drop f.offset).take (P.cellsOf f.type))) : Typed P t cs

section
variable {P : Program} {H : Type} {enc : TypeId × Value → H} {w : World} {base : Nat} {sp : Nat → Bool} {held : Bool}

def view (w : World) : Hp := fun b => w.heap[b]?

theorem qt9 {a : Addr} {n : Nat} {cs : List Value} (h : w.cells? base (a.add 0) n = some cs) (hn : 0 < n) : a.spot = none := by
  obtain ⟨_, hl, hc⟩ := World.cells?_some h
  have h0 := hc 0 hn
  rw [List.getElem?_eq_getElem (show 0 < cs.length by omega)] at h0
  simpa [Addr.add] using World.cell?_spot h0

theorem qpJ {b off k n : Nat} {cs : List Value} (h : w.cells? base ((⟨b, off, none⟩ : Addr).add k) n = some cs) (hn : 0 < n) :
    ∃ C t z, w.heap[b]? = some (.cells C t z) ∧ cs.length = n ∧ ∀ j, j < n → C[off + (k + j)]? = cs[j]? := by
  rw [Go.WideShapes.add_plain] at h
  obtain ⟨_, hl, hc⟩ := World.cells?_some h
  have hobj : ∃ C t z, w.heap[b]? = some (.cells C t z) := by
    have h0 := hc 0 hn
    rw [List.getElem?_eq_getElem (show 0 < cs.length by omega), Go.WideShapes.add_plain] at h0
    simp only [World.cell?] at h0
    split at h0
    · rename_i C t z hC; exact ⟨C, t, z, hC⟩
    · cases h0
  obtain ⟨C, t, z, hC⟩ := hobj
  refine ⟨C, t, z, hC, hl, fun j hj => ?_⟩
  have := hc j hj
  rw [Go.WideShapes.add_plain] at this
  simp only [World.cell?, hC] at this
  rw [← this]
  simp [Nat.add_assoc]

theorem qtd {e : TypeId} : ∀ {l : List (DataW H)}, (DataW.weightsAll P e l).all (· ≤ reachBytes) = true → ∀ d ∈ l, (DataW.weights P e d).all (· ≤ reachBytes) = true := by
  intro l
  induction l with
  | nil => intro _ d hd; cases hd
  | cons x r ih =>
    intro h d hd
    simp only [DataW.weightsAll, List.all_append, Bool.and_eq_true] at h
    rcases List.mem_cons.1 hd with rfl | hd
    · exact h.1
    · exact ih h.2 d hd
theorem qr1 : ∀ {ts : List TypeId} {l : List (DataW H)}, (DataW.weightsEach P ts l).all (· ≤ reachBytes) = true → ∀ (i : Nat) t d, ts[i]? = some t → l[i]? = some d → (DataW.weights P t d).all (· ≤ reachBytes) = true := by
  intro ts
  induction ts with
  | nil => intro l _ i t d h; simp at h
  | cons t ts ih =>
    intro l h i t' d h1 h2
    cases l with
    | nil => simp at h2
    | cons x r =>
      simp only [DataW.weightsEach, List.all_append, Bool.and_eq_true] at h
      cases i with
      | zero => simp at h1 h2; subst h1 h2; exact h.1
      | succ i => exact ih h.2 i t' d (by simpa using h1) (by simpa using h2)
theorem qhR {t : TypeId} {ts : List TypeId} {d : DataW H} {r : List (DataW H)} (h : (DataW.weightsEach P (t :: ts) (d :: r)).all (· ≤ reachBytes) = true) : (DataW.weights P t d).all (· ≤ reachBytes) = true ∧ (DataW.weightsEach P ts r).all (· ≤ reachBytes) = true := by
  simp only [DataW.weightsEach, List.all_append, Bool.and_eq_true] at h
  exact h
theorem qua : ∀ (d : Nat) (t : TypeId), qf0 P d t = true → ∀ (fuel : Nat) (cs : List Value) (x : DataW H × List MemPlace), DataW.trod enc P w base sp held fuel t cs = some x → (DataW.weights P t x.1).all (· ≤ reachBytes) = true →
    ∃ xs : List At, RL (fun _ => none) (view w) xs cs ∧ (∀ y ∈ xs, y.pr = true) ∧ Typed P t xs := by
  intro d
  induction d with
  | zero => intro t h; cases h
  | succ d ih =>
    intro t ht fuel cs x hx hwt
    simp only [qf0] at ht
    have one : ∀ (y : At) (v : Value), RP (view w) y v → y.pr = true → cs = [v] → Typed P t [y] → ∃ xs : List At, RL (fun _ => none) (view w) xs cs ∧ (∀ y ∈ xs, y.pr = true) ∧ Typed P t xs := by
      rintro y v h1 h2 rfl h3
      exact ⟨[y], RL.cons (RA.ofRP h1) RL.nil, by simpa using h2, h3⟩
    split at ht
    · rename_i hu
      obtain ⟨b, rfl, _⟩ := DataW.trod_bool hu hx
      exact one _ _ (.bool b) rfl rfl (.bool hu b)
    · rename_i k hu
      obtain ⟨n, rfl, _, hw⟩ := DataW.trod_int hu hx
      exact one _ _ (.int k n) rfl rfl (.int hu n hw)
    · rename_i hu
      obtain ⟨s, rfl, hx1, hs⟩ := DataW.trod_string hu hx
      exact one _ _ (.str s) rfl rfl (.str hu s hs (by
        subst hx1
        simp only [DataW.weights, List.all_cons, List.all_nil, Bool.and_true, decide_eq_true_eq] at hwt
        have e : s.data.toList.length = s.size := by rw [Array.length_toList]; rfl
        omega))
    · rename_i e hu
      simp only [Bool.and_eq_true, decide_eq_true_eq] at ht
      obtain ⟨hpos, hte⟩ := ht
      rcases DataW.trod_slice hu hx with ⟨rfl, _⟩ | ⟨a, len, cap, elems, rest, n, rfl, rfl, hx1, hb, hlc, hcm, hel, hev, _, _⟩
      · exact one _ _ (.sl0 (P.cellsOf e) none 0) rfl rfl (.sl hu [] (Nat.zero_le _) (by simp [reachBytes]) (by simp))
      · -- each element
        subst hx1
        simp only [DataW.weights, hu, List.all_cons, List.all_append, Bool.and_eq_true, decide_eq_true_eq, List.length_map] at hwt
        obtain ⟨hw1, hw2, _⟩ := hwt
        have each : ∀ i, i < len → ∃ (ci : List Value) (xs : List At), w.cells? base (a.add (i * P.cellsOf e)) (P.cellsOf e) = some ci ∧ RL (fun _ => none) (view w) xs ci ∧ (∀ y ∈ xs, y.pr = true) ∧ Typed P e xs := by
          intro i hi
          have h1 := hev i hi
          rw [List.getElem?_eq_getElem (by omega)] at h1
          obtain ⟨ci, h2, h3⟩ := Option.bind_eq_some_iff.1 h1
          obtain ⟨xs, r1, r2, r3⟩ := ih e hte n ci _ h3 (qtd hw2 _ (List.mem_map_of_mem (List.getElem_mem _)))
          exact ⟨ci, xs, h2, r1, r2, r3⟩
        let E : Nat → List At := fun i => if hi : i < len then (each i hi).choose_spec.choose else []
        let V : Nat → List Value := fun i => if hi : i < len then (each i hi).choose else []
        have hE : ∀ i, i < len → w.cells? base (a.add (i * P.cellsOf e)) (P.cellsOf e) = some (V i) ∧ RL (fun _ => none) (view w) (E i) (V i) ∧ (∀ y ∈ E i, y.pr = true) ∧ Typed P e (E i) := by
          intro i hi
          simp only [E, V, dif_pos hi]
          exact (each i hi).choose_spec.choose_spec
        let els := (List.range len).map E
        have hlen : els.length = len := by simp [els]
        have hget : ∀ i e', els[i]? = some e' → i < len ∧ e' = E i := by
          intro i e' he'
          have hi : i < len := by
            have := (List.getElem?_eq_some_iff.1 he').1
            simpa [hlen] using this
          simp only [els, List.getElem?_map, List.getElem?_range hi, Option.map_some, Option.some.injEq] at he'
          exact ⟨hi, he'.symm⟩
        have hty : Typed P t [.sl (P.cellsOf e) els.length els] := by
          refine .sl hu els (by omega) (Nat.le_trans (Nat.mul_le_mul_right _ (by omega)) hw1) fun el hm => ?_
          obtain ⟨i, hi⟩ := List.getElem?_of_mem hm
          obtain ⟨h1, rfl⟩ := hget i el hi
          exact (hE i h1).2.2.2
        rcases Nat.eq_zero_or_pos len with h0 | h0
        · subst h0
          have hz : els = [] := by simp [els]
          refine one _ _ ?_ rfl rfl hty
          rw [hz]
          exact .sl0 _ _ _
        · obtain ⟨hc0, _⟩ := hE 0 h0
          have hspot : a.spot = none := qt9 (by rw [Nat.zero_mul] at hc0; exact hc0) hpos
          obtain ⟨b, off, spot⟩ := a
          simp only at hspot
          subst hspot
          obtain ⟨C, t', z, hC, _⟩ := qpJ hc0 hpos
          have hcell : ∀ i, i < len → (V i).length = P.cellsOf e ∧ ∀ j, j < P.cellsOf e → C[off + (i * P.cellsOf e + j)]? = (V i)[j]? := by
            intro i hi
            obtain ⟨C', t'', z', hC', hl, hj⟩ := qpJ (hE i hi).1 hpos
            rw [hC] at hC'
            cases hC'
            exact ⟨hl, hj⟩
          refine one _ _ (.sl _ els b off cap (P.cellsOf e) C t' z (fun i j => ((V i)[j]?).getD undef) hC rfl (by rw [hlen]; exact hlc) ?_ ?_ ?_) rfl (by rw [hlen]) hty
          · intro i e' he'
            obtain ⟨hi, rfl⟩ := hget i e' he'
            rw [(hE i hi).2.1.1, (hcell i hi).1]
          · intro i e' j y he' hy
            obtain ⟨hi, rfl⟩ := hget i e' he'
            obtain ⟨u, g1, g2⟩ := (hE i hi).2.1.2 j y hy
            have hj : j < P.cellsOf e := by
              rw [← (hcell i hi).1]
              exact (List.getElem?_eq_some_iff.1 g1).1
            rw [(hcell i hi).2 j hj, g1]
            rfl
          · intro i e' j y he' hy
            obtain ⟨hi, rfl⟩ := hget i e' he'
            obtain ⟨u, g1, g2⟩ := (hE i hi).2.1.2 j y hy
            simp only [g1, Option.getD_some]
            exact RA.toRP ((hE i hi).2.2.1 y (List.mem_of_getElem? hy)) g2
    · rename_i fs hu
      simp only [Bool.and_eq_true, List.all_eq_true] at ht
      obtain ⟨htile, hall⟩ := ht
      obtain ⟨ds, n, rfl, hx1, hcl, hdl, hf⟩ := DataW.trod_struct hu hx
      subst hx1
      simp only [DataW.weights, hu] at hwt
      have key : ∀ (l : List Field) (o : Nat), qgc P l o (P.cellsOf t) = true → (∀ f ∈ l, qf0 P d f.type = true ∧ ∃ y, DataW.trod enc P w base sp held n f.type ((cs.drop f.offset).take (P.cellsOf f.type)) = some y ∧ (DataW.weights P f.type y.1).all (· ≤ reachBytes) = true) →
          o ≤ P.cellsOf t ∧ ∃ xs : List At, RL (fun _ => none) (view w) xs (cs.drop o) ∧ (∀ y ∈ xs, y.pr = true) ∧ ∀ f ∈ l, o ≤ f.offset ∧ Typed P f.type ((xs.drop (f.offset - o)).take (P.cellsOf f.type)) := by
        intro l
        induction l with
        | nil =>
          intro o ho _
          simp only [qgc, beq_iff_eq] at ho
          refine ⟨by omega, [], ?_, by simp, by simp⟩
          rw [List.drop_eq_nil_of_le (by omega)]
          exact RL.nil
        | cons f r ih2 =>
          intro o ho hfs
          simp only [qgc, Bool.and_eq_true, beq_iff_eq] at ho
          obtain ⟨rfl, ho⟩ := ho
          obtain ⟨hpf, y, hy, hyw⟩ := hfs f (List.mem_cons_self ..)
          obtain ⟨ys, r1, r2, r3⟩ := ih f.type hpf n _ _ hy hyw
          obtain ⟨q0, xs, q1, q2, q3⟩ := ih2 _ ho fun g hg => hfs g (List.mem_cons_of_mem _ hg)
          have hyl : ys.length = P.cellsOf f.type := by rw [r1.1, List.length_take, List.length_drop]; omega
          refine ⟨by omega, ys ++ xs, ?_, ?_, ?_⟩
          · have := r1.append q1
            rwa [show cs.drop (f.offset + P.cellsOf f.type) = (cs.drop f.offset).drop (P.cellsOf f.type) by rw [List.drop_drop], List.take_append_drop] at this
          · intro z hz
            rcases List.mem_append.1 hz with hz | hz
            · exact r2 z hz
            · exact q2 z hz
          · intro g hg
            rcases List.mem_cons.1 hg with rfl | hg
            · refine ⟨Nat.le_refl _, ?_⟩
              rw [Nat.sub_self, List.drop_zero, ← hyl, List.take_left]
              exact r3
            · obtain ⟨h1, h2⟩ := q3 g hg
              refine ⟨by omega, ?_⟩
              rw [show g.offset - f.offset = ys.length + (g.offset - (f.offset + P.cellsOf f.type)) by omega, ← List.drop_drop, List.drop_left]
              exact h2
      obtain ⟨_, xs, q1, q2, q3⟩ := key fs.toList 0 htile fun f hfm => by
        refine ⟨hall f hfm, ?_⟩
        obtain ⟨i, hi⟩ := List.getElem?_of_mem hfm
        have hi' : fs[i]? = some f := by simpa using hi
        have hlt : i < fs.size := (Array.getElem?_eq_some_iff.1 hi').1
        exact ⟨ds[i]'(by omega), by rw [hf i f hi']; exact List.getElem?_eq_getElem _, qr1 hwt i f.type _ (by simp [hi']) (by rw [List.getElem?_map, List.getElem?_eq_getElem (show i < ds.length by omega)]; rfl)⟩
      rw [List.drop_zero] at q1
      refine ⟨xs, q1, q2, .st hu xs (by rw [q1.1, hcl]) fun i f hi => ?_⟩
      have := (q3 f (by simpa using Array.mem_of_getElem? hi)).2
      simpa using this
    · cases ht

theorem qwP {d base' : Nat} {t : TypeId} (ht : qf0 P d t = true) {v : Value} (hval : Value.okWide P w .any base' t v) {D : DataW H} {ps : List MemPlace} (hd : DataW.Trod enc P w base sp held t v D ps) (hwt : (DataW.weights P t D).all (· ≤ reachBytes) = true) :
    ∃ x : Vl, RV (fun _ => none) (view w) x v ∧ qh [x] = [] ∧ Typed P t x.cells ∧ ((∃ y, x = .a y) ∨ ∃ fs, P.underlying t = some (.struct fs)) ∧ ((∃ ys, x = .g ys) ∨ ¬ ∃ fs, P.underlying t = some (.struct fs)) := by
  obtain ⟨fuel, hf⟩ := hd
  obtain ⟨xs, r1, r2, r3⟩ := qua d t ht fuel _ _ hf hwt
  have hno : ∀ y : At, y.pr = true → y.nm = [] := fun y hy => by cases y <;> simp [At.pr, At.nm] at hy ⊢
  have one : v.cells.toList = [v] → (¬ ∃ fs, P.underlying t = some (.struct fs)) → _ := fun hv hns => (show ∃ x : Vl, RV (fun _ => none) (view w) x v ∧ qh [x] = [] ∧ Typed P t x.cells ∧ ((∃ y, x = .a y) ∨ ∃ fs, P.underlying t = some (.struct fs)) ∧ ((∃ ys, x = .g ys) ∨ ¬ ∃ fs, P.underlying t = some (.struct fs)) by
    rw [hv] at r1
    match xs, r1, r2, r3 with
    | [y], r1, r2, r3 =>
      obtain ⟨u, g1, g2⟩ := r1.2 0 y rfl
      simp at g1
      subst g1
      exact ⟨.a y, g2, by simp [qh, Vl.cells, hno y (r2 y (by simp))], r3, .inl ⟨y, rfl⟩, .inr hns⟩
    | [], r1, _, _ => exact absurd r1.1 (by simp)
    | _ :: _ :: _, r1, _, _ => exact absurd r1.1 (by simp))
  cases d with
  | zero => cases ht
  | succ d =>
    simp only [qf0] at ht
    split at ht
    · rename_i hu
      obtain ⟨b, rfl⟩ := okWide_bool hu hval
      exact one rfl (by rw [hu]; simp)
    · rename_i k hu
      obtain ⟨n, rfl⟩ := okWide_int hu hval
      exact one rfl (by rw [hu]; simp)
    · rename_i hu
      obtain ⟨s, rfl⟩ := okWide_string hu hval
      exact one rfl (by rw [hu]; simp)
    · rename_i e hu
      obtain ⟨a, l, c, rfl⟩ := okWide_slice hu hval
      exact one rfl (by rw [hu]; simp)
    · rename_i fs hu
      obtain ⟨cs, rfl, _⟩ := okWide_struct hu hval
      refine ⟨.g xs, ⟨cs, rfl, r1⟩, ?_, r3, .inr ⟨fs, hu⟩, .inl ⟨xs, rfl⟩⟩
      simp only [qh, Vl.cells, List.flatMap_cons, List.flatMap_nil, List.append_nil, List.flatMap_eq_nil_iff]
      exact fun y hy => hno y (r2 y hy)
    · cases ht

theorem qvx {c : Cfg} (hk : CfgOk P c) {k : Nat} {f : FuncId} {xs : List Vl} {vals : Array Value} (hr : RVs (fun _ => none) (view w) xs vals.toList) (hn : qh xs = [])
    (e : call c k f xs [] = some ([.a (.bool true)], [])) : Calls P f vals w fun e w' => e = .returned (.bool true) ∧ Below w.heap.size w w' := by
  obtain ⟨_, h⟩ := qt8 hk k f xs [] _ _ e
  have hmm : Mm (fun _ => none) (view w) w [] := by
    refine ⟨?_, ?_, ?_, fun b o e => e, ?_, ?_, ?_, ?_⟩ <;> intro i <;> simp
  refine (h w (fun _ => none) (view w) vals hr (by rw [hn]; simp) hmm).mono ?_
  rintro en w' ⟨us, ι', h', rfl, hp⟩
  have hlen := hp.rv.1
  obtain ⟨u, g1, g2⟩ := hp.rv.2 0 _ rfl
  have hu : u = .bool true := RP.bool_inv (show RP h' (.bool true) u from g2)
  subst hu
  have hus : us = #[.bool true] := by
    apply Array.toList_inj.1
    match hq : us.toList, hlen, g1 with
    | [x], _, g1 => simp at g1; subst g1; rfl
  refine ⟨by rw [hus]; rfl, hp.os, hp.tape, hp.output, hp.grow, fun b hb => hp.frame b hb ?_⟩
  rintro ⟨i, B, L, g, _⟩
  simp at g

theorem qvy {t : TypeId} {k : IntKind} (hu : P.underlying t = some (.int k)) {xs : List At} (h : Typed P t xs) : ∃ n, xs = [.int k n] ∧ (Lit.int k n).wf = true := by
  cases h with
  | int hu' n hw => rw [hu] at hu'; cases hu'; exact ⟨n, rfl, hw⟩
  | bool hu' => rw [hu] at hu'; cases hu'
  | str hu' => rw [hu] at hu'; cases hu'
  | sl hu' => rw [hu] at hu'; cases hu'
  | st hu' => rw [hu] at hu'; cases hu'
theorem qub {t : TypeId} (hu : P.underlying t = some .bool) {xs : List At} (h : Typed P t xs) : ∃ b, xs = [.bool b] := by
  cases h with
  | bool hu' b => exact ⟨b, rfl⟩
  | int hu' => rw [hu] at hu'; cases hu'
  | str hu' => rw [hu] at hu'; cases hu'
  | sl hu' => rw [hu] at hu'; cases hu'
  | st hu' => rw [hu] at hu'; cases hu'
theorem qvz {t : TypeId} (hu : P.underlying t = some .string) {xs : List At} (h : Typed P t xs) : ∃ s, xs = [.str s] ∧ s.size ≤ maxLen ∧ s.size ≤ reachBytes := by
  cases h with
  | str hu' s hs hb => exact ⟨s, rfl, hs, hb⟩
  | int hu' => rw [hu] at hu'; cases hu'
  | bool hu' => rw [hu] at hu'; cases hu'
  | sl hu' => rw [hu] at hu'; cases hu'
  | st hu' => rw [hu] at hu'; cases hu'
theorem qwQ {t e : TypeId} (hu : P.underlying t = some (.slice e)) {xs : List At} (h : Typed P t xs) : ∃ els, xs = [.sl (P.cellsOf e) els.length els] ∧ els.length ≤ maxLen ∧ els.length * P.bytesOf e ≤ reachBytes ∧ ∀ el ∈ els, Typed P e el := by
  cases h with
  | sl hu' els hn hb he => rw [hu] at hu'; cases hu'; exact ⟨els, rfl, hn, hb, he⟩
  | int hu' => rw [hu] at hu'; cases hu'
  | bool hu' => rw [hu] at hu'; cases hu'
  | str hu' => rw [hu] at hu'; cases hu'
  | st hu' => rw [hu] at hu'; cases hu'
theorem qwR {t : TypeId} {fs : Array Field} (hu : P.underlying t = some (.struct fs)) {xs : List At} (h : Typed P t xs) :
    xs.length = P.cellsOf t ∧ ∀ (i : Nat) (f : Field), fs[i]? = some f → Typed P f.type ((xs.drop f.offset).take (P.cellsOf f.type)) := by
  cases h with
  | st hu' cs hl hf => rw [hu] at hu'; cases hu'; exact ⟨hl, hf⟩
  | int hu' => rw [hu] at hu'; cases hu'
  | bool hu' => rw [hu] at hu'; cases hu'
  | str hu' => rw [hu] at hu'; cases hu'
  | sl hu' => rw [hu] at hu'; cases hu'
end
end Go.Proofs.YtbhnafdmilfobaaGreat.Am

/- Reckoning with the machine: each operation's word, loops. -/
set_option linter.unusedVariables false
set_option linter.unusedSimpArgs false
namespace Go.Proofs.YtbhnafdmilfobaaGreat.Am
open Go

theorem qEi {a b : Int} (h : a ≤ b) : (a ≤ b) = True := eq_true h
theorem qEj {a b : Int} (h : ¬ a ≤ b) : (a ≤ b) = False := eq_false h
theorem qEk {a b : Int} (h : a < b) : (a < b) = True := eq_true h
theorem qEl {a b : Int} (h : ¬ a < b) : (a < b) = False := eq_false h
theorem qEm {a b : Int} (h : a = b) : (a = b) = True := eq_true h
theorem qEn {a b : Int} (h : ¬ a = b) : (a = b) = False := eq_false h
theorem qEo {a b : Nat} (h : a ≤ b) : (a ≤ b) = True := eq_true h
theorem qEp {a b : Nat} (h : ¬ a ≤ b) : (a ≤ b) = False := eq_false h
theorem qEq {a b : Nat} (h : a < b) : (a < b) = True := eq_true h
theorem qEr {a b : Nat} (h : ¬ a < b) : (a < b) = False := eq_false h
section
variable {c : Cfg} {callF : FuncId → List Vl → List Blk → Option (List Vl × List Blk)}
section
variable {kp : Nat → List Kp} {nt k p : Nat}
end
section
variable {d : Option Tmp} {t0 : TypeId} {pos : String} {af : Array Edge} {g : Option (Nat × Bool)} {fr : List (Nat × Sv)} {mem : Mem} {nx : Nat} {ops : List Oper}
end
end

theorem qK {x : Int} (h : -9223372036854775808 ≤ x ∧ x ≤ 9223372036854775807) : IntKind.i64.wrap x = x := by
  simp only [IntKind.wrap, IntKind.bits, IntKind.signed]
  simp
  omega
theorem qdh (x : Int) : IntKind.u32.wrap x = x % 4294967296 := by simp [IntKind.wrap, IntKind.bits, IntKind.signed]
theorem qej (x : Int) : IntKind.u64.wrap x = x % 18446744073709551616 := by simp [IntKind.wrap, IntKind.bits, IntKind.signed]
theorem qzr (x : Int) : IntKind.u8.wrap x = x % 256 := by simp [IntKind.wrap, IntKind.bits, IntKind.signed]

def qp1 (hd : St → Option St) (body : St → Option Out) : Nat → Option St → Option Out
  | 0, _ => none
  | n + 1, s => qgl (qgI hd body n) (hdK body s)
theorem qtu (hd : St → Option St) (body : St → Option Out) (k : Nat) (σ : St) : qgI hd body k σ = qp1 hd body k (hd σ) := by cases k <;> rfl
theorem qhS (hd : St → Option St) (body : St → Option Out) (k : Nat) (σ : St) : qp1 hd body (k + 1) (some σ) = qgl (qgI hd body k) (body σ) := rfl

def loops : Code → List Code
  | .seq x y => loops x ++ loops y
  | .cond _ x y => loops x ++ loops y
  | .block _ x => loops x
  | .loop x => x :: loops x
  | _ => []
def lb (f : Func) (n : Nat) : Code := match f.body with
  | some b => (loops b).getD n .skip
  | none => .skip

end Go.Proofs.YtbhnafdmilfobaaGreat.Am

/- The typed machine: the abstract machine's rules over typed words, each step handing on to what is to be done next. Definitions. -/
namespace Go.Proofs.YtbhnafdmilfobaaGreat.Am
open Go

inductive Cd
  | int (k : IntKind) | bool | str | sl (c : Cd) | pr (a b : Cd)
  deriving DecidableEq
@[reducible] def Cd.D : Cd → Type
  | .int _ => Int
  | .bool => Bool
  | .str => ByteArray
  | .sl c => List c.D
  | .pr a b => a.D × b.D
def Cd.sz : Cd → Nat
  | .pr a b => a.sz + b.sz
  | _ => 1
def Cd.at : (c : Cd) → c.D → List At
  | .int k, x => [.int k x]
  | .bool, b => [.bool b]
  | .str, s => [.str s]
  | .sl c, l => [.sl c.sz l.length (l.map c.at)]
  | .pr a b, x => a.at x.1 ++ b.at x.2

inductive A2
  | int (k : IntKind) (n : Int)
  | bool (b : Bool)
  | str (s : ByteArray)
  | snil (es ty : Nat)
  | sl (c : Cd) (l : List c.D)
  | nilp
  | pe (c : Cd) (x : c.D) (o : Nat)
  | ptr (m i o : Nat)
  | sm (m lo n : Nat)
  | fn (f : FuncId)
def A2.at : A2 → At
  | .int k n => .int k n
  | .bool b => .bool b
  | .str s => .str s
  | .snil es ty => .snil es ty
  | .sl c l => .sl c.sz l.length (l.map c.at)
  | .nilp => .nilp
  | .pe c x o => .pp (c.at x) o
  | .ptr m i o => .ptr m i o
  | .sm m lo n => .sm m lo n
  | .fn f => .fn f
def Cd.cl : (c : Cd) → c.D → List A2
  | .int k, x => [.int k x]
  | .bool, b => [.bool b]
  | .str, s => [.str s]
  | .sl c, l => [.sl c l]
  | .pr a b, x => a.cl x.1 ++ b.cl x.2
def qmK (a b : Cd) (l : List a.D) : Option (List b.D) := if h : a = b then some (h ▸ l) else none
def Cd.de : (c : Cd) → List A2 → Option (c.D × List A2)
  | .int k, .int k' n :: r => if k' = k then some (n, r) else none
  | .bool, .bool b :: r => some (b, r)
  | .str, .str s :: r => some (s, r)
  | .sl c, .sl c' l :: r => (qmK c' c l).bind fun l => some (l, r)
  | .pr a b, cs => (a.de cs).bind fun p => (b.de p.2).bind fun q => some ((p.1, q.1), q.2)
  | _, _ => none
def Cd.dec (c : Cd) (cs : List A2) : Option c.D := (c.de cs).bind fun p => match p.2 with
  | [] => some p.1
  | _ => none
def A2.cd : A2 → Option Cd
  | .int k _ => some (.int k)
  | .bool _ => some .bool
  | .str _ => some .str
  | .sl c _ => some (.sl c)
  | _ => none

inductive V2
  | a (x : A2)
  | g (cs : List A2)
def V2.at : V2 → Vl
  | .a x => .a x.at
  | .g cs => .g (cs.map A2.at)
def V2.cells : V2 → List A2
  | .a x => [x]
  | .g cs => cs
inductive Sv2
  | v (x : V2)
  | t (vs : List V2)
  | u
def Sv2.at : Sv2 → Sv
  | .v x => .v x.at
  | .t vs => .t (vs.map V2.at)
  | .u => .u
inductive Bd
  | arr (c : Cd) (l : List c.D)
  | raw (els : List (List A2))
def Bd.rows : Bd → List (List At)
  | .arr c l => l.map c.at
  | .raw els => els.map fun e => e.map A2.at
structure Blk2 where
  bd : Bd
  es : Nat
  ty : TypeId
  pr : Bool
  fz : Bool
def Blk2.at (b : Blk2) : Blk := { els := b.bd.rows, es := b.es, ty := b.ty, pr := b.pr, fz := b.fz }
abbrev qJ := List (Nat × Option Blk2)
def oAt (p : Nat × Option Blk2) : Nat × Option Blk := (p.1, p.2.map Blk2.at)
def qJ.at (m : qJ) : Mem := m.map oAt
structure St2 where
  fr : List (Nat × Sv2)
  mem : qJ
  nx : Nat

def qdo (m : qJ) (n : Nat) : Option Blk2 :=
  match lk m n with
  | some (some b) => some b
  | _ => none
def qud : qJ → Nat × Option Blk2 → qJ
  | [], p => [p]
  | q :: r, p => if q.1 = p.1 then p :: r else q :: qud r p
def qe3 (m : qJ) : qJ → qJ
  | [] => m
  | p :: r => qe3 (qud m p) r

def A2.pr : A2 → Bool
  | .ptr .. => false
  | .sm .. => false
  | _ => true
def A2.nm : A2 → List Nat
  | .ptr m _ _ => [m]
  | .sm m _ _ => [m]
  | _ => []
def A2.noSl : A2 → Bool
  | .sl .. => false
  | .pe .. => false
  | .fn .. => false
  | _ => true
def A2.smn : A2 → List Nat
  | .sm m _ _ => [m]
  | _ => []
def A2.ptrs : A2 → List Nat
  | .ptr m _ _ => [m]
  | _ => []
def Bd.els2 : Bd → List (List A2)
  | .arr _ _ => []
  | .raw els => els
def qch (f : A2 → List Nat) (mem : qJ) (m : Nat) : List Nat :=
  match qdo mem m with
  | some b => if b.pr then [] else b.bd.els2.flatMap fun e => e.flatMap f
  | none => []
def qdR (f : A2 → List Nat) (vs : List V2) : List Nat := vs.flatMap fun v => v.cells.flatMap f

def qmL (ρ : Nat → Option Nat) : A2 → Option A2
  | .ptr m i o => (ρ m).bind fun m' => some (.ptr m' i o)
  | .sm m lo n => (ρ m).bind fun m' => some (.sm m' lo n)
  | x => some x
def qhU (ρ : Nat → Option Nat) : V2 → Option V2
  | .a x => (qmL ρ x).bind fun y => some (.a y)
  | .g cs => (qu (qmL ρ) cs).bind fun ys => some (.g ys)
def qmM (ρ : Nat → Option Nat) (b : Blk2) : Option Blk2 :=
  if b.pr then some b else match b.bd with
  | .raw els => (qu (qu (qmL ρ)) els).bind fun els => some { b with bd := .raw els }
  | .arr .. => none

def at2 : At → Option A2
  | .int k n => some (.int k n)
  | .bool b => some (.bool b)
  | .str s => some (.str s)
  | .snil es ty => some (.snil es ty)
  | .nilp => some .nilp
  | _ => none
def qjL (ti : TI) : Option (List A2) := qu at2 ti.zero
def qAc (f : TypeId → Option Cd) : List TypeId → Option Cd
  | [] => none
  | [t] => f t
  | t :: r => (f t).bind fun a => (qAc f r).bind fun b => some (.pr a b)
def cod (T : TypeId → Option TI) : Nat → TypeId → Option Cd
  | 0, _ => none
  | k + 1, t => (T t).bind fun ti => match ti.d with
    | .int k => some (.int k)
    | .bool => some .bool
    | .str => some .str
    | .sl e => (cod T k e).bind fun c => some (.sl c)
    | .st _ ts => qAc (cod T k) ts
    | _ => none

structure Eff2 where
  v : Sv2
  upd : qJ
  nn : Nat
  rd : List Nat
def Eff2.at (e : Eff2) : Eff := { v := e.v.at, upd := e.upd.at, nn := e.nn, rd := e.rd }

def qr3 : Value → Option A2
  | .int k n => some (.int k n)
  | .bool b => some (.bool b)
  | .string s => some (.str s)
  | .slice none 0 0 => some (.snil 0 0)
  | .pointer none => some .nilp
  | _ => none
def ev2 (fr : List (Nat × Sv2)) : Operand → Option Sv2
  | .tmp t => lk fr t
  | .const v => (qr3 v).bind fun x => some (.v (.a x))
  | .func f => some (.v (.a (.fn f)))
  | .global _ => none
def qwS : Sv2 → Option A2
  | .v (.a x) => some x
  | _ => none
def qwT : Sv2 → Option V2
  | .v x => some x
  | _ => none
def qAd : A2 → Option Bool
  | .bool b => some b
  | _ => none
def qAe : A2 → Option Int
  | .int _ i => some i
  | _ => none
def qcO (fr : List (Nat × Sv2)) (o : Operand) : Option A2 := (ev2 fr o).bind qwS
def qr4 (fr : List (Nat × Sv2)) (o : Operand) : Option Bool := (qcO fr o).bind qAd
def qix (fr : List (Nat × Sv2)) (o : Operand) : Option Int := (qcO fr o).bind qAe
def qgX (fr : List (Nat × Sv2)) (o : Operand) : Option V2 := (ev2 fr o).bind qwT
def qfw (fr : List (Nat × Sv2)) (d : Nat) : Option Operand → Option Int
  | none => some d
  | some o => qix fr o

def qhV (ti : TI) (e : List A2) (o : Nat) : Option V2 :=
  if ti.agg then (if o + ti.size ≤ e.length then some (.g ((e.drop o).take ti.size)) else none)
  else (e[o]?).bind fun x => some (.a x)
def qr5 (cs : List A2) (o : Nat) (xs : List A2) : List A2 := cs.take o ++ xs ++ cs.drop (o + xs.length)
def qiy (ds : List (Nat × Nat)) : List A2 → List (Nat × V2) → Option (List A2)
  | cs, [] => some cs
  | cs, (i, v) :: r =>
    (ds[i]?).bind fun p => if v.cells.length = p.2 ∧ p.1 + p.2 ≤ cs.length then qiy ds (qr5 cs p.1 v.cells) r else none
def qmN (es : Nat) : List (List A2) → List (Nat × V2) → Option (List (List A2))
  | cs, [] => some cs
  | cs, (i, v) :: r => if v.cells.length = es ∧ i < cs.length then qmN es (cs.set i v.cells) r else none
def que (c : Option Cd) (els : List (List A2)) : Bd :=
  match c with
  | some c => match qu c.dec els with
    | some l => .arr c l
    | none => .raw els
  | none => .raw els

@[reducible] def frc {α β : Type} (x : α) (K : α → β) : β := K x
section
variable {R : Type}
def qf7 {α β : Type} (f : α → (β → Option R) → Option R) : List α → (List β → Option R) → Option R
  | [], K => K []
  | x :: r, K => f x fun y => qf7 f r fun ys => K (y :: ys)

def qyh (op : BinOp) (k : IntKind) (x y : Int) (K : A2 → Option R) : Option R :=
  match op with
  | .add => K (.int k (k.wrap (x + y)))
  | .sub => K (.int k (k.wrap (x - y)))
  | .mul => K (.int k (k.wrap (x * y)))
  | .quo => if y = 0 then none else K (.int k (k.wrap (x.tdiv y)))
  | .rem => if y = 0 then none else K (.int k (x.tmod y))
  | .eql => K (.bool (x == y))
  | .neq => K (.bool (x != y))
  | .lss => K (.bool (decide (x < y)))
  | .leq => K (.bool (decide (x ≤ y)))
  | .gtr => K (.bool (decide (x > y)))
  | .geq => K (.bool (decide (x ≥ y)))
  | .and => K (.int k (k.wrap ((BitVec.ofInt k.bits x &&& BitVec.ofInt k.bits y).toNat : Int)))
  | .or => K (.int k (k.wrap ((BitVec.ofInt k.bits x ||| BitVec.ofInt k.bits y).toNat : Int)))
  | .xor => K (.int k (k.wrap ((BitVec.ofInt k.bits x ^^^ BitVec.ofInt k.bits y).toNat : Int)))
  | _ => none
def qmO : A2 → A2 → Option Bool
  | .nilp, .nilp => some true
  | .nilp, .ptr .. => some false
  | .nilp, .pe .. => some false
  | .ptr .., .nilp => some false
  | .pe .., .nilp => some false
  | _, _ => none
def quf : A2 → Bool
  | .nilp => true
  | .ptr .. => true
  | .pe .. => true
  | _ => false
def qr6 (T : TypeId → Option TI) (op : BinOp) (ty : TypeId) (a b : A2) (K : A2 → Option R) : Option R :=
  match a, b with
  | .int k x, .int k' y =>
    match op with
    | .shl => if y < 0 then none else K (.int k (k.wrap (x * 2 ^ (min y.toNat k.bits))))
    | .shr => if y < 0 then none else K (.int k (x.fdiv (2 ^ (min y.toNat k.bits))))
    | _ => if k = k' then qyh op k x y K else none
  | .str x, .str y =>
    match op with
    | .add => if ((x.size + y.size : Nat) : Int) > IntKind.i64.max then none else K (.str (x ++ y))
    | .eql => K (.bool (x.data.toList == y.data.toList))
    | .neq => K (.bool (!(x.data.toList == y.data.toList)))
    | _ => none
  | .bool x, .bool y =>
    match qay T ty, op with
    | some .bool, .eql => K (.bool (x == y))
    | some .bool, .neq => K (.bool (!(x == y)))
    | _, _ => none
  | x, y =>
    if quf x then
    match qay T ty with
    | some .ptr =>
      match op with
      | .eql => (qmO x y).bind fun b => K (.bool b)
      | .neq => (qmO x y).bind fun b => K (.bool (!b))
      | _ => none
    | _ => none
    else none
def un2 (op : UnOp) (a : A2) (K : A2 → Option R) : Option R :=
  match a with
  | .int k n => match op with
    | .neg => K (.int k (k.wrap (0 - n)))
    | _ => none
  | .bool b => match op with
    | .not => K (.bool (!b))
    | _ => none
  | _ => none
def qug (T : TypeId → Option TI) (src dst : TypeId) (a : A2) (K : A2 → Option R) : Option R :=
  match a with
  | .int _ n => match qay T src, qay T dst with
    | some (.int _), some (.int k) => K (.int k (k.wrap n))
    | _, _ => none
  | .str s => match qay T src, qay T dst with
    | some .str, some .str => K (.str s)
    | some .str, some (.sl e) => match qay T e with
      | some (.int .u8) => K (.sl (.int .u8) (s.data.toList.map fun b => (b.toNat : Int)))
      | _ => none
    | _, _ => none
  | _ => none

inductive Src
  | nil
  | of (c : Cd) (l : List c.D)
def Src.len : Src → Nat
  | .nil => 0
  | .of _ l => l.length
def Src.rows : Src → List (List At)
  | .nil => []
  | .of c l => l.map c.at
def quh (mem : qJ) (es : Nat) (a : A2) (K : Src → List Nat → Option R) : Option R :=
  match a with
  | .sl c l => if c.sz = es then K (.of c l) [] else none
  | .snil .. => K .nil []
  | .sm m lo n => (qdo mem m).bind fun b => match b.bd with
    | .arr c l => if b.es = es then if b.pr then if lo + n ≤ l.length then K (.of c ((l.drop lo).take n)) [m] else none else none else none
    | _ => none
  | _ => none

variable (c : Cfg) (CO : FuncId → List V2 → List Blk2 → (List V2 × List Blk2 → Option R) → Option R)

def qmP (mem : qJ) (a : A2) (K : A2 → Option R) : Option R :=
  match a with
  | .sm m lo n => (qdo mem m).bind fun b => if b.pr then match b.bd with
    | .arr c l => if c.sz = b.es then if lo + n ≤ l.length then K (.sl c ((l.drop lo).take n)) else none else none
    | .raw _ => none
    else none
  | .snil es ty => (cod c.T 9 ty).bind fun d => if d.sz = es then K (.sl d []) else none
  | x => K x
def qmQ (mem : qJ) (v : V2) (K : V2 → Option R) : Option R :=
  match v with
  | .a x => qmP c mem x fun y => K (.a y)
  | .g cs => qf7 (qmP c mem) cs fun ys => K (.g ys)
def qui (mem : qJ) (b : Blk2) (K : Blk2 → Option R) : Option R :=
  if b.pr then K b else match b.bd with
  | .raw els => qf7 (qf7 (qmP c mem)) els fun els => K { b with bd := .raw els }
  | .arr .. => none

def fz2 (mem : qJ) : List Nat → qJ
  | [] => []
  | m :: r => (match qdo mem m with | some b => (m, some { bd := b.bd, es := b.es, ty := b.ty, pr := b.pr, fz := true }) :: fz2 mem r | none => fz2 mem r)
def qr7 : List Nat → List Blk2 → qJ
  | n :: r, b :: s => (n, some b) :: qr7 r s
  | _, _ => []
def qAf : List V2 → Sv2
  | [x] => .v x
  | xs => .t xs
def qp3 (mu : Bool) (mem mem1 : qJ) (ρ : Nat → Option Nat) (m : Nat) (K : Blk2 → Option R) : Option R :=
  (qdo mem1 m).bind fun b => (fun K => if mu then K b else qui c mem b K) fun b => (qmM ρ b).bind K

def quj (f : FuncId) (args : List V2) (mem : qJ) (nx : Nat) (K : Eff2 → Option R) : Option R :=
  (fun K => if c.mutA f then K args else qf7 (qmQ c mem) args K) fun vals =>
  frc (clo (if c.mutA f then qch A2.nm mem else qch A2.ptrs mem) 64 (qdR A2.nm vals) []) fun N =>
  frc (if c.mutA f then [] else qdR A2.smn args ++ N.flatMap (qch A2.smn mem)) fun F =>
  frc (qe3 mem (fz2 mem F)) fun mem1 =>
  qf7 (qp3 c (c.mutA f) mem mem1 (idx N)) N fun blks =>
    (qu (qhU (idx N)) vals).bind fun vals' =>
    CO f vals' blks fun r =>
    frc (N ++ cnt nx (r.2.drop N.length)) fun NL =>
    (qu (qhU (fun i => NL[i]?)) r.1).bind fun rs =>
      (qu (qmM (fun i => NL[i]?)) r.2).bind fun bs =>
      K { v := qAf rs, upd := (if r.2.isEmpty && r.1.all (fun v => v.cells.all A2.noSl) then [] else fz2 mem F) ++ qr7 NL bs, nn := nx + (r.2.length - N.length), rd := N ++ F }

def qwU (t : TypeId) (s x : A2) (mem : qJ) (nx : Nat) (K : Eff2 → Option R) : Option R :=
  match qay c.T t with
  | some (.sl e) => (c.T e).bind fun te =>
    if 0 < te.size ∧ 0 < te.bytes ∧ te.zero.length = te.size then
    quh mem te.size x fun src srd =>
    match s with
    | .snil .. => match src with
      | .nil => (cod c.T 9 e).bind fun d => K { v := .v (.a (.sm nx 0 0)), upd := [(nx, some ⟨.arr d [], te.size, e, true, false⟩)], nn := nx + 1, rd := srd }
      | .of d l => if l.length * te.bytes ≤ 140737488355328 then K { v := .v (.a (.sm nx 0 l.length)), upd := [(nx, some ⟨.arr d l, te.size, e, true, false⟩)], nn := nx + 1, rd := srd } else none
    | .sm m lo n => (qdo mem m).bind fun b => match b.bd with
      | .arr d l => if b.es = te.size ∧ b.ty = e ∧ b.fz = false ∧ b.pr = true then if lo = 0 then if n ≤ l.length then
        match src with
        | .nil => if n * te.bytes ≤ 140737488355328 then K { v := .v (.a (.sm nx 0 n)), upd := [(m, none), (nx, some ⟨.arr d (l.take n), te.size, e, true, false⟩)], nn := nx + 1, rd := m :: srd } else none
        | .of d' l' => (qmK d' d l').bind fun l' => if (n + l'.length) * te.bytes ≤ 140737488355328 then
          K { v := .v (.a (.sm nx 0 (n + l'.length))), upd := [(m, none), (nx, some ⟨.arr d (l.take n ++ l'), te.size, e, true, false⟩)], nn := nx + 1, rd := m :: srd } else none
        else none else none else none
      | _ => none
    | _ => none
    else none
  | _ => none

def qdp (v : V2) (nx : Nat) (K : Eff2 → Option R) : Option R := K { v := .v v, upd := [], nn := nx, rd := [] }
def qmR (nx : Nat) (K : Eff2 → Option R) (x : A2) : Option R := K { v := .v (.a x), upd := [], nn := nx, rd := [] }
def qo2 (fr : List (Nat × Sv2)) (p : Nat × Operand) : Option (Nat × V2) := (qgX fr p.2).bind fun v => some (p.1, v)

def qEt (a b : A2) (nx : Nat) (K : Eff2 → Option R) : Option R :=
  match a, b with
  | .int k x, .int _ y => qdp (.a (.int k (max x y))) nx K
  | _, _ => none
def qEu (a b : A2) (nx : Nat) (K : Eff2 → Option R) : Option R :=
  match a, b with
  | .int k x, .int _ y => qdp (.a (.int k (min x y))) nx K
  | _, _ => none

def quk (fr : List (Nat × Sv2)) (o : Operand) : Option (List A2) :=
  match ev2 fr o with
  | some (.v (.g cs)) => some cs
  | _ => none
def qhW : List A2 → List A2 → Bool
  | [], [] => true
  | .int k _ :: r, .int k2 _ :: s => match decide (k = k2) with
    | true => qhW r s
    | false => false
  | _, _ => false
def eqK : List A2 → List A2 → (Bool → Option R) → Option R
  | .int _ x :: r, .int _ y :: s, K => if (x == y) = true then eqK r s K else K false
  | _, _, K => K true
def qwV (op : BinOp) (ti : TI) (cs : List A2) (v : V2) (nx : Nat) (K : Eff2 → Option R) : Option R :=
  match ti.d, v with
  | .st fs _, .g ds => if ti.eqs = true ∧ fs.length = cs.length then match qhW cs ds with
    | true => eqK cs ds fun b => match op with
      | .eql => qdp (.a (.bool b)) nx K
      | .neq => qdp (.a (.bool (!b))) nx K
      | _ => none
    | false => none
    else none
  | _, _ => none
def qul (i : Int) : List A2 → (A2 → Option R) → Option R
  | [], _ => none
  | x :: r, K => if i = 0 then K x else qul (i - 1) r K
def qwW (o : Oper) (fr : List (Nat × Sv2)) (mem : qJ) (nx : Nat) (K : Eff2 → Option R) : Option R :=
  match o.op with
  | .move x | .assign x =>
    (ev2 fr x).bind fun v =>
    match v with
    | .v (.a (.snil ..)) => match qay c.T o.type with
      | some (.sl e) => (c.T e).bind fun te => qdp (.a (.snil te.size e)) nx K
      | _ => none
    | .u => none
    | v => K { v := v, upd := [], nn := nx, rd := [] }
  | .pick k a b =>
    (qr4 fr k).bind fun t => if t = true then (qcO fr a).bind (qmR nx K) else (qcO fr b).bind (qmR nx K)
  | .alloc t => (c.T t).bind fun ti => (qjL ti).bind fun z =>
    if z.length = ti.size then K { v := .v (.a (.ptr nx 0 0)), upd := [(nx, some ⟨.raw [z], ti.size, t, true, false⟩)], nn := nx + 1, rd := [] } else none
  | .box t x => (c.T t).bind fun ti => (qgX fr x).bind fun v =>
    if v.cells.length = ti.size then
    K { v := .v (.a (.ptr nx 0 0)), upd := [(nx, some ⟨.raw [v.cells], ti.size, t, v.cells.all A2.pr, false⟩)], nn := nx + 1, rd := [] } else none
  | .build t parts => (c.T t).bind fun ti =>
    match ti.d with
    | .st fs _ => (qjL ti).bind fun z => if z.length = ti.size then (qu (qo2 fr) parts.toList).bind fun ps =>
      (qiy fs z ps).bind fun cs => qdp (.g cs) nx K else none
    | .arr n e => (c.T e).bind fun te => (qjL ti).bind fun z => if z.length = ti.size then (qu (qo2 fr) parts.toList).bind fun ps =>
      (qiy ((List.range n).map fun j => (j * te.size, te.size)) z ps).bind fun cs => qdp (.g cs) nx K else none
    | _ => none
  | .buildSlice t len parts =>
    match qay c.T t with
    | some (.sl e) => (c.T e).bind fun te => (qjL te).bind fun z =>
      (qu (qo2 fr) parts.toList).bind fun ps =>
      (qmN te.size (List.replicate len z) ps).bind fun els =>
      if len * te.size ≤ 16777216 ∧ 0 < te.size ∧ len < 9223372036854775807 ∧ z.length = te.size then
      K { v := .v (.a (.sm nx 0 len)), upd := [(nx, some ⟨que (cod c.T 9 e) els, te.size, e, els.all fun e => e.all A2.pr, false⟩)], nn := nx + 1, rd := [] }
      else none
    | _ => none
  | .load t x => (c.T t).bind fun ti => (qcO fr x).bind fun a =>
    match a with
    | .ptr m i o => (qdo mem m).bind fun b => match b.bd with
      | .raw els => (els[i]?).bind fun e => (qhV ti e o).bind fun v => K { v := .v v, upd := [], nn := nx, rd := [m] }
      | .arr d l => (l[i]?).bind fun e => (qhV ti (d.cl e) o).bind fun v => K { v := .v v, upd := [], nn := nx, rd := [m] }
    | .pe d e o => (qhV ti (d.cl e) o).bind fun v => qdp v nx K
    | _ => none
  | .store t x y => (c.T t).bind fun ti => (qgX fr y).bind fun v => (qcO fr x).bind fun a =>
    match a with
    | .ptr m i o => (qdo mem m).bind fun b => match b.bd with
      | .raw els => (els[i]?).bind fun e => if v.cells.length = ti.size ∧ o + ti.size ≤ e.length ∧ b.fz = false then
        K { v := .u, upd := [(m, some ⟨.raw (els.set i (qr5 e o v.cells)), b.es, b.ty, b.pr && v.cells.all A2.pr, b.fz⟩)], nn := nx, rd := [m] } else none
      | .arr d l => (l[i]?).bind fun e => if v.cells.length = ti.size ∧ o + ti.size ≤ (d.cl e).length ∧ b.fz = false ∧ b.pr = true then
        (d.dec (qr5 (d.cl e) o v.cells)).bind fun e' => K { v := .u, upd := [(m, some ⟨.arr d (l.set i e'), b.es, b.ty, b.pr && v.cells.all A2.pr, b.fz⟩)], nn := nx, rd := [m] } else none
    | _ => none
  | .nilCheck x => (qcO fr x).bind fun a =>
    match a with
    | .ptr m i o => qdp (.a (.ptr m i o)) nx K
    | .pe d e o => qdp (.a (.pe d e o)) nx K
    | _ => none
  | .binOp op ty x y _ => match quk fr x with
    | some cs => (c.T ty).bind fun ti => (qgX fr y).bind fun v => qwV op ti cs v nx K
    | none => (qcO fr x).bind fun a => (qcO fr y).bind fun b => qr6 c.T op ty a b (qmR nx K)
  | .unOp op _ x => (qcO fr x).bind fun a => un2 op a (qmR nx K)
  | .convert src dst x => (qcO fr x).bind fun a =>
    match qay c.T src, qay c.T dst with
    | some (.sl e), some .str => match qay c.T e with
      | some (.int .u8) => quh mem 1 a fun q rd => match q with
        | .nil => K { v := .v (.a (.str ⟨#[]⟩)), upd := [], nn := nx, rd := rd }
        | .of (.int .u8) l => K { v := .v (.a (.str ⟨(l.map fun n : Int => n.toNat.toUInt8).toArray⟩)), upd := [], nn := nx, rd := rd }
        | _ => none
      | _ => none
    | _, _ => qug c.T src dst a (qmR nx K)
  | .makeSlice t l k =>
    match qay c.T t with
    | some (.sl e) => (c.T e).bind fun te => (qjL te).bind fun z => (cod c.T 9 e).bind fun d => (d.dec z).bind fun z0 =>
      (qix fr l).bind fun l => (qix fr k).bind fun k =>
        if 0 < te.size ∧ 0 < te.bytes ∧ z.length = te.size then
        if 0 ≤ l ∧ l ≤ k ∧ k * te.bytes ≤ 140737488355328 then
          K { v := .v (.a (.sm nx 0 l.toNat)), upd := [(nx, some ⟨.arr d (List.replicate k.toNat z0), te.size, e, true, false⟩)], nn := nx + 1, rd := [] }
        else none else none
    | _ => none
  | .slice t x lo hi mx =>
    if mx.isSome then none else
    (qay c.T t).bind fun td => (qcO fr x).bind fun a =>
    match td, a with
    | .str, .str s =>
      (qfw fr 0 lo).bind fun l => (qfw fr s.size hi).bind fun h =>
      if 0 ≤ l ∧ l ≤ h ∧ h ≤ s.size then qdp (.a (.str (s.extract l.toNat h.toNat))) nx K else none
    | .sl e, .sl d els => (c.T e).bind fun te =>
      (qfw fr 0 lo).bind fun l => (qfw fr els.length hi).bind fun h =>
      if d.sz = te.size then if 0 ≤ l ∧ l ≤ h ∧ h ≤ els.length then qdp (.a (.sl d ((els.drop l.toNat).take (h.toNat - l.toNat)))) nx K else none else none
    | .sl e, .sm m b n => (c.T e).bind fun te =>
      (qdo mem m).bind fun B => match B.bd with
      | .arr _ els =>
        (qfw fr 0 lo).bind fun l => (qfw fr n hi).bind fun h =>
        if B.es = te.size ∧ 0 < te.size then if 0 ≤ l ∧ l ≤ h ∧ b + h.toNat ≤ els.length ∧ (l < h ∨ lo.isNone = true) then K { v := .v (.a (.sm m (b + l.toNat) (h.toNat - l.toNat))), upd := [], nn := nx, rd := [m] } else none else none
      | .raw els =>
        (qfw fr 0 lo).bind fun l => (qfw fr n hi).bind fun h =>
        if B.es = te.size ∧ 0 < te.size then if 0 ≤ l ∧ l ≤ h ∧ b + h.toNat ≤ els.length ∧ (l < h ∨ lo.isNone = true) then K { v := .v (.a (.sm m (b + l.toNat) (h.toNat - l.toNat))), upd := [], nn := nx, rd := [m] } else none else none
    | _, _ => none
  | .fieldAddr s x f =>
    match qay c.T s with
    | some (.st fs _) => (fs[f]?).bind fun p =>
      if p.2 = 0 then none else (qcO fr x).bind fun a =>
      match a with
      | .ptr m i o => qdp (.a (.ptr m i (o + p.1))) nx K
      | .pe d e o => qdp (.a (.pe d e (o + p.1))) nx K
      | _ => none
    | _ => none
  | .field s x f =>
    match qay c.T s with
    | some (.st fs ts) => (fs[f]?).bind fun p => (ts[f]?).bind fun ft => (qgX fr x).bind fun v =>
      match v with
      | .g cs => (c.T ft).bind fun ti => (qhV ti cs p.1).bind fun v => qdp v nx K
      | _ => none
    | _ => none
  | .indexAddr t x i =>
    match qay c.T t with
    | some (.sl e) => (c.T e).bind fun te => (qix fr i).bind fun i => (qcO fr x).bind fun a =>
      match a with
      | .sl d els => if d.sz = te.size then if 0 ≤ i then (els[i.toNat]?).bind fun el => qdp (.a (.pe d el 0)) nx K else none else none
      | .sm m b n => (qdo mem m).bind fun B => if B.es = te.size then if 0 ≤ i ∧ i < n then K { v := .v (.a (.ptr m (b + i.toNat) 0)), upd := [], nn := nx, rd := [m] } else none else none
      | _ => none
    | _ => none
  | .index t x i => match quk fr x with
    | some cs => (c.T t).bind fun ti => (qix fr i).bind fun i => match ti.d with
      | .arr n e => (c.T e).bind fun te => if te.size = 1 ∧ te.agg = false ∧ cs.length = n then qul i cs (fun x => qdp (.a x) nx K) else none
      | _ => none
    | none => (qay c.T t).bind fun td => (qcO fr x).bind fun a => (qix fr i).bind fun i =>
    match td, a with
    | .str, .str s =>
      if 0 ≤ i then (s.data[i.toNat]?).bind fun b => qdp (.a (.int .u8 b.toNat)) nx K else none
    | _, _ => none
  | .extract x i => (ev2 fr x).bind fun v =>
    match v with
    | .t vs => (vs[i]?).bind fun v => qdp v nx K
    | _ => none
  | .call k =>
    match k.callee with
    | .builtin .len =>
      ((k.argTypes[0]?).bind fun t => qay c.T t).bind fun td => ((k.args[0]?).bind fun o => qcO fr o).bind fun a =>
      match td, a with
      | .str, .str s => qdp (.a (.int .i64 s.size)) nx K
      | .sl _, .sl _ l => qdp (.a (.int .i64 l.length)) nx K
      | .sl _, .sm _ _ n => qdp (.a (.int .i64 n)) nx K
      | .sl _, .snil .. => qdp (.a (.int .i64 0)) nx K
      | _, _ => none
    | .builtin .min =>
      ((k.args[0]?).bind fun o => qcO fr o).bind fun a => ((k.args[1]?).bind fun o => qcO fr o).bind fun b =>
      if k.args.size = 2 then qEu a b nx K else none
    | .builtin .max =>
      ((k.args[0]?).bind fun o => qcO fr o).bind fun a => ((k.args[1]?).bind fun o => qcO fr o).bind fun b =>
      if k.args.size = 2 then qEt a b nx K else none
    | .builtin .append =>
      (k.argTypes[0]?).bind fun t => (k.argTypes[1]?).bind fun t' => ((k.args[0]?).bind fun o => qcO fr o).bind fun s => ((k.args[1]?).bind fun o => qcO fr o).bind fun x =>
      if t' = t then qwU c t s x mem nx K else none
    | .builtin _ => none
    | .value f =>
      (qcO fr f).bind fun a => match a with
      | .fn g => (qu (qgX fr) k.args.toList).bind fun args => quj c CO g args mem nx K
      | _ => none
    | .invoke .. => none
  | _ => none

inductive Out2 where
  | norm (σ : St2)
  | exit (id : Nat) (σ : St2)
  | ret (σ : St2)

def qp4 (nt : Nat) (d : Option Nat) (v : Sv2) (fr : List (Nat × Sv2)) (K : List (Nat × Sv2) → Option R) : Option R :=
  match d with
  | some d => if d < nt then K ((d, v) :: fr) else none
  | none => K fr
def qp5 (nt : Nat) (o : Oper) (σ : St2) (is : List Info) (K : St2 → List Info → Option R) : Option R :=
  qwW c CO o σ.fr σ.mem σ.nx fun e =>
  qp4 nt o.dst e.v σ.fr fun fr => K { fr := fr, mem := qe3 σ.mem e.upd, nx := e.nn } ({ rd := e.rd, wr := e.upd.map (·.1) } :: is)
def qmS (nt : Nat) (o : Oper) (σ : St2) (is : List Info) (K : St2 → List Info → Option R) : Option R :=
  qp4 nt o.dst .u σ.fr fun fr => K { fr := fr, mem := σ.mem, nx := σ.nx } ({ rd := [], wr := [] } :: is)
def know (d : Nat) (b : Bool) (σ : St2) : St2 := { σ with fr := (d, .v (.a (.bool b))) :: σ.fr }
def qvA (nt : Nat) (ops : List Oper) (o : Oper) (σ : St2) (is : List Info) (K : St2 → List Info → Option R) : Option R :=
  match o.guard with
  | none => qp5 c CO nt o σ is K
  | some (j, want) =>
    ((ops[j]?).bind (·.dst)).bind fun d =>
    (lk σ.fr d).bind fun v =>
    match v with
    | .v (.a (.bool b)) => if b = want then qp5 c CO nt o (know d want σ) is K else qmS nt o (know d (!want) σ) is K
    | _ => qmS nt o σ is K
def qjM (nt : Nat) (ops : List Oper) : List Oper → St2 → List Info → (St2 → List Info → Option R) → Option R
  | [], σ, is, K => K σ is
  | o :: r, σ, is, K => qvA c CO nt ops o σ is fun σ is => qjM nt ops r σ is K

variable (LO : Nat → Code → St2 → (Out2 → Option R) → Option R)
def qF (nt : Nat) : Nat → Code → St2 → (Out2 → Option R) → Option R
  | _, .skip, σ, K => K (.norm σ)
  | _, .region _ ops draw, σ, K => qjM c CO nt ops.toList ops.toList σ [] fun σ' is => if (draw && !(qmz ops.toList is.reverse)) = true then none else K (.norm σ')
  | b, .seq x y, σ, K => qF nt b x σ fun
    | .norm σ' => qF nt b y σ' K
    | o => K o
  | b, .cond (.tmp t) x y, σ, K => (lk σ.fr t).bind fun v =>
    match v with
    | .v (.a (.bool q)) => if q = true then qF nt b x (know t true σ) K else qF nt b y (know t false σ) K
    | _ => none
  | b, .cond o x y, σ, K => (qr4 σ.fr o).bind fun q => if q = true then qF nt b x σ K else qF nt b y σ K
  | _, .block id x, σ, K => qF nt id x σ fun
    | .exit i σ' => if i = id then K (.norm σ') else K (.exit i σ')
    | o => K o
  | b, .loop x, σ, K => LO b x σ K
  | _, .exit id, σ, K => K (.exit id σ)
  | _, .ret, σ, K => K (.ret σ)
  | _, .rangeFunc .., _, _ => none
  | _, .scope _, _, _ => none
  | _, .label _, _, _ => none
  | _, .goto _, _, _ => none
  | _, .refuse _, _, _ => none
end

def qhX (T : TypeId → Option TI) (nx : Nat) : A2 → A2 × qJ × Nat
  | .snil es ty => (.sm nx 0 0, [(nx, some ⟨match cod T 9 ty with | some d => .arr d [] | none => .raw [], es, ty, true, false⟩)], nx + 1)
  | x => (x, [], nx)
def qgL (T : TypeId → Option TI) : Nat → List A2 → List A2 × qJ × Nat
  | nx, [] => ([], [], nx)
  | nx, x :: r => (fun p => (fun q => (p.1 :: q.1, p.2.1 ++ q.2.1, q.2.2)) (qgL T p.2.2 r)) (qhX T nx x)
def qhc (T : TypeId → Option TI) (σ : St2) : List Kp → Option (List (Nat × V2) × qJ × Nat)
  | [] => some ([], [], σ.nx)
  | .s t :: r => (qhc T σ r).bind fun q =>
    match lk σ.fr t with
    | some (.v (.a x)) => (fun p => some ((t, .a p.1) :: q.1, q.2.1 ++ p.2.1, p.2.2)) (qhX T q.2.2 x)
    | some (.v (.g cs)) => (fun p => some ((t, .g p.1) :: q.1, q.2.1 ++ p.2.1, p.2.2)) (qgL T q.2.2 cs)
    | _ => none
  | .b t :: r => (qhc T σ r).bind fun q =>
    match lk σ.fr t with
    | some (.v (.a (.ptr m 0 o))) => (qdo (qe3 σ.mem q.2.1) m).bind fun b =>
      match b.bd with
      | .raw [e] => (fun p => some ((t, .a (.ptr m 0 o)) :: q.1, q.2.1 ++ (p.2.1 ++ [(m, some ⟨.raw [p.1], b.es, b.ty, p.1.all A2.pr, b.fz⟩)]), p.2.2)) (qgL T q.2.2 e)
      | _ => none
    | _ => none
def qp6 (ρ : Nat → Option Nat) : List (Nat × V2) → Option (List (Nat × Sv2))
  | [] => some []
  | (t, x) :: r => (qhU ρ x).bind fun y => (qp6 ρ r).bind fun s => some ((t, .v y) :: s)
def qp7 (T : TypeId → Option TI) (p : Nat) (ks : List Kp) (σ : St2) : Option St2 :=
  (qhc T σ ks).bind fun q =>
  frc (qe3 σ.mem q.2.1) fun mem =>
  frc (clo (qch A2.nm mem) 64 (List.range p ++ qdR A2.nm (q.1.map (·.2))) []) fun N =>
  (qp6 (idx N) q.1).bind fun fr =>
    (qu (fun m => (qdo mem m).bind (qmM (idx N))) N).bind fun bs =>
    if N.take p = List.range p then some { fr := fr, mem := qr7 (List.range N.length) bs, nx := N.length } else none

section
variable {R : Type} (c : Cfg)
def qmT (σ : St2) : ResultVar → Option V2
  | .tmp t => qgX σ.fr (.tmp t)
  | .cell a t => (c.T t).bind fun ti =>
    (qcO σ.fr (.tmp a)).bind fun x => match x with
    | .ptr m i o => (qdo σ.mem m).bind fun b => match b.bd with
      | .raw els => (els[i]?).bind fun e => qhV ti e o
      | .arr .. => none
    | _ => none
def qfx (T : TypeId → Option TI) : Nat → List V2 → List V2 × qJ × Nat
  | nx, [] => ([], [], nx)
  | nx, .a x :: r => (fun p => (fun q => (.a p.1 :: q.1, p.2.1 ++ q.2.1, q.2.2)) (qfx T p.2.2 r)) (qhX T nx x)
  | nx, .g cs :: r => (fun p => (fun q => (.g p.1 :: q.1, p.2.1 ++ q.2.1, q.2.2)) (qfx T p.2.2 r)) (qgL T nx cs)
def qjN (f : FuncId) (rvs : List ResultVar) (p : Nat) (σ : St2) (K : List V2 × List Blk2 → Option R) : Option R :=
  (qu (qmT c σ) rvs).bind fun rs0 =>
  frc (if c.ownR f then qfx c.T σ.nx rs0 else (rs0, [], σ.nx)) fun q =>
  frc (qe3 σ.mem q.2.1) fun mem =>
  (fun K => if c.ownR f then K q.1 else qf7 (qmQ c mem) rs0 K) fun rs =>
  frc (clo (if c.mutA f then qch A2.nm mem else qch A2.ptrs mem) 64 (List.range p ++ qdR A2.nm rs) []) fun N =>
  frc ((if c.ownR f then [] else qdR A2.smn rs0) ++ (if c.mutA f then [] else N.flatMap (qch A2.smn mem))) fun F =>
  frc (qe3 mem (fz2 mem F)) fun mem1 =>
  (qu (qhU (idx N)) rs).bind fun rs' =>
    qf7 (qp3 c (c.mutA f) mem mem1 (idx N)) N fun bs =>
    if N.take p = List.range p then K (rs', bs) else none
def qyi (f : FuncId) (rvs : List ResultVar) (p : Nat) (K : List V2 × List Blk2 → Option R) : Out2 → Option R
  | .norm σ => qjN c f rvs p σ K
  | .ret σ => qjN c f rvs p σ K
  | .exit .. => none
def qum (args : List V2) : List (Nat × Sv2) := qdO 0 (args.map Sv2.v)
def qi (CO : FuncId → List V2 → List Blk2 → (List V2 × List Blk2 → Option R) → Option R) (LO : Nat → Code → St2 → (Out2 → Option R) → Option R)
    (f : FuncId) (nt : Nat) (rvs : List ResultVar) (body : Code) (args : List V2) (blks : List Blk2) (K : List V2 × List Blk2 → Option R) : Option R :=
  qF c CO LO nt 0 body { fr := qum args, mem := qdO 0 (blks.map some), nx := blks.length } (qyi c f rvs blks.length K)
end

end Go.Proofs.YtbhnafdmilfobaaGreat.Am

/- What the typed machine says the abstract machine says: words, memory, qgN, freezing. -/
set_option linter.unusedVariables false
set_option linter.unusedSimpArgs false
namespace Go.Proofs.YtbhnafdmilfobaaGreat.Am
open Go

theorem qfS : ∀ (c : Cd) (x : c.D), (c.cl x).map A2.at = c.at x
  | .int k, x => rfl
  | .bool, b => rfl
  | .str, s => rfl
  | .sl c, l => rfl
  | .pr a b, x => by simp only [Cd.cl, Cd.at, List.map_append, qfS a, qfS b]
theorem qlM {a b : Cd} {l : List a.D} {m : List b.D} (h : qmK a b l = some m) : ∃ e : a = b, m = e ▸ l := by
  unfold qmK at h
  split at h
  · rename_i e; exact ⟨e, by cases h; rfl⟩
  · cases h
theorem qEv : ∀ {c : Cd} {cs : List A2} {x : c.D} {r : List A2}, c.de cs = some (x, r) → cs = c.cl x ++ r := by
  intro c
  induction c with
  | int k =>
    intro cs x r h
    match cs, h with
    | .int k' n :: r', h =>
      simp only [Cd.de] at h
      split at h
      · rename_i h'; subst h'; cases h; rfl
      · cases h
  | bool =>
    intro cs x r h
    match cs, h with
    | .bool b :: r', h => cases h; rfl
  | str =>
    intro cs x r h
    match cs, h with
    | .str b :: r', h => cases h; rfl
  | sl c ih =>
    intro cs x r h
    match cs, h with
    | .sl c' l :: r', h =>
      simp only [Cd.de, Option.bind_eq_some_iff] at h
      obtain ⟨m, h1, h⟩ := h
      cases h
      obtain ⟨e, rfl⟩ := qlM h1
      cases e
      rfl
  | pr a b iha ihb =>
    intro cs x r h
    simp only [Cd.de, Option.bind_eq_some_iff] at h
    obtain ⟨p, h1, q, h2, h⟩ := h
    cases h
    rw [iha (x := p.1) (r := p.2) h1, ihb (x := q.1) (r := q.2) h2]
    simp [Cd.cl]
theorem dec_eq {c : Cd} {cs : List A2} {x : c.D} (h : c.dec cs = some x) : cs = c.cl x := by
  simp only [Cd.dec, Option.bind_eq_some_iff] at h
  obtain ⟨p, h1, h⟩ := h
  split at h
  · rename_i e
    cases h
    have := qEv (x := p.1) (r := p.2) h1
    rw [e, List.append_nil] at this
    exact this
  · cases h
theorem qr8 {c : Cd} {cs : List A2} {x : c.D} (h : c.dec cs = some x) : cs.map A2.at = c.at x := by rw [dec_eq h, qfS]
theorem qzs {c : Cd} : ∀ {els : List (List A2)} {l : List c.D}, qu c.dec els = some l → els.map (fun e => e.map A2.at) = l.map c.at := by
  intro els
  induction els with
  | nil => intro l h; cases h; rfl
  | cons e els ih =>
    intro l h
    simp only [qu, Option.bind_eq_some_iff] at h
    obtain ⟨y, h1, ys, h2, h⟩ := h
    cases h
    rw [List.map_cons, List.map_cons, qr8 h1, ih h2]
theorem qun (c : Option Cd) (els : List (List A2)) : (que c els).rows = els.map fun e => e.map A2.at := by
  unfold que
  split
  · split
    · rename_i h; exact (qzs h).symm
    · rfl
  · rfl

theorem qyj (a : A2) : a.at.nm = a.nm := by cases a <;> rfl
theorem qvB (a : A2) : a.at.smn = a.smn := by cases a <;> rfl
theorem qzt (a : A2) : a.at.ptrs = a.ptrs := by cases a <;> rfl
theorem qup (a : A2) : a.at.pr = a.pr := by cases a <;> rfl
theorem qzu (a : A2) : a.at.noSl = a.noSl := by cases a <;> rfl
theorem qgm : ∀ (c : Cd) (x : c.D), ∀ y ∈ c.at x, y.nm = [] ∧ y.smn = [] ∧ y.ptrs = [] ∧ y.pr = true
  | .int k, x => by simp [Cd.at, At.nm, At.smn, At.ptrs, At.pr]
  | .bool, b => by simp [Cd.at, At.nm, At.smn, At.ptrs, At.pr]
  | .str, s => by simp [Cd.at, At.nm, At.smn, At.ptrs, At.pr]
  | .sl c, l => by simp [Cd.at, At.nm, At.smn, At.ptrs, At.pr]
  | .pr a b, x => by
    intro y hy
    rcases List.mem_append.1 hy with hy | hy
    · exact qgm a _ y hy
    · exact qgm b _ y hy

theorem qek (v : V2) : v.at.cells = v.cells.map A2.at := by cases v <;> rfl
theorem qEw (m : qJ) (n : Nat) : lk m.at n = (lk m n).map fun o => o.map Blk2.at := by
  induction m with
  | nil => rfl
  | cons p m ih =>
    simp only [qJ.at, List.map_cons, lk, oAt] at ih ⊢
    split
    · rfl
    · exact ih
theorem qbL (m : qJ) (n : Nat) : qn m.at n = (qdo m n).map Blk2.at := by
  unfold qn qdo
  rw [qEw]
  cases lk m n with
  | none => rfl
  | some o => cases o <;> rfl
theorem qAg (m : qJ) (p : Nat × Option Blk2) : (qud m p).at = qcL m.at (oAt p) := by
  induction m with
  | nil => rfl
  | cons q m ih =>
    simp only [qud, qJ.at, List.map_cons, qcL, oAt] at ih ⊢
    split
    · rfl
    · simp only [List.map_cons, oAt, ih]
theorem qgn (m u : qJ) : (qe3 m u).at = qS m.at u.at := by
  induction u generalizing m with
  | nil => rfl
  | cons p u ih =>
    simp only [qe3, ih, qAg]
    rfl
theorem qgo (a b : qJ) : qJ.at (a ++ b) = a.at ++ b.at := by simp [qJ.at]
theorem qfD (p : Nat × Option Blk2) (b : qJ) : qJ.at (p :: b) = oAt p :: b.at := rfl
theorem qzv (u : qJ) : u.at.map (·.1) = u.map (·.1) := by simp [qJ.at, oAt, Function.comp_def]

theorem qiz (vs : List V2) : qh (vs.map V2.at) = qdR A2.nm vs := by
  simp only [qh, qdR, List.flatMap_map]
  congr 1; funext v
  rw [qek, List.flatMap_map]
  congr 1; funext a; exact qyj a
theorem qtw (vs : List V2) : qgk (vs.map V2.at) = qdR A2.smn vs := by
  simp only [qgk, qdR, List.flatMap_map]
  congr 1; funext v
  rw [qek, List.flatMap_map]
  congr 1; funext a; exact qvB a
theorem qhY {f : At → List Nat} {g : A2 → List Nat} (h1 : ∀ a : A2, f a.at = g a) (h2 : ∀ (c : Cd) (x : c.D), ∀ y ∈ c.at x, f y = []) (b : Bd) :
    (b.rows.flatMap fun e => e.flatMap f) = b.els2.flatMap fun e => e.flatMap g := by
  cases b with
  | arr c l =>
    simp only [Bd.rows, Bd.els2, List.flatMap_nil, List.flatMap_eq_nil_iff, List.mem_map]
    rintro e ⟨x, _, rfl⟩ y hy
    exact h2 c x y hy
  | raw els =>
    simp only [Bd.rows, Bd.els2, List.flatMap_map]
    congr 1; funext e; congr 1; funext a; exact h1 a
theorem qpK (m : qJ) : qdG m.at = qch A2.nm m := by
  funext n
  unfold qdG qch
  rw [qbL]
  cases qdo m n with
  | none => rfl
  | some b =>
    simp only [Option.map_some, qvj, Blk2.at]
    split
    · rfl
    · exact qhY qyj (fun c x y hy => (qgm c x y hy).1) b.bd
theorem qwX (m : qJ) : qfs m.at = qch A2.ptrs m := by
  funext n
  unfold qfs qch
  rw [qbL]
  cases qdo m n with
  | none => rfl
  | some b =>
    simp only [Option.map_some, Blk2.at]
    split
    · rfl
    · exact qhY qzt (fun c x y hy => (qgm c x y hy).2.2.1) b.bd
theorem qtx (m : qJ) : qdN m.at = qch A2.smn m := by
  funext n
  unfold qdN qch
  rw [qbL]
  cases qdo m n with
  | none => rfl
  | some b =>
    simp only [Option.map_some, Blk2.at]
    split
    · rfl
    · exact qhY qvB (fun c x y hy => (qgm c x y hy).2.1) b.bd

theorem qdS {α β α' β' : Type} {f : α → Option β} {g : α' → Option β'} {p : α → α'} {q : β → β'} (h : ∀ x y, f x = some y → g (p x) = some (q y)) :
    ∀ {l : List α} {ys : List β}, qu f l = some ys → qu g (l.map p) = some (ys.map q) := by
  intro l
  induction l with
  | nil => intro ys e; cases e; rfl
  | cons x l ih =>
    intro ys e
    simp only [qu, Option.bind_eq_some_iff] at e
    obtain ⟨y, e1, zs, e2, e⟩ := e
    cases e
    simp only [List.map_cons, qu, h _ _ e1, ih e2, Option.bind_some]
theorem qo3 {ρ : Nat → Option Nat} {a b : A2} (h : qmL ρ a = some b) : qfq ρ a.at = some b.at := by
  cases a <;> simp only [qmL, Option.bind_eq_some_iff] at h
  case ptr m i o => obtain ⟨m', h1, h⟩ := h; cases h; simp [A2.at, qfq, h1]
  case sm m i o => obtain ⟨m', h1, h⟩ := h; cases h; simp [A2.at, qfq, h1]
  all_goals (cases h; rfl)
theorem qjO {ρ : Nat → Option Nat} {a b : V2} (h : qhU ρ a = some b) : qe1 ρ a.at = some b.at := by
  cases a with
  | a x =>
    simp only [qhU, Option.bind_eq_some_iff] at h
    obtain ⟨y, h1, h⟩ := h
    cases h
    simp [V2.at, qe1, qo3 h1]
  | g cs =>
    simp only [qhU, Option.bind_eq_some_iff] at h
    obtain ⟨y, h1, h⟩ := h
    cases h
    simp [V2.at, qe1, qdS (fun _ _ => qo3) h1]
theorem qjP {ρ : Nat → Option Nat} {a b : Blk2} (h : qmM ρ a = some b) : qeh ρ a.at = some b.at := by
  unfold qmM at h
  unfold qeh
  split at h
  · rename_i hp
    cases h
    rw [if_pos (by exact hp)]
  · rename_i hp
    rw [if_neg (by exact hp)]
    split at h
    · rename_i els hb
      simp only [Option.bind_eq_some_iff] at h
      obtain ⟨els', h1, h⟩ := h
      cases h
      have := qdS (p := List.map A2.at) (q := List.map A2.at) (fun _ _ h => qdS (fun _ _ => qo3) h) h1
      simp only [Blk2.at, hb, Bd.rows, this, Option.bind_some]
    · cases h

def Snd {R α : Type} (m : (α → Option R) → Option R) (Q : α → Prop) : Prop := ∀ K r, m K = some r → ∃ x, K x = some r ∧ Q x
theorem qfE {R α β α' β' : Type} {f : α → (β → Option R) → Option R} {g : α' → Option β'} {p : α → α'} {q : β → β'} (h : ∀ x, Snd (f x) fun y => g (p x) = some (q y)) :
    ∀ l : List α, Snd (qf7 f l) fun ys => qu g (l.map p) = some (ys.map q) := by
  intro l
  induction l with
  | nil => intro K r e; exact ⟨[], e, rfl⟩
  | cons x l ih =>
    intro K r e
    simp only [qf7] at e
    obtain ⟨y, e1, h1⟩ := h x _ _ e
    obtain ⟨ys, e2, h2⟩ := ih _ _ e1
    exact ⟨y :: ys, e2, by simp only [List.map_cons, qu, h1, h2, Option.bind_some]⟩

section
variable {R : Type} {c : Cfg}
theorem qo4 (mem : qJ) (a : A2) : Snd (qmP (R := R) c mem a) fun y => qeF mem.at a.at = some y.at := by
  intro K r e
  cases a <;> simp only [qmP] at e
  case sm m lo n =>
    simp only [Option.bind_eq_some_iff] at e
    obtain ⟨b, e1, e⟩ := e
    split at e
    · rename_i hp
      split at e
      · rename_i d l hb
        split at e
        · rename_i hz
          split at e
          · rename_i hl
            refine ⟨_, e, ?_⟩
            have hrows : b.at.els = l.map d.at := by simp [Blk2.at, hb, Bd.rows]
            simp only [A2.at, qeF, qbL, e1, Option.map_some, Option.bind_some, hrows]
            rw [if_pos ⟨hp, by simpa using hl⟩]
            simp only [Blk2.at, hz, List.map_take, List.map_drop, List.length_take, List.length_drop]
            rw [show min n (l.length - lo) = n by omega]
          · cases e
        · cases e
      · cases e
    · cases e
  case snil es ty =>
    simp only [Option.bind_eq_some_iff] at e
    obtain ⟨d, e1, e⟩ := e
    split at e
    · rename_i hz
      exact ⟨_, e, by simp [A2.at, qeF, hz]⟩
    · cases e
  all_goals exact ⟨_, e, rfl⟩
theorem qty (mem : qJ) (v : V2) : Snd (qmQ (R := R) c mem v) fun y => qeg mem.at v.at = some y.at := by
  intro K r e
  cases v with
  | a x =>
    obtain ⟨y, e1, h1⟩ := qo4 mem x (fun y => K (.a y)) r e
    exact ⟨_, e1, by simp [V2.at, qeg, h1]⟩
  | g cs =>
    obtain ⟨y, e1, h1⟩ := qfE (fun a => qo4 mem a) cs (fun ys => K (.g ys)) r e
    exact ⟨_, e1, by simp [V2.at, qeg, h1]⟩
theorem qzw (mem : qJ) (b : Blk2) : Snd (qui (R := R) c mem b) fun y => qfr mem.at b.at = some y.at := by
  intro K r e
  unfold qui at e
  unfold qfr
  split at e
  · rename_i hp
    exact ⟨_, e, by rw [if_pos (by exact hp)]⟩
  · rename_i hp
    split at e
    · rename_i els hb
      obtain ⟨y, e1, h1⟩ := qfE (p := List.map A2.at) (q := List.map A2.at) (fun l => qfE (fun a => qo4 mem a) l) els _ _ e
      refine ⟨_, e1, ?_⟩
      rw [if_neg (by exact hp)]
      simp only [Blk2.at, hb, Bd.rows, h1, Option.bind_some]
    · cases e
theorem qvC (mu : Bool) (mem mem1 : qJ) (ρ : Nat → Option Nat) (m : Nat) :
    Snd (qp3 (R := R) c mu mem mem1 ρ m) fun y => ((qn mem1.at m).bind fun b => (if mu then some b else qfr mem.at b).bind (qeh ρ)) = some y.at := by
  intro K r e
  simp only [qp3, Option.bind_eq_some_iff] at e
  obtain ⟨b, e1, e⟩ := e
  split at e
  · rename_i hm
    simp only [Option.bind_eq_some_iff] at e
    obtain ⟨b', e2, e⟩ := e
    exact ⟨b', e, by simp [qbL, e1, hm, qjP e2]⟩
  · rename_i hm
    obtain ⟨b1, e2, h1⟩ := qzw mem b _ _ e
    simp only [Option.bind_eq_some_iff] at e2
    obtain ⟨b', e3, e2⟩ := e2
    exact ⟨b', e2, by simp [qbL, e1, hm, h1, qjP e3]⟩
theorem quq (mem : qJ) (F : List Nat) : (fz2 mem F).at = qdm mem.at F := by
  induction F with
  | nil => rfl
  | cons m F ih =>
    simp only [fz2, qdm, qbL]
    cases qdo mem m with
    | none => exact ih
    | some b => rw [Option.map_some, ← ih]; rfl
theorem qvD (N : List Nat) (bs : List Blk2) : (qr7 N bs).at = qei N (bs.map Blk2.at) := by
  induction N generalizing bs with
  | nil => rfl
  | cons n N ih =>
    cases bs with
    | nil => rfl
    | cons b bs => simp only [qr7, List.map_cons, qei, ← ih]; rfl
theorem qtz {α β : Type} : ∀ (n : Nat) (a : List α) (b : List β), a.length = b.length → cnt n a = cnt n b
  | _, [], [], _ => rfl
  | n, _ :: a, _ :: b, h => by rw [cnt, cnt, qtz (n + 1) a b (by simpa using h)]
  | _, [], _ :: _, h => by simp at h
  | _, _ :: _, [], h => by simp at h
theorem qAh (rs : List V2) : (qAf rs).at = qoY (rs.map V2.at) := by
  match rs with
  | [] => rfl
  | [x] => rfl
  | x :: y :: r => rfl
end
end Go.Proofs.YtbhnafdmilfobaaGreat.Am

/- What the typed machine says the abstract machine says: operations. -/
set_option linter.unusedVariables false
set_option linter.unusedSimpArgs false
namespace Go.Proofs.YtbhnafdmilfobaaGreat.Am
open Go

def FrR (fr2 : List (Nat × Sv2)) (fr : List (Nat × Sv)) : Prop := ∀ t v, lk fr2 t = some v → lk fr t = some v.at

section
variable {fr2 : List (Nat × Sv2)} {fr : List (Nat × Sv)}
theorem qwY {v : Value} {x : A2} (h : qr3 v = some x) : qmx v = some x.at := by
  unfold qr3 at h
  split at h <;> first | (cases h; rfl) | cases h
theorem FrR.ev (hF : FrR fr2 fr) {o : Operand} {v : Sv2} (h : ev2 fr2 o = some v) : Go.Proofs.YtbhnafdmilfobaaGreat.Am.ev fr o = some v.at := by
  cases o with
  | tmp t => exact hF t v h
  | const v =>
    simp only [ev2, Option.bind_eq_some_iff] at h
    obtain ⟨x, h1, h⟩ := h
    cases h
    simp [Am.ev, qwY h1, Sv2.at, V2.at]
  | func f => cases h; rfl
  | global g => cases h
theorem qAi {v : Sv2} {x : A2} (h : qwS v = some x) : svA v.at = some x.at := by
  unfold qwS at h
  split at h
  · cases h; rfl
  · cases h
theorem qAj {v : Sv2} {x : V2} (h : qwT v = some x) : svV v.at = some x.at := by
  unfold qwT at h
  split at h
  · cases h; rfl
  · cases h
theorem FrR.evA (hF : FrR fr2 fr) {o : Operand} {x : A2} (h : qcO fr2 o = some x) : Am.evA fr o = some x.at := by
  simp only [qcO, Option.bind_eq_some_iff] at h
  obtain ⟨v, h1, h⟩ := h
  simp [Am.evA, hF.ev h1, qAi h]
theorem FrR.evV (hF : FrR fr2 fr) {o : Operand} {x : V2} (h : qgX fr2 o = some x) : Am.evV fr o = some x.at := by
  simp only [qgX, Option.bind_eq_some_iff] at h
  obtain ⟨v, h1, h⟩ := h
  simp [Am.evV, hF.ev h1, qAj h]
theorem FrR.evB (hF : FrR fr2 fr) {o : Operand} {b : Bool} (h : qr4 fr2 o = some b) : Am.evB fr o = some b := by
  simp only [qr4, Option.bind_eq_some_iff] at h
  obtain ⟨x, h1, h⟩ := h
  cases x <;> simp only [qAd] at h
  all_goals first | (cases h; simp [Am.evB, hF.evA h1, A2.at, asB]) | cases h
theorem FrR.evI (hF : FrR fr2 fr) {o : Operand} {i : Int} (h : qix fr2 o = some i) : Am.evI fr o = some i := by
  simp only [qix, Option.bind_eq_some_iff] at h
  obtain ⟨x, h1, h⟩ := h
  cases x <;> simp only [qAe] at h
  all_goals first | (cases h; simp [Am.evI, hF.evA h1, A2.at, asI]) | cases h
theorem FrR.bound (hF : FrR fr2 fr) {d : Nat} {o : Option Operand} {i : Int} (h : qfw fr2 d o = some i) : qcG fr d o = some i := by
  cases o with
  | none => exact h
  | some o => exact hF.evI h
theorem FrR.cons (hF : FrR fr2 fr) (d : Nat) (v : Sv2) : FrR ((d, v) :: fr2) ((d, v.at) :: fr) := by
  intro t x h
  simp only [lk] at h ⊢
  split at h
  · rename_i e; rw [if_pos e]; cases h; rfl
  · rename_i e; rw [if_neg e]; exact hF t x h
theorem FrR.know (hF : FrR fr2 fr) {d : Nat} {b b' : Bool} (hl : lk fr2 d = some (.v (.a (.bool b)))) (hb : b = b') : FrR ((d, .v (.a (.bool b'))) :: fr2) fr := by
  subst hb
  intro t x h
  simp only [lk] at h
  split at h
  · rename_i e; subst e; cases h; exact hF _ _ hl
  · exact hF t x h

theorem qAk {x : At} {y : A2} (h : at2 x = some y) : y.at = x := by
  unfold at2 at h
  split at h <;> first | (cases h; rfl) | cases h
theorem qhd {ti : TI} {z : List A2} (h : qjL ti = some z) : z.map A2.at = ti.zero ∧ z.length = ti.zero.length := by
  have key : ∀ (l : List At) (z : List A2), qu at2 l = some z → z.map A2.at = l := by
    intro l
    induction l with
    | nil => intro z h; cases h; rfl
    | cons x l ih =>
      intro z h
      simp only [qu, Option.bind_eq_some_iff] at h
      obtain ⟨y, h1, ys, h2, h⟩ := h
      cases h
      rw [List.map_cons, qAk h1, ih _ h2]
  have := key _ _ h
  exact ⟨this, by rw [← this, List.length_map]⟩
theorem qhe {ti : TI} {e : List A2} {o : Nat} {v : V2} (h : qhV ti e o = some v) : qga ti (e.map A2.at) o = some v.at := by
  unfold qhV at h
  unfold qga
  split at h
  · rename_i ha
    split at h
    · rename_i hl
      cases h
      rw [if_pos ha, if_pos (by simpa using hl)]
      simp [V2.at, List.map_take, List.map_drop]
    · cases h
  · rename_i ha
    simp only [Option.bind_eq_some_iff] at h
    obtain ⟨x, h1, h⟩ := h
    cases h
    rw [if_neg ha]
    simp [h1, V2.at]
theorem qr9 (cs : List A2) (o : Nat) (xs : List A2) : (qr5 cs o xs).map A2.at = qee (cs.map A2.at) o (xs.map A2.at) := by
  simp [qr5, qee, List.map_take, List.map_drop]
theorem qsa {ds : List (Nat × Nat)} : ∀ {ps : List (Nat × V2)} {cs r : List A2}, qiy ds cs ps = some r → qgH ds (cs.map A2.at) (ps.map fun p => (p.1, p.2.at)) = some (r.map A2.at) := by
  intro ps
  induction ps with
  | nil => intro cs r h; cases h; rfl
  | cons p ps ih =>
    intro cs r h
    simp only [qiy, Option.bind_eq_some_iff] at h
    obtain ⟨q, h1, h⟩ := h
    split at h
    · rename_i hl
      simp only [List.map_cons, qgH, h1, Option.bind_some, qek, List.length_map]
      rw [if_pos hl, ← qr9]
      exact ih h
    · cases h
theorem qwZ {es : Nat} : ∀ {ps : List (Nat × V2)} {cs r : List (List A2)}, qmN es cs ps = some r → qhJ es (cs.map fun e => e.map A2.at) (ps.map fun p => (p.1, p.2.at)) = some (r.map fun e => e.map A2.at) := by
  intro ps
  induction ps with
  | nil => intro cs r h; cases h; rfl
  | cons p ps ih =>
    intro cs r h
    simp only [qmN] at h
    split at h
    · rename_i hl
      simp only [List.map_cons, qhJ, qek, List.length_map]
      rw [if_pos hl, ← List.map_set]
      exact ih h
    · cases h
theorem qlN (hF : FrR fr2 fr) {l : List (Nat × Operand)} {ps : List (Nat × V2)} (h : qu (qo2 fr2) l = some ps) :
    qu (fun p : Nat × Operand => (Am.evV fr p.2).bind fun v => some (p.1, v)) l = some (ps.map fun p => (p.1, p.2.at)) := by
  have := qdS (p := id) (q := fun p : Nat × V2 => (p.1, p.2.at)) (f := qo2 fr2) (g := fun p : Nat × Operand => (Am.evV fr p.2).bind fun v => some (p.1, v)) (fun x y h => by
    simp only [qo2, Option.bind_eq_some_iff] at h
    obtain ⟨v, h1, h⟩ := h
    cases h
    simp [hF.evV h1]) h
  simpa using this
theorem qsb (xs : List A2) : (xs.map A2.at).all At.pr = xs.all A2.pr := by
  rw [List.all_map]; congr 1; funext a; exact qup a
theorem qvE (els : List (List A2)) : (els.map fun e => e.map A2.at).all (fun e => e.all At.pr) = els.all fun e => e.all A2.pr := by
  rw [List.all_map]; congr 1; funext a; exact qsb a
end

section
variable {R : Type} {c : Cfg} {callF : FuncId → List Vl → List Blk → Option (List Vl × List Blk)} {CO : FuncId → List V2 → List Blk2 → (List V2 × List Blk2 → Option R) → Option R}
  {fr2 : List (Nat × Sv2)} {fr : List (Nat × Sv)} {mem : qJ} {nx : Nat}

theorem qAl (T : TypeId → Option TI) (op : BinOp) (ty : TypeId) (a b : A2) : Snd (R := R) (qr6 T op ty a b) fun y => qf6 T op ty a.at b.at = some y.at := by
  intro K r e
  have ptr : ∀ (x y : A2), (if quf x then
      match qay T ty with
      | some .ptr =>
        match op with
        | .eql => (qmO x y).bind fun b => K (.bool b)
        | .neq => (qmO x y).bind fun b => K (.bool (!b))
        | _ => none
      | _ => none
      else none) = some r → ∃ z, K z = some r ∧ qf6 T op ty x.at y.at = some z.at := by
    intro x y e
    split at e
    · rename_i hp
      cases x <;> simp only [quf] at hp <;> first | cases hp | skip
      all_goals
        cases htd : qay T ty with
        | none => simp only [htd] at e; cases e
        | some td =>
          cases td <;> simp only [htd] at e <;> first | cases e | skip
          cases op <;> simp only [] at e <;> first | cases e | skip
          all_goals
            cases y <;> simp only [qmO, Option.bind_none, Option.bind_some] at e <;> first | cases e | skip
            all_goals exact ⟨_, e, by simp [A2.at, qf6, htd]⟩
    · cases e
  cases a with
  | int k x =>
    cases b with
    | int k' y =>
      cases op <;> simp only [qr6] at e
      case shl =>
        split at e
        · cases e
        · rename_i h; exact ⟨_, e, by simp [A2.at, qf6, h]⟩
      case shr =>
        split at e
        · cases e
        · rename_i h; exact ⟨_, e, by simp [A2.at, qf6, h]⟩
      all_goals
        split at e
        · rename_i hk
          subst hk
          simp only [qyh] at e
          first
            | exact ⟨_, e, by simp [A2.at, qf6, qrJ]⟩
            | (split at e
               · cases e
               · rename_i h; exact ⟨_, e, by simp [A2.at, qf6, qrJ, h]⟩)
            | cases e
        · cases e
    | _ => exact ptr _ _ e
  | str x =>
    cases b with
    | str y =>
      cases op <;> simp only [qr6] at e
      case add =>
        split at e
        · cases e
        · rename_i h; exact ⟨_, e, by simp only [A2.at, qf6]; rw [if_neg h]⟩
      case eql => exact ⟨_, e, rfl⟩
      case neq => exact ⟨_, e, rfl⟩
      all_goals cases e
    | _ => exact ptr _ _ e
  | bool x =>
    cases b with
    | bool y =>
      simp only [qr6] at e
      split at e
      · rename_i h1; exact ⟨_, e, by simp [A2.at, qf6, h1]⟩
      · rename_i h1; exact ⟨_, e, by simp [A2.at, qf6, h1]⟩
      · cases e
    | _ => exact ptr _ _ e
  | _ => exact ptr _ _ e

theorem qEx (op : UnOp) (a : A2) : Snd (R := R) (un2 op a) fun y => unA op a.at = some y.at := by
  intro K r e
  cases a <;> cases op <;> simp only [un2] at e <;> first | exact ⟨_, e, rfl⟩ | cases e
theorem qzx (T : TypeId → Option TI) (src dst : TypeId) (a : A2) : Snd (R := R) (qug T src dst a) fun y => qjH T src dst a.at = some y.at := by
  intro K r e
  unfold qug at e
  split at e
  · split at e
    · rename_i h1 h2; exact ⟨_, e, by simp [A2.at, qjH, h1, h2]⟩
    · cases e
  · rename_i s
    split at e
    · rename_i h1 h2; exact ⟨_, e, by simp [A2.at, qjH, h1, h2]⟩
    · rename_i h1 h2
      split at e
      · rename_i h3
        refine ⟨_, e, ?_⟩
        simp only [A2.at, qjH, h1, h2, h3]
        have e1 : (s.data.toList.map fun b => (b.toNat : Int)).length = s.size := by rw [List.length_map, Array.length_toList]; rfl
        have e2 : (s.data.toList.map fun b => (b.toNat : Int)).map (Cd.at (.int .u8)) = s.data.toList.map fun b => [At.int .u8 b.toNat] := by rw [List.map_map]; rfl
        rw [e1, e2]
        rfl
      · cases e
    · cases e
  · cases e

theorem qvF (mem : qJ) (es : Nat) (a : A2) (K : Src → List Nat → Option R) (r : R) (e : quh mem es a K = some r) :
    ∃ s rd, K s rd = some r ∧ elsOf mem.at es a.at = some (s.len, s.rows, true, rd) := by
  cases a <;> simp only [quh] at e
  case sl c l =>
    split at e
    · rename_i h; exact ⟨_, _, e, by simp [A2.at, elsOf, h, Src.len, Src.rows]⟩
    · cases e
  case snil es' ty => exact ⟨_, _, e, rfl⟩
  case sm m lo n =>
    simp only [Option.bind_eq_some_iff] at e
    obtain ⟨b, e1, e⟩ := e
    split at e
    · rename_i c l hb
      split at e
      · rename_i h1
        split at e
        · rename_i h2
          split at e
          · rename_i h3
            refine ⟨_, _, e, ?_⟩
            have hrows : b.at.els = l.map c.at := by simp [Blk2.at, hb, Bd.rows]
            simp only [A2.at, elsOf, qbL, e1, Option.map_some, Option.bind_some, hrows, Src.len, Src.rows, List.length_map]
            rw [if_pos ⟨h1, h3⟩]
            simp only [List.length_take, List.length_drop, List.map_take, List.map_drop, Option.some.injEq, Prod.mk.injEq, and_true, true_and]
            refine ⟨by omega, ?_⟩
            exact h2
          · cases e
        · cases e
      · cases e
    · cases e
  all_goals cases e
end
end Go.Proofs.YtbhnafdmilfobaaGreat.Am

/- What the typed machine says the abstract machine says: append, calls, every operation. -/
set_option linter.unusedVariables false
set_option linter.unusedSimpArgs false
namespace Go.Proofs.YtbhnafdmilfobaaGreat.Am
open Go

def COk {R : Type} (CO : FuncId → List V2 → List Blk2 → (List V2 × List Blk2 → Option R) → Option R) (callF : FuncId → List Vl → List Blk → Option (List Vl × List Blk)) : Prop :=
  ∀ f a b, Snd (CO f a b) fun r => callF f (a.map V2.at) (b.map Blk2.at) = some (r.1.map V2.at, r.2.map Blk2.at)

section
variable {R : Type} {c : Cfg} {callF : FuncId → List Vl → List Blk → Option (List Vl × List Blk)} {CO : FuncId → List V2 → List Blk2 → (List V2 × List Blk2 → Option R) → Option R}
  {fr2 : List (Nat × Sv2)} {fr : List (Nat × Sv)} {mem : qJ} {nx : Nat}

theorem qzy (t : TypeId) (s x : A2) (mem : qJ) (nx : Nat) : Snd (R := R) (qwU c t s x mem nx) fun e => qdH c t s.at x.at mem.at nx = some e.at := by
  intro K r e
  unfold qwU at e
  unfold qdH
  split at e
  · rename_i el htd
    simp only [Option.bind_eq_some_iff] at e
    obtain ⟨te, hte, e⟩ := e
    split at e
    · rename_i hst
      obtain ⟨src, rd, e', hsrc⟩ := qvF _ _ _ _ _ e
      clear e
      have e := e'
      clear e'
      have hlen : src.rows.length = src.len := by cases src <;> simp [Src.rows, Src.len]
      simp only [htd, hte, Option.bind_some, hsrc]
      cases s <;> simp only [] at e
      case snil es' ty' =>
        split at e
        · simp only [Option.bind_eq_some_iff] at e
          obtain ⟨d, hd, e⟩ := e
          refine ⟨_, e, ?_⟩
          simp only [A2.at, Option.bind_some, Src.len, Src.rows]
          refine (if_pos ⟨by simp, hst⟩).trans ?_
          simp [Eff2.at, qJ.at, oAt, Blk2.at, Bd.rows, Sv2.at, V2.at, A2.at]
        · rename_i d l
          split at e
          · rename_i hb
            refine ⟨_, e, ?_⟩
            simp only [A2.at, Option.bind_some, Src.len, Src.rows]
            refine (if_pos ⟨by simpa using hb, hst⟩).trans ?_
            simp [Eff2.at, qJ.at, oAt, Blk2.at, Bd.rows, Sv2.at, V2.at, A2.at]
          · cases e
      case sm m lo n =>
        simp only [Option.bind_eq_some_iff] at e
        obtain ⟨b, hb, e⟩ := e
        split at e
        · rename_i d l hbd
          split at e
          · rename_i hc
            split at e
            · rename_i hlo
              subst hlo
              split at e
              · rename_i hn
                have hrows : b.at.els = l.map d.at := by simp [Blk2.at, hbd, Bd.rows]
                simp only [A2.at, qbL, hb, Option.map_some, Option.bind_some, hrows, List.length_map]
                rw [if_pos (show (True ∧ b.at.es = te.size ∧ b.at.ty = el ∧ n ≤ l.length ∧ (!b.at.fz) = true) from ⟨trivial, hc.1, hc.2.1, hn, by have := hc.2.2.1; simp [Blk2.at, this]⟩) ]
                have hpr : b.at.pr = true := hc.2.2.2
                simp only [Option.bind_some, hpr]
                split at e
                · split at e
                  · rename_i hbd2
                    refine ⟨_, e, ?_⟩
                    simp only [Src.len, Src.rows]
                    refine (if_pos ⟨by simpa using hbd2, hst⟩).trans ?_
                    simp [Eff2.at, qJ.at, oAt, Blk2.at, Bd.rows, Sv2.at, V2.at, A2.at, List.map_take]
                  · cases e
                · rename_i d' l'
                  simp only [Option.bind_eq_some_iff] at e
                  obtain ⟨l2, hl2, e⟩ := e
                  obtain ⟨hdd, rfl⟩ := qlM hl2
                  subst hdd
                  split at e
                  · rename_i hbd2
                    refine ⟨_, e, ?_⟩
                    simp only [Src.len, Src.rows]
                    refine (if_pos ⟨by simpa using hbd2, hst⟩).trans ?_
                    simp [Eff2.at, qJ.at, oAt, Blk2.at, Bd.rows, Sv2.at, V2.at, A2.at, List.map_take]
                  · cases e
              · cases e
            · cases e
          · cases e
        · cases e
      all_goals cases e
    · cases e
  · cases e

theorem qzz (f : FuncId) (mem : qJ) (args : List V2) : Snd (R := R) (fun K => if c.mutA f then K args else qf7 (qmQ c mem) args K) fun vals => (if c.mutA f then some (args.map V2.at) else qu (qeg mem.at) (args.map V2.at)) = some (vals.map V2.at) := by
  intro K r e
  simp only [] at e
  split at e
  · rename_i h; exact ⟨_, e, by rw [if_pos h]⟩
  · rename_i h
    obtain ⟨x, e1, h1⟩ := qfE (fun v => qty mem v) args _ _ e
    exact ⟨x, e1, by rw [if_neg h]; exact h1⟩
theorem qvG (f : FuncId) (mem : qJ) (l acc : List Nat) : clo (fun m => if c.mutA f then qdG mem.at m else qfs mem.at m) 64 l acc = clo (if c.mutA f then qch A2.nm mem else qch A2.ptrs mem) 64 l acc := by
  congr 1
  funext m
  split
  · rw [qpK]
  · rw [qwX]
theorem qw0 (rs : List V2) : (rs.map V2.at).all (fun v => v.cells.all At.noSl) = rs.all fun v => v.cells.all A2.noSl := by
  rw [List.all_map]; congr 1; funext v
  simp only [Function.comp_def, qek, List.all_map]
  congr 1; funext a; exact qzu a
theorem qsc {α β : Type} (f : α → β) (l : List α) : (l.map f).isEmpty = l.isEmpty := by cases l <;> rfl

theorem qzA (hC : COk CO callF) (f : FuncId) (args : List V2) (mem : qJ) (nx : Nat) : Snd (quj c CO f args mem nx) fun e => qfl c callF f (args.map V2.at) mem.at nx = some e.at := by
  intro K r e
  unfold quj at e
  obtain ⟨vals, e, h1⟩ := qzz f mem args _ _ e
  obtain ⟨blks, e, h2⟩ := qfE (q := Blk2.at) (p := id) (g := fun m => (qn (qJ.at _) m).bind fun b => (if c.mutA f then some b else qfr mem.at b).bind (qeh (idx _))) (fun m => qvC _ _ _ _ m) _ _ _ e
  simp only [Option.bind_eq_some_iff] at e
  obtain ⟨vals', h3, e⟩ := e
  obtain ⟨r1, e, h4⟩ := hC _ _ _ _ _ e
  simp only [Option.bind_eq_some_iff] at e
  obtain ⟨rs, h5, bs, h6, e⟩ := e
  refine ⟨_, e, ?_⟩
  unfold qfl
  rw [h1]
  simp only [Option.bind_some, qiz, qtw, qtx, qvG]
  rw [List.map_id, qgn, quq] at h2
  rw [h2]
  simp only [Option.bind_some]
  have h3' := qdS (fun _ _ => qjO) h3
  rw [h3']
  simp only [Option.bind_some, h4]
  have hcn : ∀ N : List Nat, cnt nx ((r1.2.map Blk2.at).drop N.length) = cnt nx (r1.2.drop N.length) := fun N => qtz _ _ _ (by simp)
  simp only [hcn]
  have h5' := qdS (fun _ _ => qjO) h5
  have h6' := qdS (fun _ _ => qjP) h6
  rw [h5', Option.bind_some, h6', Option.bind_some]
  have hif : ∀ (p : Prop) [Decidable p] (a : qJ), qJ.at (if p then [] else a) = if p then [] else a.at := by intro p _ a; split <;> rfl
  simp only [Eff2.at, qAh, List.length_map, qsc, qw0, qgo, qvD, hif, quq]

theorem qQ : qJ.at [] = [] := rfl
theorem FrR.gSome {fr2 : List (Nat × Sv2)} {fr : List (Nat × Sv)} (hF : FrR fr2 fr) {o : Operand} {cs : List A2} (h : quk fr2 o = some cs) : gOf fr o = some (cs.map A2.at) := by
  unfold quk at h
  split at h
  · rename_i hh; cases h; unfold gOf; rw [hF.ev hh]; rfl
  · cases h
theorem FrR.gNone {fr2 : List (Nat × Sv2)} {fr : List (Nat × Sv)} (hF : FrR fr2 fr) {o : Operand} {x : A2} (h : qcO fr2 o = some x) : gOf fr o = none := by
  have := hF.evA h
  simp only [Am.evA, Option.bind_eq_some_iff] at this
  obtain ⟨v, h1, h2⟩ := this
  unfold gOf
  rw [h1]
  unfold Am.svA at h2
  split at h2
  · rfl
  · cases h2
theorem qvH {R : Type} : ∀ (cs ds : List A2) (K : Bool → Option R) (r : R), qhW cs ds = true → eqK cs ds K = some r → ∃ b, eqA (cs.map A2.at) (ds.map A2.at) = some b ∧ K b = some r
  | [], ds, K, r, h, e => by
    cases ds with
    | nil => exact ⟨true, rfl, e⟩
    | cons d ds => simp [qhW] at h
  | c :: cs, [], K, r, h, e => by cases c <;> simp [qhW] at h
  | c :: cs, d :: ds, K, r, h, e => by
    unfold qhW at h
    split at h
    · rename_i h1 h2; cases h1
    · rename_i k x r1 k2 y r2 h1 h2
      cases h1; cases h2
      split at h
      · rename_i hk
        have hk := of_decide_eq_true hk
        subst hk
        have tot : ∃ b, eqA (cs.map A2.at) (ds.map A2.at) = some b := by
          clear e
          revert h
          generalize cs = l
          generalize ds = m
          intro h
          induction l generalizing m with
          | nil =>
            cases m with
            | nil => exact ⟨true, rfl⟩
            | cons b m => simp [qhW] at h
          | cons a l ih =>
            cases m with
            | nil => cases a <;> simp [qhW] at h
            | cons b m =>
              unfold qhW at h
              split at h
              · rename_i h1 h2; cases h1
              · rename_i k' x' r1 k2' y' r2 h1 h2
                cases h1; cases h2
                split at h
                · rename_i hk'
                  have hk' := of_decide_eq_true hk'
                  subst hk'
                  obtain ⟨b, hb⟩ := ih _ h
                  exact ⟨(x' == y' && b), by simp [A2.at, eqA, hb]⟩
                · cases h
              · cases h
        unfold eqK at e
        by_cases hxy : x = y
        · subst hxy
          rw [if_pos (by simp)] at e
          obtain ⟨b, b1, b2⟩ := qvH cs ds K r h e
          exact ⟨b, by simp [A2.at, eqA, b1], b2⟩
        · rw [if_neg (by simpa using hxy)] at e
          obtain ⟨b, hb⟩ := tot
          refine ⟨false, ?_, e⟩
          have : (x == y) = false := by simpa using hxy
          simp [A2.at, eqA, hb, this]
      · cases h
    · cases h
theorem qAm {R : Type} (op : BinOp) (ti : TI) (cs : List A2) (v : V2) (nx : Nat) (K : Eff2 → Option R) {r : R} (e : qwV op ti cs v nx K = some r) : ∃ z : Eff2, K z = some r ∧ eqG op ti (cs.map A2.at) v.at nx = some z.at := by
  unfold qwV at e
  split at e
  · rename_i fs ts ds hd
    split at e
    · rename_i hc
      split at e
      · rename_i ho
        obtain ⟨b, b1, b2⟩ := qvH _ _ _ _ ho e
        unfold eqG
        simp only [hd, V2.at]
        rw [if_pos ⟨hc.1, by simpa using hc.2⟩, b1, Option.bind_some]
        split at b2
        · exact ⟨_, b2, by simp [val, Eff2.at, qQ, Sv2.at, V2.at, A2.at]⟩
        · exact ⟨_, b2, by simp [val, Eff2.at, qQ, Sv2.at, V2.at, A2.at]⟩
        · cases b2
      · cases e
    · cases e
  · cases e
theorem qvI {R : Type} : ∀ (i : Int) (cs : List A2) (K : A2 → Option R) {r : R}, qul i cs K = some r → ∃ x, 0 ≤ i ∧ i < cs.length ∧ (cs.map A2.at)[i.toNat]? = some x.at ∧ K x = some r
  | i, [], K, r, e => by cases e
  | i, c :: cs, K, r, e => by
    unfold qul at e
    split at e
    · rename_i h
      subst h
      exact ⟨c, by omega, by simp only [List.length_cons]; omega, by simp, e⟩
    · rename_i h
      obtain ⟨x, h1, h2, h3, h4⟩ := qvI (i - 1) cs K e
      refine ⟨x, by omega, by simp only [List.length_cons]; omega, ?_, h4⟩
      have : i.toNat = (i - 1).toNat + 1 := by omega
      rw [this]
      simpa using h3
theorem qAn (hC : COk CO callF) (hF : FrR fr2 fr) (o : Oper) : Snd (qwW c CO o fr2 mem nx) fun e => stp c callF o fr mem.at nx = some e.at := by
  intro K r e
  obtain ⟨dst, op, type, pos, after, guard⟩ := o
  have mv : ∀ x : Operand, ((ev2 fr2 x).bind fun v =>
      match v with
      | .v (.a (.snil ..)) => match qay c.T type with
        | some (.sl e) => (c.T e).bind fun te => qdp (.a (.snil te.size e)) nx K
        | _ => none
      | .u => none
      | v => K { v := v, upd := [], nn := nx, rd := [] }) = some r → ∃ z : Eff2, K z = some r ∧ ((ev fr x).bind fun v =>
    match v with
    | .v (.a (.snil ..)) => match qay c.T type with
      | some (.sl e) => (c.T e).bind fun te => val (.a (.snil te.size e)) nx
      | _ => none
    | .u => none
    | v => some { v := v, upd := [], nn := nx, rd := [] }) = some z.at := by
    intro x e
    simp only [Option.bind_eq_some_iff] at e
    obtain ⟨v, h1, e⟩ := e
    rw [hF.ev h1, Option.bind_some]
    split at e
    · split at e
      · rename_i htd
        simp only [Option.bind_eq_some_iff] at e
        obtain ⟨te, h2, e⟩ := e
        exact ⟨_, e, by simp [Sv2.at, V2.at, A2.at, htd, h2, val, Eff2.at, qQ]⟩
      · cases e
    · cases e
    · rename_i h2 h3
      refine ⟨_, e, ?_⟩
      cases v with
      | u => exact absurd rfl h3
      | t vs => rfl
      | v y =>
        cases y with
        | g cs => rfl
        | a z =>
          cases z with
          | snil es ty => exact absurd rfl (h2 es ty)
          | _ => rfl
  cases op <;> simp only [qwW] at e <;> simp only [stp]
  case move x => exact mv x e
  case assign x => exact mv x e
  case pick k a b =>
    simp only [Option.bind_eq_some_iff] at e
    obtain ⟨t, h1, e⟩ := e
    rw [hF.evB h1, Option.bind_some]
    split at e
    · rename_i ht
      subst ht
      simp only [Option.bind_eq_some_iff] at e
      obtain ⟨x, h2, e⟩ := e
      exact ⟨_, e, by simp [hF.evA h2, val, Eff2.at, Sv2.at, V2.at, qQ]⟩
    · rename_i ht
      simp only [Option.bind_eq_some_iff] at e
      obtain ⟨x, h2, e⟩ := e
      exact ⟨_, e, by simp [ht, hF.evA h2, val, Eff2.at, Sv2.at, V2.at, qQ]⟩
  case alloc t =>
    simp only [Option.bind_eq_some_iff] at e
    obtain ⟨ti, h1, z, h2, e⟩ := e
    obtain ⟨q1, q2⟩ := qhd h2
    split at e
    · rename_i hl
      refine ⟨_, e, ?_⟩
      rw [h1, Option.bind_some, if_neg (by omega)]
      simp [Eff2.at, qQ, qfD, oAt, Blk2.at, Bd.rows, Sv2.at, V2.at, A2.at, q1]
    · cases e
  case box t x =>
    simp only [Option.bind_eq_some_iff] at e
    obtain ⟨ti, h1, v, h2, e⟩ := e
    split at e
    · rename_i hl
      refine ⟨_, e, ?_⟩
      rw [h1, Option.bind_some, hF.evV h2, Option.bind_some, qek, if_pos (by simpa using hl)]
      rw [qsb]
      simp [Eff2.at, qQ, qfD, oAt, Blk2.at, Bd.rows, Sv2.at, V2.at, A2.at]
    · cases e
  case build t parts =>
    simp only [Option.bind_eq_some_iff] at e
    obtain ⟨ti, h1, e⟩ := e
    rw [h1, Option.bind_some]
    split at e
    · rename_i fs ts hd
      simp only [Option.bind_eq_some_iff] at e
      obtain ⟨z, h2, e⟩ := e
      obtain ⟨q1, q2⟩ := qhd h2
      split at e
      · rename_i hl
        simp only [Option.bind_eq_some_iff] at e
        obtain ⟨ps, h3, cs, h4, e⟩ := e
        refine ⟨_, e, ?_⟩
        have h4' := qsa h4
        rw [q1] at h4'
        simp only [hd]
        rw [if_neg (by omega), qlN hF h3, Option.bind_some, h4', Option.bind_some]
        simp [val, Eff2.at, Sv2.at, V2.at, qQ]
      · cases e
    · rename_i na el hd
      simp only [Option.bind_eq_some_iff] at e
      obtain ⟨te, h5, z, h2, e⟩ := e
      obtain ⟨q1, q2⟩ := qhd h2
      split at e
      · rename_i hl
        simp only [Option.bind_eq_some_iff] at e
        obtain ⟨ps, h3, cs, h4, e⟩ := e
        refine ⟨_, e, ?_⟩
        have h4' := qsa h4
        rw [q1] at h4'
        simp only [hd]
        rw [h5, Option.bind_some, if_neg (by omega), qlN hF h3, Option.bind_some, h4', Option.bind_some]
        simp [val, Eff2.at, Sv2.at, V2.at, qQ]
      · cases e
    · cases e
  case buildSlice t len parts =>
    split at e
    · rename_i el htd
      simp only [Option.bind_eq_some_iff] at e
      obtain ⟨te, h1, z, h2, ps, h3, els, h4, e⟩ := e
      obtain ⟨q1, q2⟩ := qhd h2
      split at e
      · rename_i hl
        refine ⟨_, e, ?_⟩
        have h4' := qwZ h4
        rw [List.map_replicate, q1] at h4'
        simp only [htd]
        rw [h1, Option.bind_some, qlN hF h3, Option.bind_some, h4', Option.bind_some, if_pos ⟨hl.1, hl.2.1, hl.2.2.1, by omega⟩]
        simp [Eff2.at, qQ, qfD, oAt, Blk2.at, qun, Sv2.at, V2.at, A2.at]
        have := qvE els
        rw [List.all_map] at this
        simpa [Function.comp_def] using this
      · cases e
    · cases e
  case load t x =>
    simp only [Option.bind_eq_some_iff] at e
    obtain ⟨ti, h1, a, h2, e⟩ := e
    rw [h1, Option.bind_some, hF.evA h2, Option.bind_some]
    split at e
    · rename_i m i o
      simp only [Option.bind_eq_some_iff] at e
      obtain ⟨b, h3, e⟩ := e
      split at e
      · rename_i els hb
        simp only [Option.bind_eq_some_iff] at e
        obtain ⟨el, h4, v, h5, e⟩ := e
        refine ⟨_, e, ?_⟩
        simp [A2.at, qbL, h3, Blk2.at, hb, Bd.rows, h4, qhe h5, Eff2.at, qQ, Sv2.at]
      · rename_i d l hb
        simp only [Option.bind_eq_some_iff] at e
        obtain ⟨el, h4, v, h5, e⟩ := e
        refine ⟨_, e, ?_⟩
        have h5' := qhe h5
        rw [qfS] at h5'
        simp [A2.at, qbL, h3, Blk2.at, hb, Bd.rows, h4, h5', Eff2.at, qQ, Sv2.at]
    · rename_i d el o
      simp only [Option.bind_eq_some_iff] at e
      obtain ⟨v, h5, e⟩ := e
      refine ⟨_, e, ?_⟩
      have h5' := qhe h5
      rw [qfS] at h5'
      simp [A2.at, h5', val, Eff2.at, qQ, Sv2.at]
    · cases e
  case store t x y =>
    simp only [Option.bind_eq_some_iff] at e
    obtain ⟨ti, h1, v, h2, a, h3, e⟩ := e
    rw [h1, Option.bind_some, hF.evV h2, Option.bind_some, hF.evA h3, Option.bind_some]
    split at e
    · rename_i m i o
      simp only [Option.bind_eq_some_iff] at e
      obtain ⟨b, h4, e⟩ := e
      split at e
      · rename_i els hb
        simp only [Option.bind_eq_some_iff] at e
        obtain ⟨el, h5, e⟩ := e
        split at e
        · rename_i hl
          refine ⟨_, e, ?_⟩
          simp only [A2.at, qbL, h4, Option.map_some, Option.bind_some, Blk2.at, hb, Bd.rows, List.getElem?_map, h5, qek, List.length_map]
          rw [if_pos ⟨hl.1, hl.2.1, by simp [hl.2.2]⟩]
          simp [Eff2.at, qQ, qfD, oAt, Blk2.at, Bd.rows, Sv2.at, List.map_set, qr9, Function.comp_def, qup]
        · cases e
      · rename_i d l hb
        simp only [Option.bind_eq_some_iff] at e
        obtain ⟨el, h5, e⟩ := e
        split at e
        · rename_i hl
          simp only [Option.bind_eq_some_iff] at e
          obtain ⟨el', h6, e⟩ := e
          refine ⟨_, e, ?_⟩
          have h6' := qr8 h6
          rw [qr9, qfS] at h6'
          have hlen : o + ti.size ≤ (d.at el).length := by have := hl.2.1; rwa [← List.length_map (f := A2.at), qfS] at this
          simp only [A2.at, qbL, h4, Option.map_some, Option.bind_some, Blk2.at, hb, Bd.rows, List.getElem?_map, h5, qek, List.length_map]
          rw [if_pos ⟨hl.1, hlen, by simp [hl.2.2.1]⟩]
          simp [Eff2.at, qQ, qfD, oAt, Blk2.at, Bd.rows, Sv2.at, List.map_set, h6', Function.comp_def, qup]
        · cases e
    · cases e
  case nilCheck x =>
    simp only [Option.bind_eq_some_iff] at e
    obtain ⟨a, h1, e⟩ := e
    rw [hF.evA h1, Option.bind_some]
    split at e
    · exact ⟨_, e, by simp [A2.at, val, Eff2.at, qQ, Sv2.at, V2.at]⟩
    · exact ⟨_, e, by simp [A2.at, val, Eff2.at, qQ, Sv2.at, V2.at]⟩
    · cases e
  case binOp op ty x y u =>
    split at e
    · rename_i cs hg
      simp only [Option.bind_eq_some_iff] at e
      obtain ⟨ti, h1, v, h2, e⟩ := e
      rw [hF.gSome hg]
      simp only [h1, Option.bind_some, hF.evV h2]
      exact qAm op ti cs v nx K e
    simp only [Option.bind_eq_some_iff] at e
    obtain ⟨a, h1, b, h2, e⟩ := e
    obtain ⟨z, e, h3⟩ := qAl c.T op ty a b _ _ e
    rw [hF.gNone h1]
    exact ⟨_, e, by simp [hF.evA h1, hF.evA h2, h3, valA, val, Eff2.at, qQ, Sv2.at, V2.at]⟩
  case unOp op ty x =>
    simp only [Option.bind_eq_some_iff] at e
    obtain ⟨a, h1, e⟩ := e
    obtain ⟨z, e, h3⟩ := qEx op a _ _ e
    exact ⟨_, e, by simp [hF.evA h1, h3, valA, val, Eff2.at, qQ, Sv2.at, V2.at]⟩
  case convert src ds x =>
    simp only [Option.bind_eq_some_iff] at e
    obtain ⟨a, h1, e⟩ := e
    rw [hF.evA h1, Option.bind_some]
    split at e
    · rename_i el ht1 ht2
      simp only [ht1, ht2]
      split at e
      · rename_i ht3
        obtain ⟨s, rd, e, h2⟩ := qvF _ _ _ _ _ e
        simp only [ht3, h2, Option.bind_some]
        split at e
        · refine ⟨_, e, ?_⟩
          simp [Src.rows, qfm, Eff2.at, qQ, Sv2.at, V2.at, A2.at]
        · rename_i l
          refine ⟨_, e, ?_⟩
          have key : ∀ l : List Int, qfm (l.map (Cd.at (.int .u8))) = some (l.map fun n : Int => n.toNat.toUInt8) := by
            intro l
            induction l with
            | nil => rfl
            | cons x l ih =>
              simp only [List.map_cons]
              show (qfm (l.map (Cd.at (.int .u8)))).bind _ = _
              rw [ih]
              rfl
          have key' := key l
          simp only [Src.rows, key', Option.bind_some, Eff2.at, qQ, Sv2.at, V2.at, A2.at, List.map_nil]
        · cases e
      · cases e
    · rename_i hno
      obtain ⟨z, e, h3⟩ := qzx c.T src ds a _ _ e
      refine ⟨_, e, ?_⟩
      split
      · rename_i el ht1 ht2; exact absurd ht2 (hno el ht1)
      · simp [h3, valA, val, Eff2.at, qQ, Sv2.at, V2.at]
  case makeSlice t l k =>
    split at e
    · rename_i el htd
      simp only [Option.bind_eq_some_iff] at e
      obtain ⟨te, h1, z, h2, d, h3, z0, h4, l, h5, k, h6, e⟩ := e
      obtain ⟨q1, q2⟩ := qhd h2
      split at e
      · rename_i hs
        split at e
        · rename_i hb
          refine ⟨_, e, ?_⟩
          have h4' := qr8 h4
          rw [q1] at h4'
          simp only [htd]
          rw [h1, Option.bind_some, hF.evI h5, Option.bind_some, hF.evI h6, Option.bind_some, if_pos ⟨hb.1, hb.2.1, hb.2.2, hs.1, hs.2.1, by omega⟩]
          simp [Eff2.at, qQ, qfD, oAt, Blk2.at, Bd.rows, Sv2.at, V2.at, A2.at, h4']
        · cases e
      · cases e
    · cases e
  case slice t x lo hi mx =>
    split at e
    · cases e
    · rename_i hmx
      rw [if_neg hmx]
      simp only [Option.bind_eq_some_iff] at e
      obtain ⟨td, h1, a, h2, e⟩ := e
      rw [h1, Option.bind_some, hF.evA h2, Option.bind_some]
      split at e
      · rename_i s
        simp only [Option.bind_eq_some_iff] at e
        obtain ⟨l, h3, h, h4, e⟩ := e
        split at e
        · rename_i hb
          refine ⟨_, e, ?_⟩
          simp only [A2.at, hF.bound h3, hF.bound h4, Option.bind_some]
          rw [if_pos hb]
          simp [val, Eff2.at, qQ, Sv2.at, V2.at, A2.at]
        · cases e
      · rename_i el d els
        simp only [Option.bind_eq_some_iff] at e
        obtain ⟨te, h3, l, h4, h, h5, e⟩ := e
        split at e
        · rename_i hz
          split at e
          · rename_i hb
            refine ⟨_, e, ?_⟩
            simp only [A2.at, h3, hF.bound h4, hF.bound h5, Option.bind_some]
            rw [if_pos ⟨hb.1, hb.2.1, hb.2.2, hz⟩]
            simp only [val, Eff2.at, qQ, Sv2.at, V2.at, A2.at, List.map_nil, List.map_take, List.map_drop, List.length_take, List.length_drop]
            rw [show min (h.toNat - l.toNat) (els.length - l.toNat) = h.toNat - l.toNat by omega]
          · cases e
        · cases e
      · rename_i el m b n
        simp only [Option.bind_eq_some_iff] at e
        obtain ⟨te, h3, B, h4, e⟩ := e
        split at e
        · rename_i d els hbd
          simp only [Option.bind_eq_some_iff] at e
          obtain ⟨l, h5, h, h6, e⟩ := e
          split at e
          · rename_i hz
            split at e
            · rename_i hb
              refine ⟨_, e, ?_⟩
              simp only [A2.at, h3, qbL, h4, Option.map_some, hF.bound h5, hF.bound h6, Option.bind_some]
              rw [if_pos ⟨hb.1, hb.2.1, by simpa [Blk2.at, hbd, Bd.rows] using hb.2.2.1, hb.2.2.2, hz.1, hz.2⟩]
              simp [Eff2.at, qQ, Sv2.at, V2.at, A2.at]
            · cases e
          · cases e
        · rename_i els hbd
          simp only [Option.bind_eq_some_iff] at e
          obtain ⟨l, h5, h, h6, e⟩ := e
          split at e
          · rename_i hz
            split at e
            · rename_i hb
              refine ⟨_, e, ?_⟩
              simp only [A2.at, h3, qbL, h4, Option.map_some, hF.bound h5, hF.bound h6, Option.bind_some]
              rw [if_pos ⟨hb.1, hb.2.1, by simpa [Blk2.at, hbd, Bd.rows] using hb.2.2.1, hb.2.2.2, hz.1, hz.2⟩]
              simp [Eff2.at, qQ, Sv2.at, V2.at, A2.at]
            · cases e
          · cases e
      · cases e
  case fieldAddr s x f =>
    split at e
    · rename_i fs ts htd
      simp only [htd]
      simp only [Option.bind_eq_some_iff] at e
      obtain ⟨p, h1, e⟩ := e
      rw [h1, Option.bind_some]
      split at e
      · cases e
      · rename_i h0
        rw [if_neg h0]
        simp only [Option.bind_eq_some_iff] at e
        obtain ⟨a, h2, e⟩ := e
        rw [hF.evA h2, Option.bind_some]
        split at e
        · exact ⟨_, e, by simp [A2.at, val, Eff2.at, qQ, Sv2.at, V2.at]⟩
        · exact ⟨_, e, by simp [A2.at, val, Eff2.at, qQ, Sv2.at, V2.at]⟩
        · cases e
    · cases e
  case field s x f =>
    split at e
    · rename_i fs ts htd
      simp only [htd]
      simp only [Option.bind_eq_some_iff] at e
      obtain ⟨p, h1, ft, h2, v, h3, e⟩ := e
      rw [h1, Option.bind_some, h2, Option.bind_some, hF.evV h3, Option.bind_some]
      split at e
      · simp only [Option.bind_eq_some_iff] at e
        obtain ⟨ti, h4, v', h5, e⟩ := e
        refine ⟨_, e, ?_⟩
        simp [V2.at, h4, qhe h5, val, Eff2.at, qQ, Sv2.at]
      · cases e
    · cases e
  case indexAddr t x i =>
    split at e
    · rename_i el htd
      simp only [Option.bind_eq_some_iff] at e
      obtain ⟨te, h1, i, h2, a, h3, e⟩ := e
      simp only [htd]
      rw [h1, Option.bind_some, hF.evI h2, Option.bind_some, hF.evA h3, Option.bind_some]
      split at e
      · rename_i d els
        split at e
        · rename_i hz
          split at e
          · rename_i h0
            simp only [Option.bind_eq_some_iff] at e
            obtain ⟨y, h4, e⟩ := e
            refine ⟨_, e, ?_⟩
            have hlt : i.toNat < els.length := (List.getElem?_eq_some_iff.1 h4).1
            simp only [A2.at]
            rw [if_pos ⟨h0, by omega, hz⟩]
            simp [h4, val, Eff2.at, qQ, Sv2.at, V2.at, A2.at]
          · cases e
        · cases e
      · rename_i m b n
        simp only [Option.bind_eq_some_iff] at e
        obtain ⟨B, h4, e⟩ := e
        split at e
        · rename_i hz
          split at e
          · rename_i hb
            refine ⟨_, e, ?_⟩
            simp only [A2.at, qbL, h4, Option.map_some, Option.bind_some]
            rw [if_pos ⟨hb.1, hb.2, hz⟩]
            simp [Eff2.at, qQ, Sv2.at, V2.at, A2.at]
          · cases e
        · cases e
      · cases e
    · cases e
  case index t x i =>
    split at e
    · rename_i cs hg
      simp only [Option.bind_eq_some_iff] at e
      obtain ⟨ti, h1, i, h2, e⟩ := e
      rw [hF.gSome hg]
      simp only [h1, Option.bind_some, hF.evI h2]
      split at e
      · rename_i n el hd
        simp only [Option.bind_eq_some_iff] at e
        obtain ⟨te, h3, e⟩ := e
        split at e
        · rename_i hc
          obtain ⟨x, q1, q2, q3, e⟩ := qvI _ _ _ e
          refine ⟨_, e, ?_⟩
          simp only [hd, h3, Option.bind_some]
          rw [if_pos ⟨hc.1, hc.2.1, q1, by omega⟩]
          simp [q3, val, Eff2.at, qQ, Sv2.at, V2.at]
        · cases e
      · cases e
    simp only [Option.bind_eq_some_iff] at e
    obtain ⟨td, h1, a, h2, i, h3, e⟩ := e
    rw [hF.gNone h2]
    simp only
    rw [h1, Option.bind_some, hF.evA h2, Option.bind_some, hF.evI h3, Option.bind_some]
    split at e
    · rename_i s
      split at e
      · rename_i h0
        simp only [Option.bind_eq_some_iff] at e
        obtain ⟨b, h4, e⟩ := e
        refine ⟨_, e, ?_⟩
        simp only [A2.at]
        rw [if_pos h0, h4]
        simp [val, Eff2.at, qQ, Sv2.at, V2.at, A2.at]
      · cases e
    · cases e
  case extract x i =>
    simp only [Option.bind_eq_some_iff] at e
    obtain ⟨v, h1, e⟩ := e
    rw [hF.ev h1, Option.bind_some]
    split at e
    · simp only [Option.bind_eq_some_iff] at e
      obtain ⟨y, h2, e⟩ := e
      refine ⟨_, e, ?_⟩
      simp [Sv2.at, h2, val, Eff2.at, qQ]
    · cases e
  case call k =>
    obtain ⟨callee, args, argTypes⟩ := k
    cases callee with
    | builtin bi =>
      cases bi <;> try simp only [] at e ⊢
      case len =>
        obtain ⟨td, h1, e⟩ := Option.bind_eq_some_iff.1 e
        obtain ⟨a, h2, e⟩ := Option.bind_eq_some_iff.1 e
        obtain ⟨o, h3, h4⟩ := Option.bind_eq_some_iff.1 h2
        try simp only [] at h1 h3
        rw [h1, Option.bind_some, h3, Option.bind_some, hF.evA h4, Option.bind_some]
        split at e
        all_goals first | exact ⟨_, e, by simp [A2.at, val, Eff2.at, qQ, Sv2.at, V2.at]⟩ | cases e
      case min =>
        obtain ⟨x, h1, e⟩ := Option.bind_eq_some_iff.1 e
        obtain ⟨y, h2, e⟩ := Option.bind_eq_some_iff.1 e
        obtain ⟨o3, h3, h3'⟩ := Option.bind_eq_some_iff.1 h1
        obtain ⟨o4, h4, h4'⟩ := Option.bind_eq_some_iff.1 h2
        try simp only [] at h3 h4
        rw [h3, Option.bind_some, hF.evA h3', Option.bind_some, h4, Option.bind_some, hF.evA h4', Option.bind_some]
        split at e
        · rename_i hq
          rw [if_pos hq]
          cases x <;> cases y <;> first | (cases e; done) | exact ⟨_, e, by simp [qwz, A2.at, val, Eff2.at, qQ, Sv2.at, V2.at]⟩
        · cases e
      case max =>
        obtain ⟨x, h1, e⟩ := Option.bind_eq_some_iff.1 e
        obtain ⟨y, h2, e⟩ := Option.bind_eq_some_iff.1 e
        obtain ⟨o3, h3, h3'⟩ := Option.bind_eq_some_iff.1 h1
        obtain ⟨o4, h4, h4'⟩ := Option.bind_eq_some_iff.1 h2
        try simp only [] at h3 h4
        rw [h3, Option.bind_some, hF.evA h3', Option.bind_some, h4, Option.bind_some, hF.evA h4', Option.bind_some]
        split at e
        · rename_i hq
          rw [if_pos hq]
          cases x <;> cases y <;> first | (cases e; done) | exact ⟨_, e, by simp [qwy, A2.at, val, Eff2.at, qQ, Sv2.at, V2.at]⟩
        · cases e
      case append =>
        obtain ⟨t, h1, e⟩ := Option.bind_eq_some_iff.1 e
        obtain ⟨t', h2, e⟩ := Option.bind_eq_some_iff.1 e
        obtain ⟨s, h3, e⟩ := Option.bind_eq_some_iff.1 e
        obtain ⟨x, h4, e⟩ := Option.bind_eq_some_iff.1 e
        obtain ⟨o3, h3, h3'⟩ := Option.bind_eq_some_iff.1 h3
        obtain ⟨o4, h4, h4'⟩ := Option.bind_eq_some_iff.1 h4
        rw [h1, Option.bind_some, h2, Option.bind_some, h3, Option.bind_some, hF.evA h3', Option.bind_some, h4, Option.bind_some, hF.evA h4', Option.bind_some]
        split at e
        · rename_i ht
          rw [if_pos ht]
          exact qzy _ _ _ _ _ _ _ e
        · cases e
      all_goals cases e
    | value f =>
      simp only [] at e ⊢
      obtain ⟨a, h1, e⟩ := Option.bind_eq_some_iff.1 e
      rw [hF.evA h1, Option.bind_some]
      split at e
      · rename_i g
        obtain ⟨zs, h2, e⟩ := Option.bind_eq_some_iff.1 e
        obtain ⟨z, e, h3⟩ := qzA hC _ _ _ _ _ _ e
        refine ⟨z, e, ?_⟩
        simp only [A2.at]
        have h2' := qdS (p := id) (q := V2.at) (f := qgX fr2) (g := evV fr) (fun x y h => hF.evV h) h2
        rw [List.map_id] at h2'
        rw [h2', Option.bind_some]
        exact h3
      · cases e
    | invoke => cases e
  all_goals cases e
end
end Go.Proofs.YtbhnafdmilfobaaGreat.Am

/- What the typed machine says the abstract machine says: code, loops' heads, functions. -/
set_option linter.unusedVariables false
set_option linter.unusedSimpArgs false
namespace Go.Proofs.YtbhnafdmilfobaaGreat.Am
open Go

structure StR (σ2 : St2) (σ : St) : Prop where
  fr : FrR σ2.fr σ.fr
  mem : σ.mem = σ2.mem.at
  nx : σ.nx = σ2.nx
def qdi : Out2 → Out → Prop
  | .norm σ2, .norm σ => StR σ2 σ
  | .exit i σ2, .exit j σ => i = j ∧ StR σ2 σ
  | .ret σ2, .ret σ => StR σ2 σ
  | _, _ => False
def qg (Q : Nat → Code → Prop) : Nat → Code → Prop
  | b, .seq x y => qg Q b x ∧ qg Q b y
  | b, .cond _ x y => qg Q b x ∧ qg Q b y
  | _, .block id x => qg Q id x
  | b, .loop x => Q b x
  | _, _ => True

section
variable {R : Type} {c : Cfg} {callF : FuncId → List Vl → List Blk → Option (List Vl × List Blk)} {CO : FuncId → List V2 → List Blk2 → (List V2 × List Blk2 → Option R) → Option R}
  {LO : Nat → Code → St2 → (Out2 → Option R) → Option R} {σ2 : St2} {σ : St} {nt : Nat} {ops : List Oper}

theorem qtA {d : Option Nat} {v : Sv2} {fr2 : List (Nat × Sv2)} {fr : List (Nat × Sv)} (hF : FrR fr2 fr) {K : List (Nat × Sv2) → Option R} {r : R} (e : qp4 nt d v fr2 K = some r) :
    ∃ fr2', K fr2' = some r ∧ ∃ fr', qeG nt fr d v.at = some fr' ∧ FrR fr2' fr' := by
  cases d with
  | none => exact ⟨_, e, fr, rfl, hF⟩
  | some d =>
    simp only [qp4] at e
    split at e
    · rename_i h; exact ⟨_, e, _, by simp only [qeG]; rw [if_pos h], hF.cons d v⟩
    · cases e

theorem qvJ (hC : COk CO callF) (hs : StR σ2 σ) (o : Oper) (is : List Info) (F : St → List Info → Option (St × List Info)) {K : St2 → List Info → Option R} {r : R} (e : qp5 c CO nt o σ2 is K = some r) :
    ∃ σ2' is', K σ2' is' = some r ∧ ∃ σ', qlG F nt o σ is (stp c callF o σ.fr σ.mem σ.nx) = F σ' is' ∧ StR σ2' σ' := by
  unfold qp5 at e
  obtain ⟨ef, e, h1⟩ := qAn hC hs.fr o _ _ e
  obtain ⟨fr2', e, fr', h2, h3⟩ := qtA hs.fr e
  refine ⟨_, _, e, { fr := fr', mem := qS σ.mem ef.at.upd, nx := ef.at.nn }, ?_, ⟨h3, ?_, rfl⟩⟩
  · rw [hs.mem, hs.nx, h1]
    simp only [qlG]
    rw [show ef.at.v = ef.v.at from rfl, h2]
    simp only [qgW, hs.mem]
    congr 2
    simp [Eff2.at, qzv]
  · simp [Eff2.at, hs.mem, qgn]
theorem qtB (hs : StR σ2 σ) (o : Oper) (is : List Info) (F : St → List Info → Option (St × List Info)) {K : St2 → List Info → Option R} {r : R} (e : qmS nt o σ2 is K = some r) :
    ∃ σ2' is', K σ2' is' = some r ∧ ∃ σ', qgW F σ.mem σ.nx { rd := [], wr := [] } is (qeG nt σ.fr o.dst .u) = F σ' is' ∧ StR σ2' σ' := by
  unfold qmS at e
  obtain ⟨fr2', e, fr', h2, h3⟩ := qtA hs.fr e
  refine ⟨_, _, e, { fr := fr', mem := σ.mem, nx := σ.nx }, ?_, ⟨h3, hs.mem, hs.nx⟩⟩
  rw [show Sv2.at .u = Sv.u from rfl] at h2
  rw [h2]; rfl
theorem qjQ (hs : StR σ2 σ) {d : Nat} {b b' : Bool} (hl : lk σ2.fr d = some (.v (.a (.bool b)))) (hb : b = b') : StR (know d b' σ2) σ :=
  ⟨hs.fr.know hl hb, hs.mem, hs.nx⟩

theorem qAo (hC : COk CO callF) : ∀ (l : List Oper) (σ2 : St2) (σ : St) (is : List Info) (K : St2 → List Info → Option R) (r : R), StR σ2 σ → qjM c CO nt ops l σ2 is K = some r →
    ∃ σ2' is', K σ2' is' = some r ∧ ∃ σ', qcH c callF nt ops l σ is = some (σ', is') ∧ StR σ2' σ' := by
  intro l
  induction l with
  | nil => intro σ2 σ is K r hs e; exact ⟨_, _, e, σ, rfl, hs⟩
  | cons o l ih =>
    intro σ2 σ is K r hs e
    simp only [qjM] at e
    unfold qvA at e
    have hrun : qcH c callF nt ops (o :: l) σ is = qeY c callF (qcH c callF nt ops l) nt o σ is (qdB ops o σ.fr) := rfl
    split at e
    · rename_i hg
      obtain ⟨σ2', is', e, σ', h1, h2⟩ := qvJ hC hs o is (qcH c callF nt ops l) e
      obtain ⟨σ2'', is'', e, σ'', h3, h4⟩ := ih _ _ _ _ _ h2 e
      refine ⟨_, _, e, σ'', ?_, h4⟩
      rw [hrun, qdB, hg]
      simp only [qeY, h1, h3]
    · rename_i j want hg
      simp only [Option.bind_eq_some_iff] at e
      obtain ⟨d, hd, v, hv, e⟩ := e
      have hv' := hs.fr d v hv
      have hd' : (ops[j]?.bind fun x => x.dst) = some d := Option.bind_eq_some_iff.2 hd
      split at e
      · rename_i b
        split at e
        · rename_i hb
          obtain ⟨σ2', is', e, σ', h1, h2⟩ := qvJ hC (qjQ hs hv hb) o is (qcH c callF nt ops l) e
          obtain ⟨σ2'', is'', e, σ'', h3, h4⟩ := ih _ _ _ _ _ h2 e
          refine ⟨_, _, e, σ'', ?_, h4⟩
          rw [hrun, qdB, hg]
          simp only [hd', Option.bind_some, hv', Sv2.at, V2.at, A2.at, hb, beq_self_eq_true, qeY, h1, h3]
        · rename_i hb
          obtain ⟨σ2', is', e, σ', h1, h2⟩ := qtB (qjQ hs hv (by cases b <;> cases want <;> simp_all)) o is (qcH c callF nt ops l) e
          obtain ⟨σ2'', is'', e, σ'', h3, h4⟩ := ih _ _ _ _ _ h2 e
          refine ⟨_, _, e, σ'', ?_, h4⟩
          have hb' : (b == want) = false := by simpa using hb
          rw [hrun, qdB, hg]
          simp only [hd', Option.bind_some, hv', Sv2.at, V2.at, A2.at, hb', qeY, h1, h3]
      · rename_i hno
        obtain ⟨σ2', is', e, σ', h1, h2⟩ := qtB hs o is (qcH c callF nt ops l) e
        obtain ⟨σ2'', is'', e, σ'', h3, h4⟩ := ih _ _ _ _ _ h2 e
        refine ⟨_, _, e, σ'', ?_, h4⟩
        have hw : qdB ops o σ.fr = some false := by
          rw [qdB, hg]
          simp only [hd', Option.bind_some, hv']
          cases v with
          | u => rfl
          | t vs => rfl
          | v y => cases y with
            | g cs => rfl
            | a z => cases z <;> first | rfl | exact absurd rfl (hno _)
        rw [hrun, hw]
        simp only [qeY, h1, h3]

variable {kp : Nat → List Kp} {k p : Nat}
def LOk (LO : Nat → Code → St2 → (Out2 → Option R) → Option R) (c : Cfg) (callF : FuncId → List Vl → List Blk → Option (List Vl × List Blk)) (kp : Nat → List Kp) (nt k p : Nat) (b : Nat) (x : Code) : Prop :=
  ∀ σ2 σ, StR σ2 σ → Snd (LO b x σ2) fun o2 => ∃ o, qgI (qfP p (kp b)) (qa8 c callF kp nt k p b x) k σ = some o ∧ qdi o2 o

theorem qvK (hC : COk CO callF) : ∀ (x : Code) (b : Nat) (σ2 : St2) (σ : St), qg (LOk LO c callF kp nt k p) b x → StR σ2 σ →
    Snd (qF c CO LO nt b x σ2) fun o2 => ∃ o, qa8 c callF kp nt k p b x σ = some o ∧ qdi o2 o := by
  intro x
  induction x with
  | skip => intro b σ2 σ hL hs K r e; exact ⟨_, e, _, rfl, hs⟩
  | region id ops draw =>
    intro b σ2 σ hL hs K r e
    simp only [qF] at e
    obtain ⟨σ2', is', e, σ', h1, h2⟩ := qAo hC _ _ _ _ _ _ hs e
    split at e
    · cases e
    · rename_i hd
      refine ⟨_, e, .norm σ', ?_, h2⟩
      simp only [qa8, h1, qwA]
      rw [if_neg (by simpa using hd)]
  | seq x y ihx ihy =>
    intro b σ2 σ hL hs K r e
    simp only [qF] at e
    obtain ⟨o2, e, o, h1, h2⟩ := ihx b _ _ hL.1 hs _ _ e
    cases o2 with
    | norm σ2' =>
      cases o <;> simp only [qdi] at h2
      rename_i σ'
      obtain ⟨o2, e, o, h3, h4⟩ := ihy b _ _ hL.2 h2 _ _ e
      exact ⟨o2, e, o, by simp only [qa8, h1, qgl, h3], h4⟩
    | exit i σ2' =>
      refine ⟨_, e, o, ?_, h2⟩
      cases o <;> simp only [qdi] at h2
      simp only [qa8, h1, qgl]
    | ret σ2' =>
      refine ⟨_, e, o, ?_, h2⟩
      cases o <;> simp only [qdi] at h2
      simp only [qa8, h1, qgl]
  | cond o x y ihx ihy =>
    intro b σ2 σ hL hs K r e
    have gen : ((qr4 σ2.fr o).bind fun q => if q = true then qF c CO LO nt b x σ2 K else qF c CO LO nt b y σ2 K) = some r →
        ∃ o2, K o2 = some r ∧ ∃ out, qa8 c callF kp nt k p b (.cond o x y) σ = some out ∧ qdi o2 out := by
      intro e
      simp only [Option.bind_eq_some_iff] at e
      obtain ⟨q, hq, e⟩ := e
      split at e
      · rename_i hb
        subst hb
        obtain ⟨o2, e, o', h3, h4⟩ := ihx b _ _ hL.1 hs _ _ e
        exact ⟨o2, e, o', by simp only [qa8, hs.fr.evB hq, qrK, h3], h4⟩
      · rename_i hb
        obtain ⟨o2, e, o', h3, h4⟩ := ihy b _ _ hL.2 hs _ _ e
        exact ⟨o2, e, o', by simp only [qa8, hs.fr.evB hq, (show q = false by simpa using hb), qrK, h3], h4⟩
    cases o with
    | tmp t =>
      simp only [qF, Option.bind_eq_some_iff] at e
      obtain ⟨v, hv, e⟩ := e
      have hv' := hs.fr t v hv
      split at e
      · rename_i q
        have hq : evB σ.fr (.tmp t) = some q := by simp [evB, evA, ev, hv', Sv2.at, V2.at, A2.at, svA, asB]
        split at e
        · rename_i hb
          obtain ⟨o2, e, o', h3, h4⟩ := ihx b _ _ hL.1 (qjQ hs hv hb) _ _ e
          exact ⟨o2, e, o', by simp only [qa8, hq, hb, qrK, h3], h4⟩
        · rename_i hb
          have hb' : q = false := by simpa using hb
          obtain ⟨o2, e, o', h3, h4⟩ := ihy b _ _ hL.2 (qjQ hs hv hb') _ _ e
          exact ⟨o2, e, o', by simp only [qa8, hq, hb', qrK, h3], h4⟩
      · cases e
    | const v => exact gen (by simpa only [qF] using e)
    | func f => exact gen (by simpa only [qF] using e)
    | global g => exact gen (by simpa only [qF] using e)
  | block id x ih =>
    intro b σ2 σ hL hs K r e
    simp only [qF] at e
    obtain ⟨o2, e, o, h1, h2⟩ := ih id _ _ hL hs _ _ e
    cases o2 with
    | norm σ2' =>
      refine ⟨_, e, o, ?_, h2⟩
      cases o <;> simp only [qdi] at h2
      simp only [qa8, h1, qoZ]
    | exit i σ2' =>
      cases o <;> simp only [qdi] at h2
      rename_i j σ'
      obtain ⟨rfl, h2⟩ := h2
      simp only [] at e
      split at e
      · rename_i hi
        exact ⟨_, e, .norm σ', by simp only [qa8, h1, qoZ]; rw [if_pos hi], h2⟩
      · rename_i hi
        exact ⟨_, e, .exit i σ', by simp only [qa8, h1, qoZ]; rw [if_neg hi], rfl, h2⟩
    | ret σ2' =>
      refine ⟨_, e, o, ?_, h2⟩
      cases o <;> simp only [qdi] at h2
      simp only [qa8, h1, qoZ]
  | loop x ih => intro b σ2 σ hL hs K r e; exact hL σ2 σ hs K r e
  | exit id => intro b σ2 σ hL hs K r e; exact ⟨_, e, _, rfl, rfl, hs⟩
  | ret => intro b σ2 σ hL hs K r e; exact ⟨_, e, _, rfl, hs⟩
  | _ => intro b σ2 σ hL hs K r e; cases e

theorem qsd (T : TypeId → Option TI) (nx : Nat) (a : A2) : qdn nx a.at = ((qhX T nx a).1.at, (qhX T nx a).2.1.at, (qhX T nx a).2.2) := by
  cases a <;> try rfl
  case snil es ty =>
    simp only [A2.at, qdn, qhX, qJ.at, List.map_cons, List.map_nil, oAt, Option.map_some, Blk2.at]
    split <;> rfl
theorem qo5 (T : TypeId → Option TI) : ∀ (cs : List A2) (nx : Nat), qd3 nx (cs.map A2.at) = ((qgL T nx cs).1.map A2.at, (qgL T nx cs).2.1.at, (qgL T nx cs).2.2) := by
  intro cs
  induction cs with
  | nil => intro nx; rfl
  | cons a cs ih =>
    intro nx
    simp only [List.map_cons, qd3, qsd T, ih, qgL, qgo]
theorem qzB (hs : StR σ2 σ) : ∀ (ks : List Kp) (q : List (Nat × V2) × qJ × Nat), qhc c.T σ2 ks = some q → qft σ ks = some (q.1.map (fun p => (p.1, Sv.v p.2.at)), q.2.1.at, q.2.2) := by
  intro ks
  induction ks with
  | nil => intro q e; cases e; simp [qft, hs.nx, qJ.at]
  | cons kk ks ih =>
    intro q e
    cases kk with
    | s t =>
      simp only [qhc, Option.bind_eq_some_iff] at e
      obtain ⟨q0, h1, e⟩ := e
      simp only [qft, ih _ h1, Option.bind_some]
      split at e
      · rename_i x hx
        cases e
        simp only [hs.fr _ _ hx, Sv2.at, V2.at, qsd c.T, qgo, List.map_cons]
      · rename_i cs hx
        cases e
        simp only [hs.fr _ _ hx, Sv2.at, V2.at, qo5 c.T, qgo, List.map_cons]
      · cases e
    | b t =>
      simp only [qhc, Option.bind_eq_some_iff] at e
      obtain ⟨q0, h1, e⟩ := e
      simp only [qft, ih _ h1, Option.bind_some]
      split at e
      · rename_i m o hx
        simp only [Option.bind_eq_some_iff] at e
        obtain ⟨b, h2, e⟩ := e
        split at e
        · rename_i el hb
          cases e
          simp only [hs.fr _ _ hx, Sv2.at, V2.at, A2.at, hs.mem, ← qgn, qbL, h2, Option.map_some, Option.bind_some, Blk2.at, hb, Bd.rows, List.map_cons, List.map_nil, qo5 c.T, qgo, qfD, oAt, qsb, qQ]
        · cases e
      · cases e
theorem qzC {ρ : Nat → Option Nat} : ∀ {l : List (Nat × V2)} {s : List (Nat × Sv2)}, qp6 ρ l = some s → qlH ρ (l.map fun p => (p.1, Sv.v p.2.at)) = some (s.map fun p => (p.1, p.2.at)) := by
  intro l
  induction l with
  | nil => intro s e; cases e; rfl
  | cons q l ih =>
    intro s e
    simp only [qp6, Option.bind_eq_some_iff] at e
    obtain ⟨y, h1, r, h2, e⟩ := e
    cases e
    simp only [List.map_cons, qlH, qjO h1, ih h2, Option.bind_some, Sv2.at]
theorem qvL {β γ : Type} (g : β → γ) (l : List (Nat × β)) (t : Nat) : lk (l.map fun p => (p.1, g p.2)) t = (lk l t).map g := by
  induction l with
  | nil => rfl
  | cons p l ih =>
    simp only [List.map_cons, lk]
    split
    · rfl
    · exact ih
def vOf : Sv → Option Vl
  | .v x => some x
  | _ => none
def qyk (p : Nat) (mem : Mem) (fr0 : List (Nat × Sv)) (N : List Nat) : Option St :=
  (qlH (idx N) fr0).bind fun fr =>
  (qu (fun m => (qn mem m).bind (qeh (idx N))) N).bind fun bs =>
  if N.take p = List.range p then some { fr := fr, mem := qei (List.range N.length) bs, nx := N.length } else none
theorem qw1 (p : Nat) (ks : List Kp) (σ : St) : qfP p ks σ = (qft σ ks).bind fun q => qyk p (qS σ.mem q.2.1) q.1 (clo (qdG (qS σ.mem q.2.1)) 64 (List.range p ++ qh (q.1.filterMap fun s => vOf s.2)) []) := rfl
theorem qtC (hs : StR σ2 σ) {ks : List Kp} {S2 : St2} (e : qp7 c.T p ks σ2 = some S2) : ∃ S, qfP p ks σ = some S ∧ StR S2 S := by
  unfold qp7 at e
  simp only [Option.bind_eq_some_iff] at e
  obtain ⟨q, h1, fr, h2, bs, h3, e⟩ := e
  generalize hN : clo (qch A2.nm (qe3 σ2.mem q.2.1)) 64 (List.range p ++ qdR A2.nm (q.1.map (·.2))) [] = N at h2 h3 e
  split at e
  · rename_i hp
    cases e
    have h3' := qdS (p := id) (q := Blk2.at) (g := fun m => (qn (qe3 σ2.mem q.2.1).at m).bind (qeh (idx N))) (fun m b h => by
      simp only [Option.bind_eq_some_iff] at h
      obtain ⟨b0, h4, h5⟩ := h
      simp only [id_eq, qbL, h4, Option.map_some, Option.bind_some]
      exact qjP h5) h3
    rw [List.map_id] at h3'
    have hfm : ∀ l : List (Nat × V2), List.filterMap (fun s : Nat × Sv => vOf s.2) (l.map fun p => (p.1, Sv.v p.2.at)) = (l.map (·.2)).map V2.at := by
      intro l
      induction l with
      | nil => rfl
      | cons a l ih => rw [List.map_cons, List.filterMap_cons, List.map_cons, List.map_cons, ← ih]; rfl
    refine ⟨{ fr := fr.map fun p => (p.1, p.2.at), mem := qei (List.range N.length) (bs.map Blk2.at), nx := N.length }, ?_, ⟨?_, ?_, rfl⟩⟩
    · rw [qw1, qzB hs _ _ h1]
      simp only [Option.bind_some, hs.mem, ← qgn, qpK, hfm, qiz, hN]
      simp only [qyk, qzC h2, h3', Option.bind_some]
      rw [if_pos hp]
    · intro t v h
      rw [qvL, h]; rfl
    · exact (qvD _ _).symm
  · cases e
end
end Go.Proofs.YtbhnafdmilfobaaGreat.Am

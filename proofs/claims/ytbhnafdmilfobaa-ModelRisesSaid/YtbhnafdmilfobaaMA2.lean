/- The abstract machine's runs: one operation, a row of operations. -/
import Derived.Test.YtbhnafdmilfobaaMA1
import Derived.LoopN
import Derived.ChangeArms
import Derived.OpenShut
import Derived.Carry
import Derived.ShutString
import Derived.SizedLaws

set_option linter.unusedVariables false
set_option linter.unusedSimpArgs false
namespace Go.Proofs.Ytbhnafdmilfobaa.Am
open Go

section
variable {P : Program} {n : Nat} {w0 : World} {M0 : Bool → Nat → Prop} {U : Nat → Prop} {ι ι' ι0 : Io} {h h1 h2 h0 : Hp} {fr : List (Nat × Sv)} {mem mem1 : Mem} {a : Act} {w w' : World} {p : Nat}
  {c : Cfg} {callF : FuncId → List Vl → List Blk → Option (List Vl × List Blk)} {o : Oper} {nx : Nat} {e : Eff}

theorem qq.wp (hp : qq P n w0 M0 U ι h fr mem a w nx o e) {next : Act → World → Prop} {Q : Exit → Act → World → Prop} (hk : ∀ u w', Nxt n w0 M0 U ι h fr mem nx e a u w' → next (a.put o.dst u) w') : o.wp P a w next Q := by
  rcases hp with ⟨u, w', h1, h2⟩ | ⟨w', h1, h2⟩
  · exact qyA h1 (hk u w' h2)
  · exact qvh h1 (hk _ w' h2)

theorem qqH (hT : qb8 P c.T) (hC : qfF P callF) (hs : Sim n w0 M0 U ι h fr mem a w) (hf : ∀ m, nx ≤ m → m < e.nn → ¬ U m) (he : stp c callF o fr mem nx = some e) {next : Act → World → Prop} {Q : Exit → Act → World → Prop}
    (hk : ∀ u w', Nxt n w0 M0 U ι h fr mem nx e a u w' → next (a.put o.dst u) w') : o.wp P a w next Q := by
  cases hop : o.op with
  | move x => exact (qxQ hs hop he).wp hk
  | assign x => exact (qt9 hs hop he).wp hk
  | pick k x y => exact (qxR hs hop he).wp hk
  | alloc t => exact (qvi hT hs hf hop he).wp hk
  | box t x => exact (qyB hT hs hf hop he).wp hk
  | build t ps => exact (qvn hT hs hop he).wp hk
  | buildSlice t l ps => exact (qoH hT hs hf hop he).wp hk
  | load t x => exact (qxS hT hs hop he).wp hk
  | store t x y => exact (qvj hT hs hop he).wp hk
  | nilCheck x => exact (qrH hs hop he).wp hk
  | binOp op t x y t2 => exact (qvl hT hs hop he).wp hk
  | unOp op t x => exact (qxT hs hop he).wp hk
  | convert s d x => exact (qsN hT hs hf hop he).wp hk
  | makeSlice t l k => exact (qqB hT hs hf hop he).wp hk
  | slice t x lo hi mx => exact (qvq hT hs hop he).wp hk
  | fieldAddr s x f => exact (qqC hT hs hop he).wp hk
  | field s x f => exact (qvo hT hs hop he).wp hk
  | indexAddr t x i => exact (qqD hT hs hop he).wp hk
  | index t x i => exact (qvp hT hs hop he).wp hk
  | extract x i => exact (qsL hs hop he).wp hk
  | call k =>
    obtain ⟨callee, args, ats⟩ := k
    cases callee with
    | value f => exact qxW hC hs hf hop he hk
    | invoke r m => simp [stp, hop] at he
    | builtin b =>
      cases b with
      | len => exact (qyD hT hs hop he).wp hk
      | min => exact (qyE hs hop he).wp hk
      | max => exact (qyF hs hop he).wp hk
      | append => exact (quc hT hs hf hop he).wp hk
      | _ => simp [stp, hop] at he
  | _ => simp [stp, hop] at he

theorem Sim.put (hs : Sim n w0 M0 U ι h fr mem a w) {dst : Option Nat} {v : Sv} {u : Value} {fr' : List (Nat × Sv)} (hr : RS ι h v u) (hn : ∀ m ∈ v.nms, U m) (e : qen n fr dst v = some fr') :
    Sim n w0 M0 U ι h fr' mem (a.put dst u) w := by
  cases dst with
  | none => cases e; exact hs
  | some d =>
    simp only [qen] at e
    split at e
    · rename_i hd
      cases e
      refine { hs with hsize := by simp [Act.put, hs.hsize], hfr := ?_, hnm := ?_ }
      · intro t v' e'
        rw [qdr] at e'
        split at e'
        · rename_i ht
          cases e'
          subst ht
          exact ⟨u, by simp [Act.put, hs.hsize, hd], hr⟩
        · rename_i ht
          obtain ⟨u', q1, q2⟩ := hs.hfr t v' e'
          exact ⟨u', by simp [Act.put, Array.getElem?_setIfInBounds_ne ht, q1], q2⟩
      · intro t v' e' m hm
        rw [qdr] at e'
        split at e'
        · cases e'; exact hn m hm
        · exact hs.hnm t v' e' m hm
    · cases e

def qG6 : Value → Option Bool
  | .bool b => some b
  | _ => none

theorem qhg (hs : Sim n w0 M0 U ι h fr mem a w) {ops : Array Oper} {b : Bool} (e : qdc ops.toList o fr = some b) : Region.wanted o (yielded ops a.tmps) = b := by
  unfold qdc at e
  unfold Region.wanted
  split at e
  · rename_i hg
    cases e
    rw [hg]
  · rename_i j want hg
    rw [hg]
    simp only [Option.bind_eq_some_iff] at e
    obtain ⟨d, ⟨o', e1, e2⟩, v, e3, e⟩ := e
    obtain ⟨u, q1, q2⟩ := hs.hfr d v e3
    have hy : yielded ops a.tmps j = qG6 u := by
      have h1 : ((ops[j]?).bind (·.dst)).bind (a.tmps[·]?) = some u := by
        have : ops[j]? = some o' := by simpa using e1
        rw [this]
        simp only [Option.bind_some, e2]
        exact q1
      unfold yielded
      rw [h1]
      cases u <;> rfl
    simp only [hy]
    split at e
    · rename_i b'
      cases e
      have := RP.bool_inv (show RP h (.bool b') u from q2)
      subst this
      rfl
    · rename_i hnb
      cases e
      have hub : ∀ b', u ≠ .bool b' := by
        rintro b' rfl
        cases v with
        | v x =>
          cases x with
          | a x =>
            cases x with
            | ptr m i o => obtain ⟨L, _, hq⟩ := q2; cases hq
            | sm m lo k => rcases q2 with ⟨L, c, _, hq, _⟩ | ⟨_, _, _, hq⟩ <;> cases hq
            | bool b => exact hnb b rfl
            | _ => have q2 : RP h _ _ := q2; cases q2
          | g cs => obtain ⟨A, hq, _⟩ := q2; cases hq
        | t vs => obtain ⟨A, hq, _⟩ := q2; cases hq
        | u => cases q2
      cases u <;> first | rfl | exact absurd rfl (hub _)

structure Hist (w0 : World) (M0 : Bool → Nat → Prop) (p : Nat) (ι0 : Io) (h0 : Hp) (ι : Io) (h : Hp) : Prop where
  sub : Sub h0 h
  same : ∀ i, i < p → ι i = ι0 i
  view : ∀ b, b < w0.heap.size → ¬ M0 false b → h b = h0 b

def Cnf (n : Nat) (w0 : World) (M0 : Bool → Nat → Prop) (p : Nat) (ι0 : Io) (h0 : Hp) (σ : St) (a : Act) (w : World) : Prop :=
  ∃ ι h, Sim n w0 M0 (fun m => m < σ.nx) ι h σ.fr σ.mem a w ∧ Hist w0 M0 p ι0 h0 ι h ∧ p ≤ σ.nx

theorem qqI (ι : Io) (h : Hp) : RS ι h .u undef := rfl

theorem qqJ (hT : qb8 P c.T) (hC : qfF P callF) {ops : Array Oper} {Q : Exit → Act → World → Prop} :
    ∀ (r : List Oper) (i : Nat) (σ σ' : St) (is is' : List Info) (a : Act) (w : World), ops.toList.drop i = r → Cnf n w0 M0 p ι0 h0 σ a w → qco c callF n ops.toList r σ is = some (σ', is') →
      (∀ a' w', Cnf n w0 M0 p ι0 h0 σ' a' w' → Q .normal a' w') → wpOps P ops Q (List.range' i r.length) a w := by
  intro r
  induction r with
  | nil =>
    intro i σ σ' is is' a w _ hc he hk
    simp [qco] at he
    obtain ⟨rfl, rfl⟩ := he
    exact hk a w hc
  | cons o r ih =>
    intro i σ σ' is is' a w hd hc he hk
    have ho : ops[i]? = some o := by
      have : ops.toList[i]? = some o := by
        have := List.getElem?_drop (xs := ops.toList) (i := i) (j := 0)
        rw [hd] at this
        simpa using this.symm
      simpa using this
    have hd' : ops.toList.drop (i + 1) = r := by
      rw [← List.drop_drop, hd]
      rfl
    simp only [List.length_cons, List.range'_succ, wpOps, ho]
    obtain ⟨ι, h, hs, hh, hp⟩ := hc
    simp only [qco] at he
    cases hw : qdc ops.toList o σ.fr with
    | none => rw [hw] at he; simp [qeE] at he
    | some b =>
      rw [qhg hs hw]
      rw [hw] at he
      cases b with
      | false =>
        simp only [qeE] at he
        cases hp' : qen n σ.fr o.dst .u with
        | none => rw [hp'] at he; simp [qgC] at he
        | some fr' =>
          rw [hp'] at he
          simp only [qgC] at he
          rw [if_neg (by simp)]
          exact ih (i + 1) ⟨fr', σ.mem, σ.nx⟩ σ' _ is' _ w hd' ⟨ι, h, hs.put (qqI ι h) (by simp [Sv.nms]) hp', hh, hp⟩ he hk
      | true =>
        simp only [qeE] at he
        rw [if_pos rfl]
        left
        cases hst : stp c callF o σ.fr σ.mem σ.nx with
        | none => rw [hst] at he; simp [qkV] at he
        | some e =>
          rw [hst] at he
          simp only [qkV] at he
          cases hp' : qen n σ.fr o.dst e.v with
          | none => rw [hp'] at he; simp [qgC] at he
          | some fr' =>
            rw [hp'] at he
            simp only [qgC] at he
            refine qqH hT hC hs (fun m h1 h2 h3 => by omega) hst ?_
            rintro u w' ⟨ι', h', n1, n2, n3, n4, n5, n6, n7⟩
            refine ih (i + 1) ⟨fr', qU σ.mem e.upd, e.nn⟩ σ' _ is' _ w' hd' ⟨ι', h', ?_, ⟨hh.sub.trans n1, fun j hj => ?_, fun b hb hM => ?_⟩, by simp only; omega⟩ he hk
            · exact (n3.put n4 n5 hp').weak fun m hm => by
                simp only at hm ⊢
                rcases hm with hm | hm <;> omega
            · rw [n2 j (by omega), hh.same j hj]
            · rw [n7 b hb hM, hh.view b hb hM]

end
end Go.Proofs.Ytbhnafdmilfobaa.Am

/- What an operation looks at: nothing but its operands and the blocks that it qgu. -/
set_option linter.unusedVariables false
set_option linter.unusedSimpArgs false
namespace Go.Proofs.Ytbhnafdmilfobaa.Am
open Go

theorem quh {ns ns' : Nat → List Nat} : ∀ (k : Nat) (ms acc : List Nat), (∀ m ∈ clo ns k ms acc, ns' m = ns m) → clo ns' k ms acc = clo ns k ms acc := by
  have pre : ∀ (k : Nat) (ms acc : List Nat) (m : Nat), m ∈ acc → m ∈ clo ns k ms acc := by
    intro k
    induction k with
    | zero => intro ms acc m hm; exact hm
    | succ k ih =>
      intro ms acc m hm
      cases ms with
      | nil => exact hm
      | cons x ms =>
        simp only [clo]
        split
        · exact ih _ _ m hm
        · exact ih _ _ m (List.mem_append_left _ hm)
  intro k
  induction k with
  | zero => intro ms acc _; rfl
  | succ k ih =>
    intro ms acc h
    cases ms with
    | nil => rfl
    | cons x ms =>
      simp only [clo] at h ⊢
      split
      · rename_i hc
        rw [if_pos hc] at h
        exact ih _ _ h
      · rename_i hc
        rw [if_neg hc] at h
        have hx : ns' x = ns x := h x (pre _ _ _ _ (by simp))
        rw [hx]
        exact ih _ _ h

theorem qdC {α β : Type} {f g : α → Option β} {l : List α} (h : ∀ x ∈ l, f x = g x) : qu f l = qu g l := by
  induction l with
  | nil => rfl
  | cons x l ih =>
    simp only [qu]
    rw [h x (List.mem_cons_self ..), ih fun y hy => h y (List.mem_cons_of_mem _ hy)]

section
variable {mem mem' : Mem} {fr fr' : List (Nat × Sv)}

def Eqm (mem mem' : Mem) (F : List Nat) : Prop := ∀ m ∈ F, qk mem' m = qk mem m

theorem qhh {x : At} (h : Eqm mem mem' x.smn) : qem mem' x = qem mem x := by
  cases x <;> first | rfl | skip
  simp only [qem]
  rw [h _ (by simp [At.smn])]
theorem qsR {x : Vl} (h : Eqm mem mem' (x.cells.flatMap At.smn)) : qdW mem' x = qdW mem x := by
  cases x with
  | a x => simp only [qdW]; rw [qhh (by simpa [Vl.cells] using h)]
  | g cs =>
    simp only [qdW]
    rw [qdC (l := cs) fun x hx => qhh fun m hm => h m (List.mem_flatMap.2 ⟨x, hx, hm⟩)]
theorem qrL {xs : List Vl} (h : Eqm mem mem' (qfX xs)) : qu (qdW mem') xs = qu (qdW mem) xs :=
  qdC fun x hx => qsR fun m hm => h m (List.mem_flatMap.2 ⟨x, hx, hm⟩)
theorem qsS {b : Blk} (h : b.pr = false → Eqm mem mem' (b.els.flatMap fun e => e.flatMap At.smn)) : qe3 mem' b = qe3 mem b := by
  unfold qe3
  split
  · rfl
  · rename_i hp
    rw [qdC fun e he => qdC fun x hx => qhh fun m hm => h (by simpa using hp) m (List.mem_flatMap.2 ⟨e, he, List.mem_flatMap.2 ⟨x, hx, hm⟩⟩)]
theorem qkQ {F : List Nat} (h : Eqm mem mem' F) : qcZ mem' F = qcZ mem F := by
  induction F with
  | nil => rfl
  | cons m F ih =>
    simp only [qcZ]
    rw [h m (List.mem_cons_self ..), ih fun x hx => h x (List.mem_cons_of_mem _ hx)]
theorem qkR {es : Nat} {x : At} {r : Nat × List (List At) × Bool × List Nat} (e : elsOf mem es x = some r) (h : Eqm mem mem' r.2.2.2) : elsOf mem' es x = some r := by
  cases x <;> first | exact e | skip
  rename_i m lo k
  simp only [elsOf, Option.bind_eq_some_iff] at e ⊢
  obtain ⟨B, e1, e2⟩ := e
  split at e2
  · rename_i hc
    cases e2
    exact ⟨B, by rw [h m (by simp), e1], by rw [if_pos hc]⟩
  · cases e2
theorem qlO {F : List Nat} {m : Nat} (u : Mem) (hm : qk mem' m = qk mem m) : qk (qU mem' u) m = qk (qU mem u) m := by
  induction u generalizing mem mem' with
  | nil => exact hm
  | cons p u ih =>
    obtain ⟨k, b⟩ := p
    simp only [qU]
    refine ih ?_
    rw [qbc, qbc, hm]

theorem qkY {o : Operand} (h : ∀ t, o = .tmp t → lk fr' t = lk fr t) : ev fr' o = ev fr o := by
  cases o <;> first | rfl | exact h _ rfl
theorem qot {fr fr' : List (Nat × Sv)} {o : Operand} (h : ev fr' o = ev fr o) : gOf fr' o = gOf fr o := by unfold gOf; rw [h]
theorem qhO {o : Operand} (h : ∀ t, o = .tmp t → lk fr' t = lk fr t) : evA fr' o = evA fr o := by unfold evA; rw [qkY h]
theorem qou {o : Operand} (h : ∀ t, o = .tmp t → lk fr' t = lk fr t) : evV fr' o = evV fr o := by unfold evV; rw [qkY h]
theorem qui {o : Operand} (h : ∀ t, o = .tmp t → lk fr' t = lk fr t) : evB fr' o = evB fr o := by unfold evB; rw [qhO h]
theorem qov {o : Operand} (h : ∀ t, o = .tmp t → lk fr' t = lk fr t) : evI fr' o = evI fr o := by unfold evI; rw [qhO h]
theorem qhP {d : Nat} {o : Option Operand} (h : ∀ t, o = some (.tmp t) → lk fr' t = lk fr t) : qcn fr' d o = qcn fr d o := by
  cases o with
  | none => rfl
  | some o => exact qov fun t ht => h t (by rw [ht])
theorem qhQ {ps : List (Nat × Operand)} (h : ∀ i t, (i, Operand.tmp t) ∈ ps → lk fr' t = lk fr t) : qfE fr' ps = qfE fr ps :=
  qdC fun p hp => by
    obtain ⟨i, x⟩ := p
    simp only
    rw [qou fun t ht => h i t (by rw [← ht]; exact hp)]

variable {c : Cfg} {callF : FuncId → List Vl → List Blk → Option (List Vl × List Blk)} {o : Oper} {nx : Nat} {e : Eff}

theorem Fzn.upd (F : List Nat) : ∀ {mem1 : Mem}, Fzn mem mem1 → Fzn mem (qU mem1 (qcZ mem F)) := by
  induction F with
  | nil => intro mem1 h; exact h
  | cons m F ih =>
    intro mem1 h
    cases hB : qk mem m with
    | none => simp only [qcZ, hB]; exact ih h
    | some B =>
      simp only [qcZ, hB, qU]
      refine ih fun x => ?_
      rw [qbc]
      by_cases hx : m = x
      · rw [if_pos hx]; exact .inr ⟨B, by rw [← hx, hB], rfl⟩
      · rw [if_neg hx]; exact h x

theorem qoI {g : FuncId} {args : List Vl} (he : qeW c callF g args mem nx = some e) (hm : Eqm mem mem' e.rd) : qeW c callF g args mem' nx = some e := by
  unfold qeW at he ⊢
  simp only [Option.bind_eq_some_iff] at he ⊢
  obtain ⟨vals, e3, blks, e4, vals', e5, ⟨rs0, bs⟩, e6, rs, e7, bsR, e8, he⟩ := he
  generalize hN : clo (fun m => if c.mutA g = true then qdh mem m else qe4 mem m) 64 (qg vals) [] = N at *
  generalize hF : (if c.mutA g = true then [] else qfX args ++ N.flatMap (qdp mem)) = F at *
  have hrd : Eqm mem mem' (N ++ F) := by
    cases he
    exact hm
  have hNm : Eqm mem mem' N := fun m h => hrd m (List.mem_append_left _ h)
  have hFm : Eqm mem mem' F := fun m h => hrd m (List.mem_append_right _ h)
  have hN' : clo (fun m => if c.mutA g = true then qdh mem' m else qe4 mem' m) 64 (qg vals) [] = N := by
    rw [← hN]
    refine quh _ _ _ fun m h => ?_
    rw [hN] at h
    simp only [qdh, qe4, hNm m h]
  have hsm : N.flatMap (qdp mem') = N.flatMap (qdp mem) := by
    have : ∀ (l : List Nat), (∀ m ∈ l, m ∈ N) → l.flatMap (qdp mem') = l.flatMap (qdp mem) := by
      intro l
      induction l with
      | nil => intro _; rfl
      | cons x l ih =>
        intro h
        simp only [List.flatMap_cons]
        rw [ih fun m hm => h m (List.mem_cons_of_mem _ hm)]
        congr 1
        simp only [qdp, hNm x (h x (List.mem_cons_self ..))]
    exact this N fun _ h => h
  have hF' : (if c.mutA g = true then [] else qfX args ++ N.flatMap (qdp mem')) = F := by rw [hsm, hF]
  refine ⟨vals, ?_, blks, ?_, vals', ?_, (rs0, bs), e6, rs, ?_, bsR, ?_, ?_⟩
  · split
    · rename_i hq; rw [if_pos hq] at e3; exact e3
    · rename_i hq
      rw [if_neg hq] at e3
      rw [qrL]
      · exact e3
      · intro m h
        refine hFm m ?_
        rw [← hF, if_neg hq]
        exact List.mem_append_left _ h
  · rw [hN', hF']
    rw [← e4]
    refine qdC fun m h => ?_
    rw [qlO (F := []) _ (hNm m h), qkQ hFm]
    cases hb : qk (qU mem (qcZ mem F)) m with
    | none => rfl
    | some b =>
      simp only [Option.bind_some]
      split
      · rfl
      · rename_i hq
        rw [qsS]
        intro hp
        intro m' hm'
        refine hFm m' ?_
        rw [← hF, if_neg hq]
        refine List.mem_append_right _ (List.mem_flatMap.2 ⟨m, h, ?_⟩)
        have hz : Fzn mem (qU mem (qcZ mem F)) := Fzn.upd F (Fzn.refl mem)
        obtain ⟨B0, f1, f2, _, _, f5, _⟩ := hz.of hb
        unfold qdp
        rw [f1]
        simp only [← f5, hp]
        rw [← f2]
        simpa using hm'
  · rw [hN']; exact e5
  · rw [hN']; exact e7
  · rw [hN']; exact e8
  · rw [hN', hF', qkQ hFm]; exact he

theorem qlP {t : TypeId} {s x : At} (he : qdi c t s x mem nx = some e) (hm : Eqm mem mem' e.rd) : qdi c t s x mem' nx = some e := by
  unfold qdi at he ⊢
  split at he
  · rename_i et ht
    simp only [Option.bind_eq_some_iff] at he ⊢
    obtain ⟨te, e1, src, e2, base, e3, he⟩ := he
    split at he
    · rename_i hc
      cases he
      refine ⟨te, e1, src, qkR e2 fun m h => hm m (List.mem_append_right _ h), base, ?_, by rw [if_pos hc]⟩
      split at e3
      · exact e3
      · rename_i m lo k
        simp only [Option.bind_eq_some_iff] at e3 ⊢
        obtain ⟨B, e4, e3⟩ := e3
        split at e3
        · rename_i hq
          cases e3
          exact ⟨B, by rw [hm m (List.mem_append_left _ (by simp)), e4], by rw [if_pos hq]⟩
        · cases e3
      · cases e3
    · cases he
  · cases he

theorem quj (he : stp c callF o fr mem nx = some e) (hf : ∀ t, Operand.tmp t ∈ o.op.operands.toList → lk fr' t = lk fr t) (hm : Eqm mem mem' e.rd) : stp c callF o fr' mem' nx = some e := by
  have oE : ∀ x, x ∈ o.op.operands.toList → ev fr' x = ev fr x := fun x hx => qkY fun t ht => hf t (ht ▸ hx)
  have oA : ∀ x, x ∈ o.op.operands.toList → evA fr' x = evA fr x := fun x hx => qhO fun t ht => hf t (ht ▸ hx)
  have oV : ∀ x, x ∈ o.op.operands.toList → evV fr' x = evV fr x := fun x hx => qou fun t ht => hf t (ht ▸ hx)
  have oB : ∀ x, x ∈ o.op.operands.toList → evB fr' x = evB fr x := fun x hx => qui fun t ht => hf t (ht ▸ hx)
  have oI : ∀ x, x ∈ o.op.operands.toList → evI fr' x = evI fr x := fun x hx => qov fun t ht => hf t (ht ▸ hx)
  cases hop : o.op <;> simp only [hop, Op.operands] at oE oA oV oB oI hf <;> simp only [stp, hop] at he ⊢
  case move x => rw [oE x (by simp)]; exact he
  case assign x => rw [oE x (by simp)]; exact he
  case pick k x y => rw [oB k (by simp), oA x (by simp), oA y (by simp)]; exact he
  case alloc t => exact he
  case box t x => rw [oV x (by simp)]; exact he
  case build t ps =>
    have : qu (fun p : Nat × Operand => (evV fr' p.2).bind fun v => some (p.1, v)) ps.toList = qu (fun p : Nat × Operand => (evV fr p.2).bind fun v => some (p.1, v)) ps.toList :=
      qhQ fun i t h => hf t (by simp; exact ⟨i, by simpa using h⟩)
    rw [this]
    exact he
  case buildSlice t l ps =>
    have : qu (fun p : Nat × Operand => (evV fr' p.2).bind fun v => some (p.1, v)) ps.toList = qu (fun p : Nat × Operand => (evV fr p.2).bind fun v => some (p.1, v)) ps.toList :=
      qhQ fun i t h => hf t (by simp; exact ⟨i, by simpa using h⟩)
    rw [this]
    exact he
  case load t x =>
    rw [oA x (by simp)]
    simp only [Option.bind_eq_some_iff] at he ⊢
    obtain ⟨ti, e1, y, e2, he⟩ := he
    refine ⟨ti, e1, y, e2, ?_⟩
    split at he
    · simp only [Option.bind_eq_some_iff] at he ⊢
      obtain ⟨B, e3, el, e4, v, e5, he⟩ := he
      cases he
      exact ⟨B, by rw [hm _ (by simp), e3], el, e4, v, e5, rfl⟩
    · exact he
    · cases he
  case store t x y =>
    rw [oA x (by simp), oV y (by simp)]
    simp only [Option.bind_eq_some_iff] at he ⊢
    obtain ⟨ti, e1, v, e2, z, e3, he⟩ := he
    refine ⟨ti, e1, v, e2, z, e3, ?_⟩
    split at he
    · simp only [Option.bind_eq_some_iff] at he ⊢
      obtain ⟨B, e4, el, e5, he⟩ := he
      split at he
      · rename_i hc
        cases he
        exact ⟨B, by rw [hm _ (by simp), e4], el, e5, by rw [if_pos hc]⟩
      · cases he
    · cases he
  case nilCheck x => rw [oA x (by simp)]; exact he
  case binOp op t x y t2 => rw [qot (oE x (by simp)), oA x (by simp), oA y (by simp), oV y (by simp)]; exact he
  case unOp op t x => rw [oA x (by simp)]; exact he
  case convert s d x =>
    rw [oA x (by simp)]
    simp only [Option.bind_eq_some_iff] at he ⊢
    obtain ⟨y, e1, he⟩ := he
    refine ⟨y, e1, ?_⟩
    split at he
    · split at he
      · simp only [Option.bind_eq_some_iff] at he ⊢
        obtain ⟨q, e2, bs, e3, he⟩ := he
        cases he
        exact ⟨q, qkR e2 hm, bs, e3, rfl⟩
      · cases he
    · exact he
  case makeSlice t l k => rw [oI l (by simp), oI k (by simp)]; exact he
  case slice t x lo hi mx =>
    rw [oA x (by simp)]
    have hb1 : ∀ d, qcn fr' d lo = qcn fr d lo := fun d => qhP fun t ht => hf t (by simp [ht])
    have hb2 : ∀ d, qcn fr' d hi = qcn fr d hi := fun d => qhP fun t ht => hf t (by simp [ht])
    simp only [hb1, hb2]
    split at he
    · cases he
    · rename_i hmx
      rw [if_neg hmx]
      simp only [Option.bind_eq_some_iff] at he ⊢
      obtain ⟨td, e1, y, e2, he⟩ := he
      refine ⟨td, e1, y, e2, ?_⟩
      split at he
      · exact he
      · exact he
      · simp only [Option.bind_eq_some_iff] at he ⊢
        obtain ⟨te, e3, B, e4, l, b1, r, b2, he⟩ := he
        split at he
        · rename_i hc
          cases he
          exact ⟨te, e3, B, by rw [hm _ (by simp), e4], l, b1, r, b2, by rw [if_pos hc]⟩
        · cases he
      · cases he
  case fieldAddr s x f => rw [oA x (by simp)]; exact he
  case field s x f => rw [oV x (by simp)]; exact he
  case indexAddr t x i =>
    rw [oA x (by simp), oI i (by simp)]
    split at he
    · simp only [Option.bind_eq_some_iff] at he ⊢
      obtain ⟨te, e1, iv, e2, y, e3, he⟩ := he
      refine ⟨te, e1, iv, e2, y, e3, ?_⟩
      split at he
      · exact he
      · simp only [Option.bind_eq_some_iff] at he ⊢
        obtain ⟨B, e4, he⟩ := he
        split at he
        · rename_i hc
          cases he
          exact ⟨B, by rw [hm _ (by simp), e4], by rw [if_pos hc]⟩
        · cases he
      · cases he
    · cases he
  case index t x i => rw [qot (oE x (by simp)), oA x (by simp), oI i (by simp)]; exact he
  case extract x i => rw [oE x (by simp)]; exact he
  case call k =>
    obtain ⟨callee, args, ats⟩ := k
    have hargs : ∀ x, x ∈ args.toList → x ∈ (Call.operands ⟨callee, args, ats⟩).toList := by
      intro x hx
      simp only [Call.operands, Array.toList_append, List.mem_append]
      exact .inr hx
    have harg : ∀ (i : Nat) (x : Operand), args[i]? = some x → x ∈ args.toList := by
      intro i x hx
      exact List.mem_of_getElem? (i := i) (by simpa using hx)
    have hb : ∀ i : Nat, ((args[i]?).bind fun o => evA fr' o) = (args[i]?).bind fun o => evA fr o := by
      intro i
      cases hx : args[i]? with
      | none => rfl
      | some x => exact oA x (hargs x (harg i x hx))
    cases callee with
    | value f =>
      simp only at he ⊢
      have hfm : f ∈ (Call.operands ⟨.value f, args, ats⟩).toList := by simp [Call.operands]
      rw [oA f hfm]
      simp only [Option.bind_eq_some_iff] at he ⊢
      obtain ⟨fa, e1, he⟩ := he
      refine ⟨fa, e1, ?_⟩
      split at he
      · simp only [Option.bind_eq_some_iff] at he ⊢
        obtain ⟨as, e2, he⟩ := he
        refine ⟨as, ?_, qoI he hm⟩
        rw [← e2]
        exact qdC fun x hx => oV x (hargs x hx)
      · cases he
    | invoke r m => cases he
    | builtin b =>
      cases b <;> simp only at he ⊢ <;> first | (cases he; done) | skip
      case len => rw [hb 0]; exact he
      case min => rw [hb 0, hb 1]; exact he
      case max => rw [hb 0, hb 1]; exact he
      case append =>
        rw [hb 0, hb 1]
        simp only [Option.bind_eq_some_iff] at he ⊢
        obtain ⟨t, e1, t', e2, s, e3, x, e4, he⟩ := he
        refine ⟨t, e1, t', e2, s, e3, x, e4, ?_⟩
        split at he
        · rename_i hq
          rw [if_pos hq]
          exact qlP he hm
        · cases he
  all_goals cases he

end
end Go.Proofs.Ytbhnafdmilfobaa.Am

/- Rows of operations whose order is drawn: whatever order is drawn, the state is the one of the text's order. -/
set_option linter.unusedVariables false
set_option linter.unusedSimpArgs false
namespace Go.Proofs.Ytbhnafdmilfobaa.Am
open Go

def qbb {β : Type} (L : Nat → Bool) (f : Nat → Option β) (init : Option β) : Nat → Option β
  | 0 => init
  | i + 1 => if L i then (match f i with | some x => some x | none => qbb L f init i) else qbb L f init i

theorem qqK {β : Type} {L : Nat → Bool} {f : Nat → Option β} {init : Option β} {j : Nat} (h1 : ∀ i, i < j → f i ≠ none → L i = true) :
    ∀ n, j ≤ n → (∀ k, j ≤ k → k < n → f k ≠ none → L k = false) → qbb L f init n = qbb (fun _ => true) f init j := by
  have base : ∀ i, i ≤ j → qbb L f init i = qbb (fun _ => true) f init i := by
    intro i
    induction i with
    | zero => intro _; rfl
    | succ i ih =>
      intro hi
      simp only [qbb, if_true]
      rw [ih (by omega)]
      cases hf : f i with
      | none => simp
      | some x => rw [h1 i (by omega) (by rw [hf]; simp)]; simp
  intro n
  induction n with
  | zero =>
    intro hj _
    have : j = 0 := by omega
    subst this
    rfl
  | succ n ih =>
    intro hj h2
    rcases Nat.eq_or_lt_of_le hj with hq | hq
    · rw [← hq]; exact base j (Nat.le_refl _)
    · simp only [qbb]
      rw [ih (by omega) fun k hk hk2 hf => h2 k hk (by omega) hf]
      cases hf : f n with
      | none => simp
      | some x => rw [h2 n (by omega) (by omega) (by rw [hf]; simp)]; simp

theorem qfz {β : Type} {L L' : Nat → Bool} {f : Nat → Option β} {init : Option β} : ∀ n, (∀ i, i < n → f i ≠ none → L i = L' i) → qbb L f init n = qbb L' f init n := by
  intro n
  induction n with
  | zero => intro _; rfl
  | succ n ih =>
    intro h
    simp only [qbb]
    rw [ih fun i hi hf => h i (by omega) hf]
    cases hf : f n with
    | none => simp
    | some x => rw [h n (by omega) (by rw [hf]; simp)]

theorem qow {β : Type} {L : Nat → Bool} {f : Nat → Option β} {init : Option β} {j : Nat} {x : β} (hj : L j = true) (hx : f j = some x) :
    ∀ n, j < n → (∀ k, j < k → k < n → f k ≠ none → L k = false) → qbb L f init n = some x := by
  intro n
  induction n with
  | zero => intro h _; omega
  | succ n ih =>
    intro h h2
    simp only [qbb]
    rcases Nat.eq_or_lt_of_le h with hq | hq
    · have : j = n := by omega
      subst this
      rw [hj, hx]
      simp
    · rw [ih (by omega) fun k hk hk2 hf => h2 k hk (by omega) hf]
      cases hf : f n with
      | none => simp
      | some y => rw [h2 n (by omega) (by omega) (by rw [hf]; simp)]; simp

section
variable {P : Program} {n : Nat} {w0 : World} {M0 : Bool → Nat → Prop} {U : Nat → Prop} {ι ι' ι0 : Io} {h h1 h2 h0 : Hp} {fr fr' : List (Nat × Sv)} {mem mem' : Mem} {a : Act} {w w' : World} {p : Nat}
  {c : Cfg} {callF : FuncId → List Vl → List Blk → Option (List Vl × List Blk)} {o : Oper} {nx : Nat} {e : Eff}

structure Rec where
  v : Sv
  upd : Mem
  rd : List Nat

def qoN (c : Cfg) (callF : FuncId → List Vl → List Blk → Option (List Vl × List Blk)) (nt : Nat) (ops : List Oper) (o : Oper) (σ σ' : St) (r : Rec) : Prop :=
  ((qdc ops o σ.fr = some true ∧ stp c callF o σ.fr σ.mem σ.nx = some { v := r.v, upd := r.upd, nn := σ'.nx, rd := r.rd }) ∨
   (qdc ops o σ.fr = some false ∧ r = { v := .u, upd := [], rd := [] } ∧ σ'.nx = σ.nx)) ∧
  qen nt σ.fr o.dst r.v = some σ'.fr ∧ σ'.mem = qU σ.mem r.upd

theorem qqL {nt : Nat} {ops : List Oper} : ∀ (r : List Oper) (σ σ' : St) (is is' : List Info), qco c callF nt ops r σ is = some (σ', is') →
    ∃ (T : Nat → St) (R : Nat → Rec), T 0 = σ ∧ T r.length = σ' ∧ (∀ (i : Nat) (o : Oper), r[i]? = some o → qoN c callF nt ops o (T i) (T (i + 1)) (R i)) ∧
      is'.reverse = is.reverse ++ (List.range r.length).map fun i => ({ rd := (R i).rd, wr := (R i).upd.map (·.1) } : Info) := by
  intro r
  induction r with
  | nil =>
    intro σ σ' is is' h
    simp [qco] at h
    obtain ⟨rfl, rfl⟩ := h
    exact ⟨fun _ => σ, fun _ => ⟨.u, [], []⟩, rfl, rfl, by simp, by simp⟩
  | cons o r ih =>
    intro σ σ' is is' h
    simp only [qco] at h
    have fin : ∀ (σ1 : St) (rc : Rec), qoN c callF nt ops o σ σ1 rc → qco c callF nt ops r σ1 ({ rd := rc.rd, wr := rc.upd.map (·.1) } :: is) = some (σ', is') →
        ∃ (T : Nat → St) (R : Nat → Rec), T 0 = σ ∧ T (o :: r).length = σ' ∧ (∀ (i : Nat) (o' : Oper), (o :: r)[i]? = some o' → qoN c callF nt ops o' (T i) (T (i + 1)) (R i)) ∧
          is'.reverse = is.reverse ++ (List.range (o :: r).length).map fun i => ({ rd := (R i).rd, wr := (R i).upd.map (·.1) } : Info) := by
      intro σ1 rc hst hr
      obtain ⟨T, R, t1, t2, t3, t4⟩ := ih σ1 σ' _ is' hr
      refine ⟨fun i => match i with | 0 => σ | i + 1 => T i, fun i => match i with | 0 => rc | i + 1 => R i, rfl, by simpa using t2, ?_, ?_⟩
      · intro i o' hi
        cases i with
        | zero => simp at hi; subst hi; simp only [t1]; exact hst
        | succ i => simp at hi; exact t3 i o' hi
      · rw [t4]
        simp only [List.length_cons, List.range_succ_eq_map, List.map_cons, List.map_map, List.reverse_cons, List.append_assoc, List.singleton_append]
        rfl
    cases hw : qdc ops o σ.fr with
    | none => rw [hw] at h; simp [qeE] at h
    | some b =>
      rw [hw] at h
      cases b with
      | false =>
        simp only [qeE] at h
        cases hp : qen nt σ.fr o.dst .u with
        | none => rw [hp] at h; simp [qgC] at h
        | some f =>
          rw [hp] at h
          exact fin ⟨f, σ.mem, σ.nx⟩ ⟨.u, [], []⟩ ⟨.inr ⟨hw, rfl, rfl⟩, hp, rfl⟩ h
      | true =>
        simp only [qeE] at h
        cases hst : stp c callF o σ.fr σ.mem σ.nx with
        | none => rw [hst] at h; simp [qkV] at h
        | some e =>
          rw [hst] at h
          simp only [qkV] at h
          cases hp : qen nt σ.fr o.dst e.v with
          | none => rw [hp] at h; simp [qgC] at h
          | some f =>
            rw [hp] at h
            exact fin ⟨f, qU σ.mem e.upd, e.nn⟩ ⟨e.v, e.upd, e.rd⟩ ⟨.inl ⟨hw, hst⟩, hp, rfl⟩ h

inductive Reach (ops : List Oper) : Nat → Nat → Prop
  | edge {i j : Nat} {o : Oper} {e : Edge} (ho : ops[j]? = some o) (he : e ∈ o.after) (hb : Region.binds .any e = true) (hi : e.on = i) : Reach ops i j
  | step {i k j : Nat} {o : Oper} {e : Edge} (ho : ops[j]? = some o) (he : e ∈ o.after) (hb : Region.binds .any e = true) (hk : e.on = k) (hr : Reach ops i k) : Reach ops i j

theorem quk (acc : List Nat) (i : Nat) : ∀ (l : List Edge) (m : Nat), (l.foldl (fun m e => m ||| 2 ^ e.on ||| acc.getD e.on 0) m).testBit i = true →
    m.testBit i = true ∨ ∃ e ∈ l, e.on = i ∨ (acc.getD e.on 0).testBit i = true := by
  intro l
  induction l with
  | nil => intro m h; exact .inl h
  | cons e l ih =>
    intro m h
    rcases ih _ h with h | ⟨e', he', h⟩
    · simp only [Nat.testBit_or, Bool.or_eq_true, Nat.testBit_two_pow, decide_eq_true_eq] at h
      rcases h with (h | h) | h
      · exact .inl h
      · exact .inr ⟨e, List.mem_cons_self .., .inl h⟩
      · exact .inr ⟨e, List.mem_cons_self .., .inr h⟩
    · exact .inr ⟨e', List.mem_cons_of_mem _ he', h⟩

theorem qsT (ops : List Oper) : ∀ j i, ((qyz ops).getD j 0).testBit i = true → Reach ops i j := by
  have key : ∀ (r : List Oper) (k : Nat) (acc : List Nat), acc.length = k → ops.drop k = r → (∀ j i, (acc.getD j 0).testBit i = true → Reach ops i j) →
      ∀ j i, ((r.foldl (fun acc o => acc ++ [(o.after.toList.filter (Region.binds .any)).foldl (fun m e => m ||| 2 ^ e.on ||| acc.getD e.on 0) 0]) acc).getD j 0).testBit i = true → Reach ops i j := by
    intro r
    induction r with
    | nil => intro k acc _ _ h; exact h
    | cons o r ih =>
      intro k acc hl hd h
      have ho : ops[k]? = some o := by
        have := List.getElem?_drop (xs := ops) (i := k) (j := 0)
        rw [hd] at this
        simpa using this.symm
      refine ih (k + 1) _ (by simp [hl]) (by rw [← List.drop_drop, hd]; rfl) ?_
      intro j i hi
      rw [List.getD_eq_getElem?_getD, List.getElem?_append] at hi
      split at hi
      · exact h j i (by rw [List.getD_eq_getElem?_getD]; exact hi)
      · rename_i hj
        rcases Nat.eq_or_lt_of_le (Nat.le_of_not_lt hj) with hq | hq
        · rw [← hq] at hi
          simp only [Nat.sub_self, List.getElem?_cons_zero, Option.getD_some] at hi
          have hjk : j = k := by omega
          subst hjk
          rcases quk acc i _ _ hi with h0 | ⟨e, he, hi⟩
          · simp at h0
          · rw [List.mem_filter] at he
            obtain ⟨he, hb⟩ := he
            rcases hi with hi | hi
            · exact .edge ho (by simpa using he) hb hi
            · exact .step ho (by simpa using he) hb rfl (h _ _ hi)
        · rw [List.getElem?_eq_none (by simp; omega)] at hi
          simp at hi
  intro j i hi
  exact key ops 0 [] rfl rfl (by simp) j i hi

theorem Reach.listed {ops : List Oper} {L : Nat → Bool} (hd : ∀ j, L j = true → ∀ o, ops[j]? = some o → ∀ e ∈ o.after, Region.binds .any e = true → L e.on = true) {i j : Nat} (hr : Reach ops i j)
    (hj : ∀ o, ops[j]? = some o → ∀ e ∈ o.after, Region.binds .any e = true → L e.on = true) : L i = true := by
  induction hr with
  | edge ho he hb hi => rw [← hi]; exact hj _ ho _ he hb
  | step ho he hb hk hr ih =>
    have := hj _ ho _ he hb
    rw [hk] at this
    exact ih (hd _ this)

end
end Go.Proofs.Ytbhnafdmilfobaa.Am

/- Rows of operations whose order is drawn: every order drawn leaves the state of the text's order. -/
set_option linter.unusedVariables false
set_option linter.unusedSimpArgs false
namespace Go.Proofs.Ytbhnafdmilfobaa.Am
open Go

section
variable {P : Program} {n : Nat} {w0 : World} {M0 : Bool → Nat → Prop} {U : Nat → Prop} {ι ι' ι0 : Io} {h h1 h2 h0 : Hp} {fr fr' : List (Nat × Sv)} {mem mem' : Mem} {a : Act} {w w' : World} {p : Nat}
  {c : Cfg} {callF : FuncId → List Vl → List Blk → Option (List Vl × List Blk)} {o : Oper} {nx : Nat} {e : Eff}

theorem qul {v : Vl} (h : Am.val v nx = some e) : e.nn = nx := by
  simp only [Am.val, Option.some.injEq] at h; subst h; rfl
theorem qxX {v : Option At} (h : Am.valA v nx = some e) : e.nn = nx := by
  simp only [Am.valA, Option.bind_eq_some_iff] at h
  obtain ⟨x, _, h⟩ := h
  exact qul h

theorem qyG (he : stp c callF o fr mem nx = some e) : nx ≤ e.nn := by
  unfold stp at he
  split at he
  all_goals
    (repeat' first
      | (rw [qul he]; exact Nat.le_refl _)
      | (rw [qxX he]; exact Nat.le_refl _)
      | (cases he; first | exact Nat.le_refl _ | exact Nat.le_succ _)
      | (simp only [qdi, qeW] at he)
      | (unfold qvd at he)
      | (unfold qvc at he)
      | (unfold eqG at he)
      | (cases he; done)
      | (obtain ⟨_, _, he⟩ := he)
      | (simp only [Option.bind_eq_some_iff, Option.some.injEq] at he; obtain ⟨_, _, he⟩ := he)
      | (simp only [Option.some.injEq] at he; subst he; first | exact Nat.le_refl _ | exact Nat.le_succ _ | exact Nat.le_add_right _ _)
      | split at he
      | exact Nat.le_add_right _ _)

theorem qrM {ops : List Oper} (hf : ∀ t ∈ qfV ops o, lk fr' t = lk fr t) : qdc ops o fr' = qdc ops o fr := by
  unfold qdc
  cases hg : o.guard with
  | none => rfl
  | some jw =>
    obtain ⟨j, want⟩ := jw
    simp only
    cases hd : (ops[j]?).bind (·.dst) with
    | none => rfl
    | some d =>
      simp only [Option.bind_some]
      rw [hf d (by simp [qfV, hg, hd])]

theorem Sim.congr (hs : Sim n w0 M0 U ι h fr mem a w) (hf : ∀ t, lk fr' t = lk fr t) (hm : ∀ m, lk mem' m = lk mem m) : Sim n w0 M0 U ι h fr' mem' a w := by
  have hg : ∀ m, qk mem' m = qk mem m := fun m => by unfold qk; rw [hm m]
  exact { hs with
    hfr := fun t v e => hs.hfr t v (by rw [← hf]; exact e)
    hmem := fun m B e => hs.hmem m B (by rw [← hg]; exact e)
    hinj := fun m m' B B' L L' e e' => hs.hinj m m' B B' L L' (by rw [← hg]; exact e) (by rw [← hg]; exact e')
    hmut := fun m B L e => hs.hmut m B L (by rw [← hg]; exact e)
    hfrz := fun m B L e => hs.hfrz m B L (by rw [← hg]; exact e)
    hown := fun m B L e => hs.hown m B L (by rw [← hg]; exact e)
    hown2 := fun m B L e => hs.hown2 m B L (by rw [← hg]; exact e)
    hnm := fun t v e => hs.hnm t v (by rw [← hf]; exact e)
    hnb := fun m B e => hs.hnb m B (by rw [← hg]; exact e)
    hpr := fun m B e => hs.hpr m B (by rw [← hg]; exact e) }

def wF (ops : Array Oper) (R : Nat → Rec) (t i : Nat) : Option Sv := if ((ops[i]?).bind (·.dst)) = some t then some (R i).v else none
def wM (R : Nat → Rec) (m i : Nat) : Option (Option Blk) := lk (R i).upd.reverse m

structure Trace (c : Cfg) (callF : FuncId → List Vl → List Blk → Option (List Vl × List Blk)) (n : Nat) (ops : Array Oper) (T : Nat → St) (R : Nat → Rec) : Prop where
  step : ∀ (i : Nat) (o : Oper), ops[i]? = some o → qoN c callF n ops.toList o (T i) (T (i + 1)) (R i)
  clash : ∀ (i j : Nat) (o p : Oper), ops[i]? = some o → ops[j]? = some p → i < j → clash ops.toList o p ⟨(R i).rd, (R i).upd.map (·.1)⟩ ⟨(R j).rd, (R j).upd.map (·.1)⟩ = true → Reach ops.toList i j
  less : ∀ (j : Nat) (o : Oper) (e : Edge), ops[j]? = some o → e ∈ o.after → Region.binds .any e = true → e.on < j

section
variable {ops : Array Oper} {T : Nat → St} {R : Nat → Rec} {L : Nat → Bool}

theorem Trace.nx1 (ht : Trace c callF n ops T R) {i : Nat} (hi : i < ops.size) : (T i).nx ≤ (T (i + 1)).nx := by
  obtain ⟨hs, _, _⟩ := ht.step i ops[i] (by simp [hi])
  rcases hs with ⟨_, hs⟩ | ⟨_, _, hs⟩
  · exact qyG hs
  · omega
theorem Trace.nxs (ht : Trace c callF n ops T R) {i j : Nat} (hij : i ≤ j) (hj : j ≤ ops.size) : (T i).nx ≤ (T j).nx := by
  induction j with
  | zero => have : i = 0 := by omega
            subst this; exact Nat.le_refl _
  | succ j ih =>
    rcases Nat.eq_or_lt_of_le hij with h | h
    · subst h; exact Nat.le_refl _
    · exact Nat.le_trans (ih (by omega) (by omega)) (ht.nx1 (by omega))

theorem Trace.frs (ht : Trace c callF n ops T R) (t : Nat) : ∀ j, j ≤ ops.size → lk (T j).fr t = qbb (fun _ => true) (wF ops R t) (lk (T 0).fr t) j := by
  intro j
  induction j with
  | zero => intro _; rfl
  | succ j ih =>
    intro hj
    have hlt : j < ops.size := by omega
    obtain ⟨_, hp, _⟩ := ht.step j ops[j] (by simp [hlt])
    simp only [qbb, if_true, wF, Array.getElem?_eq_getElem hlt, Option.bind_some]
    cases hd : ops[j].dst with
    | none =>
      rw [hd] at hp
      simp only [qen, Option.some.injEq] at hp
      rw [← hp, ih (by omega)]
      simp
    | some d =>
      rw [hd] at hp
      simp only [qen] at hp
      split at hp
      · rw [← Option.some.inj hp, qdr]
        by_cases hdt : d = t
        · simp [hdt]
        · rw [if_neg hdt, ih (by omega)]
          simp [hdt]
      · cases hp
theorem Trace.mems (ht : Trace c callF n ops T R) (m : Nat) : ∀ j, j ≤ ops.size → lk (T j).mem m = qbb (fun _ => true) (wM R m) (lk (T 0).mem m) j := by
  intro j
  induction j with
  | zero => intro _; rfl
  | succ j ih =>
    intro hj
    have hlt : j < ops.size := by omega
    obtain ⟨_, _, hm⟩ := ht.step j ops[j] (by simp [hlt])
    rw [hm, qr5, ih (by omega)]
    simp only [qbb, if_true, wM]
    cases lk (R j).upd.reverse m <;> rfl

structure Down (ops : Array Oper) (L : Nat → Bool) : Prop where
  lt : ∀ i, L i = true → i < ops.size
  down : ∀ j, L j = true → ∀ o, ops[j]? = some o → ∀ e ∈ o.after, Region.binds .any e = true → L e.on = true

theorem qfA {β : Type} {l : List (Nat × β)} {m : Nat} (h : lk l.reverse m ≠ none) : m ∈ l.map (·.1) := by
  have : ∀ (l : List (Nat × β)), lk l m ≠ none → m ∈ l.map (·.1) := by
    intro l
    induction l with
    | nil => intro h; exact absurd rfl h
    | cons q r ih =>
      intro h
      rw [qdr] at h
      split at h
      · simp [*]
      · exact List.mem_cons_of_mem _ (ih h)
  have := this _ h
  simpa using this

theorem qkZ {xs ys : List Nat} {m : Nat} (h1 : m ∈ xs) (h2 : m ∈ ys) : qlG xs ys = true := by
  simp only [qlG, List.any_eq_true, List.contains_iff_mem]
  exact ⟨m, h1, h2⟩

theorem Trace.sees (ht : Trace c callF n ops T R) (hL : Down ops L) {j : Nat} {oj : Oper} (ho : ops[j]? = some oj) (hj : L j = false)
    (hr : ∀ e ∈ oj.after, Region.binds .any e = true → L e.on = true) :
    (∀ t ∈ qfV ops.toList oj, qbb L (wF ops R t) (lk (T 0).fr t) ops.size = lk (T j).fr t) ∧
    (∀ m ∈ (R j).rd, qbb L (wM R m) (lk (T 0).mem m) ops.size = lk (T j).mem m) := by
  have hlt : j < ops.size := (Array.getElem?_eq_some_iff.1 ho).1
  have hdn : ∀ i, Reach ops.toList i j → L i = true := fun i hi =>
    hi.listed (fun k hk o' ho' => hL.down k hk o' (by simpa using ho')) (fun o' ho' => by
      have : o' = oj := by have h1 : ops[j]? = some o' := by simpa using ho'
                           rw [ho] at h1; exact (Option.some.inj h1).symm
      subst this; exact hr)
  have hup : ∀ k, Reach ops.toList j k → L k = false := fun k hk => by
    cases hq : L k with
    | false => rfl
    | true =>
      have := hk.listed (L := L) (fun k hk o' ho' => hL.down k hk o' (by simpa using ho')) (fun o' ho' => hL.down k hq o' (by simpa using ho'))
      rw [hj] at this; cases this
  constructor
  · intro t htm
    rw [ht.frs t j (by omega)]
    have hw : ∀ k, k < ops.size → wF ops R t k ≠ none → ∃ ok, ops[k]? = some ok ∧ ok.dst = some t := by
      intro k hk hne
      unfold wF at hne
      split at hne
      · rename_i hd
        simp only [Option.bind_eq_some_iff] at hd
        exact hd
      · exact absurd rfl hne
    refine qqK (fun i hi hne => ?_) _ (by omega) fun k hk hk2 hne => ?_
    · obtain ⟨oi, e1, e2⟩ := hw i (by omega) hne
      refine hdn i (ht.clash i j oi oj e1 ho hi ?_)
      simp only [Am.clash, e2, List.contains_iff_mem.2 htm, Bool.true_or]
    · rcases Nat.eq_or_lt_of_le hk with rfl | hk
      · exact hj
      · obtain ⟨ok, e1, e2⟩ := hw k hk2 hne
        refine hup k (ht.clash j k oj ok ho e1 hk ?_)
        simp only [Am.clash, e2, List.contains_iff_mem.2 htm, Bool.true_or, Bool.or_true]
  · intro m hm
    rw [ht.mems m j (by omega)]
    refine qqK (fun i hi hne => ?_) _ (by omega) fun k hk hk2 hne => ?_
    · refine hdn i (ht.clash i j _ oj (Array.getElem?_eq_getElem (by omega)) ho hi ?_)
      simp only [Am.clash, qkZ (qfA hne) hm, Bool.true_or, Bool.or_true]
    · rcases Nat.eq_or_lt_of_le hk with rfl | hk
      · exact hj
      · refine hup k (ht.clash j k oj _ ho (Array.getElem?_eq_getElem hk2) hk ?_)
        simp only [Am.clash, qkZ hm (qfA hne), Bool.true_or, Bool.or_true]

theorem Trace.puts (ht : Trace c callF n ops T R) (hL : Down ops L) {j : Nat} {oj : Oper} (ho : ops[j]? = some oj) (hj : L j = false) {L' : Nat → Bool}
    (hL1 : L' j = true) (hL2 : ∀ i, i ≠ j → L' i = L i) :
    (∀ t, qbb L' (wF ops R t) (lk (T 0).fr t) ops.size = if oj.dst = some t then some (R j).v else qbb L (wF ops R t) (lk (T 0).fr t) ops.size) ∧
    (∀ m, qbb L' (wM R m) (lk (T 0).mem m) ops.size = (lk (R j).upd.reverse m).or (qbb L (wM R m) (lk (T 0).mem m) ops.size)) := by
  have hlt : j < ops.size := (Array.getElem?_eq_some_iff.1 ho).1
  have hup : ∀ k, j < k → Reach ops.toList j k → L' k = false := fun k hjk hk => by
    rw [hL2 k (by omega)]
    cases hq : L k with
    | false => rfl
    | true =>
      have := hk.listed (L := L) (fun k hk o' ho' => hL.down k hk o' (by simpa using ho')) (fun o' ho' => hL.down k hq o' (by simpa using ho'))
      rw [hj] at this; cases this
  constructor
  · intro t
    by_cases hd : oj.dst = some t
    · rw [if_pos hd]
      refine qow hL1 (by simp [wF, ho, hd]) _ hlt fun k hk hk2 hne => ?_
      unfold wF at hne
      split at hne
      · rename_i hdk
        simp only [Option.bind_eq_some_iff] at hdk
        obtain ⟨ok, e1, e2⟩ := hdk
        refine hup k hk (ht.clash j k oj ok ho e1 hk ?_)
        simp only [Am.clash, hd, e2, beq_self_eq_true, Bool.or_true, Bool.true_or]
      · exact absurd rfl hne
    · rw [if_neg hd]
      refine qfz _ fun i hi hne => hL2 i ?_
      rintro rfl
      simp [wF, ho, hd] at hne
  · intro m
    cases hm : lk (R j).upd.reverse m with
    | some x =>
      simp only [Option.some_or]
      refine qow hL1 hm _ hlt fun k hk hk2 hne => hup k hk (ht.clash j k oj _ ho (Array.getElem?_eq_getElem hk2) hk ?_)
      simp only [Am.clash, qkZ (qfA (show lk (R j).upd.reverse m ≠ none by rw [hm]; simp)) (qfA hne), Bool.true_or, Bool.or_true]
    | none =>
      simp only [Option.none_or]
      refine qfz _ fun i hi hne => hL2 i ?_
      rintro rfl
      exact hne hm

def Mid (n : Nat) (w0 : World) (M0 : Bool → Nat → Prop) (p : Nat) (ι0 : Io) (h0 : Hp) (ops : Array Oper) (T : Nat → St) (R : Nat → Rec) (L : Nat → Bool) (a : Act) (w : World) : Prop :=
  ∃ fr mem ι h, Sim n w0 M0 (fun m => m < (T 0).nx ∨ ∃ i, L i = true ∧ (T i).nx ≤ m ∧ m < (T (i + 1)).nx) ι h fr mem a w ∧ Hist w0 M0 p ι0 h0 ι h ∧
    (∀ t, lk fr t = qbb L (wF ops R t) (lk (T 0).fr t) ops.size) ∧ (∀ m, lk mem m = qbb L (wM R m) (lk (T 0).mem m) ops.size)

theorem Sim.ext {U' : Nat → Prop} (hs : Sim n w0 M0 U ι h fr mem a w) (hu : ∀ m, U m → U' m) : Sim n w0 M0 U' ι h fr mem a w := hs.weak hu

theorem Trace.next (hT : qb8 P c.T) (hC : qfF P callF) (ht : Trace c callF n ops T R) (hL : Down ops L) (hp : p ≤ (T 0).nx) {j : Nat} {oj : Oper} (ho : ops[j]? = some oj) (hj : L j = false)
    (hr : ∀ e ∈ oj.after, Region.binds .any e = true → L e.on = true) {L' : Nat → Bool} (hL1 : L' j = true) (hL2 : ∀ i, i ≠ j → L' i = L i)
    {Q : Exit → Act → World → Prop} {K : Act → World → Prop} (hK : ∀ a' w', Mid n w0 M0 p ι0 h0 ops T R L' a' w' → K a' w') (hc : Mid n w0 M0 p ι0 h0 ops T R L a w) : wpOp P ops Q j K a w := by
  have hlt : j < ops.size := (Array.getElem?_eq_some_iff.1 ho).1
  obtain ⟨fr, mem, ι, h, hs, hh, hf, hm⟩ := hc
  obtain ⟨s1, s2⟩ := ht.sees hL ho hj hr
  obtain ⟨p1, p2⟩ := ht.puts hL ho hj hL1 hL2
  obtain ⟨hst, hput, hmm⟩ := ht.step j oj ho
  unfold wpOp
  rw [ho]
  simp only
  have hw : qdc ops.toList oj fr = qdc ops.toList oj (T j).fr := qrM fun t htm => by rw [hf, s1 t htm]
  have hput' : ∀ v, v = (R j).v → ∃ f', qen n fr oj.dst v = some f' ∧ ∀ t, lk f' t = qbb L' (wF ops R t) (lk (T 0).fr t) ops.size := by
    rintro v rfl
    cases hd : oj.dst with
    | none =>
      refine ⟨fr, rfl, fun t => ?_⟩
      rw [p1, hd, hf]
      simp
    | some d =>
      rw [hd] at hput
      simp only [qen] at hput ⊢
      split at hput
      · rename_i hdn
        rw [if_pos hdn]
        refine ⟨_, rfl, fun t => ?_⟩
        rw [p1, hd, qdr, hf]
        simp
      · cases hput
  rcases hst with ⟨hwt, hst⟩ | ⟨hwt, hR, hnx⟩
  · rw [qhg hs (hw.trans hwt), if_pos rfl]
    left
    have he : stp c callF oj fr mem (T j).nx = some { v := (R j).v, upd := (R j).upd, nn := (T (j + 1)).nx, rd := (R j).rd } := by
      refine quj hst (fun t htm => ?_) fun m hmr => ?_
      · rw [hf]
        refine s1 t ?_
        simp only [qfV, List.mem_append, List.mem_filterMap]
        exact .inl ⟨_, htm, rfl⟩
      · unfold qk
        rw [hm, s2 m hmr]
    refine qqH hT hC hs (fun m h1 h2 h3 => ?_) he ?_
    · simp only at h2
      rcases h3 with h3 | ⟨i, hi, h3, h4⟩
      · have := ht.nxs (Nat.zero_le j) (by omega)
        omega
      · have hij : i ≠ j := by rintro rfl; rw [hj] at hi; cases hi
        have hil := hL.lt i hi
        rcases Nat.lt_or_ge i j with hq | hq
        · have := ht.nxs (show i + 1 ≤ j by omega) (by omega)
          omega
        · have := ht.nxs (show j + 1 ≤ i by omega) (by omega)
          omega
    · rintro u w' ⟨ι', h', n1, n2, n3, n4, n5, n6, n7⟩
      obtain ⟨f', e1, e2⟩ := hput' _ rfl
      refine hK _ _ ⟨f', qU mem (R j).upd, ι', h', ?_, ⟨hh.sub.trans n1, fun i hi => ?_, fun b hb hM => ?_⟩, e2, fun m => ?_⟩
      · refine (n3.put n4 n5 e1).weak fun m hm => ?_
        rcases hm with (hm | ⟨i, hi, hm⟩) | hm
        · exact .inl hm
        · exact .inr ⟨i, by rw [hL2 i (by rintro rfl; rw [hj] at hi; cases hi)]; exact hi, hm⟩
        · exact .inr ⟨j, hL1, hm⟩
      · have := ht.nxs (Nat.zero_le j) (by omega)
        rw [n2 i (by omega), hh.same i hi]
      · rw [n7 b hb hM, hh.view b hb hM]
      · rw [qr5, p2, hm]
  · rw [qhg hs (hw.trans hwt), if_neg (by simp)]
    obtain ⟨f', e1, e2⟩ := hput' .u (by rw [hR])
    refine hK _ _ ⟨f', mem, ι, h, ?_, hh, e2, fun m => ?_⟩
    · refine (hs.put (qqI ι h) (by simp [Sv.nms]) e1).weak fun m hm => ?_
      rcases hm with hm | ⟨i, hi, hm⟩
      · exact .inl hm
      · exact .inr ⟨i, by rw [hL2 i (by rintro rfl; rw [hj] at hi; cases hi)]; exact hi, hm⟩
    · rw [p2, hR, hm]
      simp [lk]

theorem Mid.last (ht : Trace c callF n ops T R) (hp : p ≤ (T 0).nx) (hL : ∀ i, i < ops.size → L i = true) (hL' : Down ops L) (hc : Mid n w0 M0 p ι0 h0 ops T R L a w) : Cnf n w0 M0 p ι0 h0 (T ops.size) a w := by
  obtain ⟨fr, mem, ι, h, hs, hh, hf, hm⟩ := hc
  have hx := ht.nxs (Nat.zero_le ops.size) (Nat.le_refl _)
  refine ⟨ι, h, ((hs.congr (fr' := (T ops.size).fr) (mem' := (T ops.size).mem) (fun t => ?_) fun m => ?_).weak fun m hm => ?_), hh, by omega⟩
  · rw [hf, ht.frs t _ (Nat.le_refl _)]
    exact (qfz _ fun i hi _ => hL i hi).symm
  · rw [hm, ht.mems m _ (Nat.le_refl _)]
    exact (qfz _ fun i hi _ => hL i hi).symm
  · rcases hm with hm | ⟨i, hi, _, hm⟩
    · omega
    · have := ht.nxs (show i + 1 ≤ ops.size from hL'.lt i hi) (Nat.le_refl _)
      omega

def left (ops : Array Oper) (listed : Array Bool) : Nat := ((List.range ops.size).filter fun i => !listed.getD i false).length

theorem qvs {listed : Array Bool} {j : Nat} (hz : listed.size = ops.size) (hj : j < ops.size) (hf : listed.getD j false = false) : left ops (listed.setIfInBounds j true) < left ops listed := by
  unfold left
  have hsub : ((List.range ops.size).filter fun i => !(listed.setIfInBounds j true).getD i false) = (((List.range ops.size).filter fun i => !listed.getD i false).filter fun i => i != j) := by
    rw [List.filter_filter]
    apply List.filter_congr
    intro i _
    by_cases hij : i = j
    · subst hij
      simp [hz, hj]
    · rw [getD_set_ne false (Ne.symm hij)]
      simp [hij]
  rw [hsub]
  have hmem : j ∈ (List.range ops.size).filter fun i => !listed.getD i false := by simp [List.mem_filter, hj]; simpa using hf
  have := List.length_filter_lt_length_iff_exists (p := fun i => i != j) (l := (List.range ops.size).filter fun i => !listed.getD i false)
  exact this.2 ⟨j, hmem, by simp⟩

theorem Trace.any (hT : qb8 P c.T) (hC : qfF P callF) (ht : Trace c callF n ops T R) (hp : p ≤ (T 0).nx) {Q : Exit → Act → World → Prop}
    (hQ : ∀ a' w', Cnf n w0 M0 p ι0 h0 (T ops.size) a' w' → Q .normal a' w') :
    ∀ (fuel : Nat) (listed : Array Bool) (a : Act) (w : World), listed.size = ops.size → left ops listed ≤ fuel → Down ops (fun i => listed.getD i false) →
      Mid n w0 M0 p ι0 h0 ops T R (fun i => listed.getD i false) a w → wpAny P .any ops Q fuel listed a w := by
  have all : ∀ (listed : Array Bool), listed.size = ops.size → Region.ready .any ops listed = [] → ∀ i, i < ops.size → listed.getD i false = true := by
    intro listed hz hr i
    induction i using Nat.strongRecOn with
    | ind i ih =>
      intro hi
      cases hq : listed.getD i false with
      | true => rfl
      | false =>
        have : i ∈ Region.ready .any ops listed := mem_ready.2 ⟨by
          have : i < listed.size := by omega
          simp [this] at hq ⊢
          exact hq, ops[i], by simp [hi], fun e he hb => ih _ (ht.less i ops[i] e (by simp [hi]) he hb) (Nat.lt_trans (ht.less i ops[i] e (by simp [hi]) he hb) hi)⟩
        rw [hr] at this
        cases this
  intro fuel
  induction fuel with
  | zero =>
    intro listed a w hz hl hd hc
    have hall : ∀ i, i < ops.size → listed.getD i false = true := by
      intro i hi
      have h0 : left ops listed = 0 := by omega
      unfold left at h0
      rw [List.length_eq_zero_iff, List.filter_eq_nil_iff] at h0
      have := h0 i (by simp [hi])
      simpa using this
    refine ⟨?_, hQ _ _ (hc.last ht hp hall hd)⟩
    rw [List.eq_nil_iff_forall_not_mem]
    intro i hi
    obtain ⟨h1, o', ho', _⟩ := mem_ready.1 hi
    have hlt : i < ops.size := (Array.getElem?_eq_some_iff.1 ho').1
    have := hall i hlt
    have hlt' : i < listed.size := by omega
    simp [hlt'] at this h1
    rw [this] at h1
    cases h1
  | succ fuel ih =>
    intro listed a w hz hl hd hc
    refine ⟨fun hr => hQ _ _ (hc.last ht hp (all listed hz hr) hd), fun j hj => ?_⟩
    obtain ⟨h1, oj, ho, he⟩ := mem_ready.1 hj
    have hlt : j < ops.size := (Array.getElem?_eq_some_iff.1 ho).1
    have hjf : listed.getD j false = false := by
      have hlt' : j < listed.size := by omega
      simp [hlt'] at h1 ⊢
      exact h1
    have hL1 : (listed.setIfInBounds j true).getD j false = true := by
      have hlt' : j < listed.size := by omega
      simp [hlt']
    have hL2 : ∀ i, i ≠ j → (listed.setIfInBounds j true).getD i false = listed.getD i false := fun i hi => getD_set_ne false (Ne.symm hi)
    refine ht.next hT hC hd hp ho hjf he (L' := fun i => (listed.setIfInBounds j true).getD i false) hL1 hL2 (fun a' w' hm => ih _ a' w' (by simp [hz]) ?_ ?_ hm) hc
    · have := qvs hz hlt hjf
      omega
    · refine ⟨fun i hi => ?_, fun i hi o' ho' e hee hb => ?_⟩
      · by_cases hij : i = j
        · subst hij; exact hlt
        · rw [hL2 i hij] at hi; exact hd.lt i hi
      · by_cases hij : i = j
        · subst hij
          rw [ho] at ho'
          cases ho'
          exact getD_set_true (he e hee hb)
        · rw [hL2 i hij] at hi
          exact getD_set_true (hd.down i hi o' ho' e hee hb)

theorem qsU (hT : qb8 P c.T) (hC : qfF P callF) (hm : P.follows .mixedOrders = true) {σ σ' : St} {is : List Info} {id : Nat} {Q : Exit → Act → World → Prop}
    (he : qco c callF n ops.toList ops.toList σ [] = some (σ', is)) (hd : qlH ops.toList is.reverse = true) (hc : Cnf n w0 M0 p ι0 h0 σ a w)
    (hQ : ∀ a' w', Cnf n w0 M0 p ι0 h0 σ' a' w' → Q .normal a' w') : (Code.region id ops true).wp P Q a w := by
  obtain ⟨T, R, t1, t2, t3, t4⟩ := qqL _ _ _ _ _ he
  subst t1
  simp only [List.reverse_nil, List.nil_append] at t4
  rw [t4] at hd
  simp only [qlH, Bool.and_eq_true, qr3, List.all_eq_true, List.mem_range] at hd
  obtain ⟨⟨_, hpairs⟩, hless⟩ := hd
  have ht : Trace c callF n ops T R := by
    refine ⟨fun i o ho => t3 i o (by simpa using ho), ?_, ?_⟩
    · intro i j o p ho hp hij hcl
      have hj : j < ops.size := (Array.getElem?_eq_some_iff.1 hp).1
      have := hpairs j (by simpa using hj) i hij
      have e1 : ops.toList[i]? = some o := by simpa using ho
      have e2 : ops.toList[j]? = some p := by simpa using hp
      rw [e1, e2] at this
      simp only [List.getElem?_map, List.getElem?_range (show i < ops.toList.length by simp; omega), List.getElem?_range (show j < ops.toList.length by simpa using hj), Option.map_some] at this
      rw [hcl] at this
      simp only [Bool.not_true, Bool.false_or] at this
      exact qsT _ _ _ this
    · intro j o e ho hee hb
      have hj : j < ops.size := (Array.getElem?_eq_some_iff.1 ho).1
      have h1 := hless (o, j) (by rw [List.mem_zipIdx_iff_getElem?]; simpa using ho)
      simp only [Array.all_eq_true_iff_forall_mem, Bool.or_eq_true, Bool.not_eq_true', decide_eq_true_eq] at h1
      rcases h1 e hee with h2 | h2
      · rw [hb] at h2; cases h2
      · exact h2
  obtain ⟨ι, h, hs, hh, hp⟩ := hc
  refine wp_region_any hm (ht.any hT hC hp (fun a' w' hc' => hQ a' w' (by rw [← t2]; simpa using hc')) _ _ _ _ (by simp) ?_ ?_ ?_)
  · unfold left
    exact Nat.le_trans (List.length_filter_le _ _) (by simp)
  · refine ⟨fun i hi => ?_, fun i hi => ?_⟩
    all_goals
      simp only [Array.getD_eq_getD_getElem?, Array.getElem?_replicate] at hi
      split at hi <;> simp at hi
  · refine ⟨(T 0).fr, (T 0).mem, ι, h, hs.drew.weak fun m hm => .inl hm, hh, fun t => ?_, fun m => ?_⟩
    all_goals
      have key : ∀ {β : Type} (f : Nat → Option β) (init : Option β) (k : Nat), qbb (fun i => (Array.replicate ops.size false).getD i false) f init k = init := by
        intro β f init k
        induction k with
        | zero => rfl
        | succ k ih =>
          have : (Array.replicate ops.size false).getD k false = false := by
            simp only [Array.getD_eq_getD_getElem?, Array.getElem?_replicate]
            split <;> rfl
          simp only [qbb, this]
          exact ih
      rw [key]
end
end
end Go.Proofs.Ytbhnafdmilfobaa.Am

/- Code: a loop's head keeps what is named; every code that the machine runs. -/
set_option linter.unusedVariables false
set_option linter.unusedSimpArgs false
namespace Go.Proofs.Ytbhnafdmilfobaa.Am
open Go

section
variable {P : Program} {n : Nat} {w0 : World} {M0 : Bool → Nat → Prop} {U : Nat → Prop} {ι ι' ι0 : Io} {h h1 h2 h0 : Hp} {fr fr' : List (Nat × Sv)} {mem mem' : Mem} {a : Act} {w w' : World} {p : Nat}
  {c : Cfg} {callF : FuncId → List Vl → List Blk → Option (List Vl × List Blk)} {o : Oper} {nx : Nat} {e : Eff}

theorem Sim.reword (hs : Sim n w0 M0 U ι h fr mem a w) {m : Nat} {B B' : Blk} (he : qk mem m = some B) (hes : B'.es = B.es) (hty : B'.ty = B.ty) (hfz : B'.fz = B.fz)
    (hnil : B.els = [] → B'.els = []) (hr : ∀ C, RBs ι h C B.es B.els → RBs ι h C B'.es B'.els) (hn : ∀ m' ∈ B'.nms, U m') (hp : B'.pr = true → ∀ e ∈ B'.els, ∀ x ∈ e, x.pr = true) :
    Sim n w0 M0 U ι h fr (qcq mem (m, some B')) a w := by
  have hh : ∀ x B1, qk (qcq mem (m, some B')) x = some B1 → (x = m ∧ B1 = B') ∨ (x ≠ m ∧ qk mem x = some B1) := by
    intro x B1 e
    rw [qbc] at e
    by_cases hx : m = x
    · rw [if_pos hx] at e; exact .inl ⟨hx.symm, by simpa using e.symm⟩
    · rw [if_neg hx] at e; exact .inr ⟨Ne.symm hx, e⟩
  have hh2 : ∀ x B1, qk (qcq mem (m, some B')) x = some B1 → ∃ B2, qk mem x = some B2 ∧ B1.fz = B2.fz := by
    intro x B1 e
    rcases hh x B1 e with ⟨rfl, rfl⟩ | ⟨hx, e'⟩
    · exact ⟨B, he, hfz⟩
    · exact ⟨B1, e', rfl⟩
  refine { hs with hmem := ?_, hinj := ?_, hmut := ?_, hfrz := ?_, hown := ?_, hown2 := ?_, hnb := ?_, hpr := ?_ }
  · intro x B1 e
    rcases hh x B1 e with ⟨rfl, rfl⟩ | ⟨hx, e'⟩
    · have hb := hs.hmem x B he
      unfold RB at hb ⊢
      cases hL : ι x with
      | none => rw [hL] at hb; exact hnil hb
      | some L =>
        rw [hL] at hb
        obtain ⟨C, q1, q2, q3, q4⟩ := hb
        exact ⟨C, by rw [q1, hty], q2, by rw [q3, hes], hr C q4⟩
    · exact hs.hmem x B1 e'
  · intro x y B1 B2 L1 L2 e1 e2
    obtain ⟨B3, f1, _⟩ := hh2 x B1 e1
    obtain ⟨B4, f2, _⟩ := hh2 y B2 e2
    exact hs.hinj x y B3 B4 L1 L2 f1 f2
  · intro x B1 L e hz
    obtain ⟨B2, f1, f2⟩ := hh2 x B1 e
    exact hs.hmut x B2 L f1 (by rw [← f2]; exact hz)
  · intro x B1 L e hz
    obtain ⟨B2, f1, f2⟩ := hh2 x B1 e
    exact hs.hfrz x B2 L f1 (by rw [← f2]; exact hz)
  · intro x B1 L e hz
    obtain ⟨B2, f1, f2⟩ := hh2 x B1 e
    exact hs.hown x B2 L f1 (by rw [← f2]; exact hz)
  · intro x B1 L e
    obtain ⟨B2, f1, f2⟩ := hh2 x B1 e
    exact hs.hown2 x B2 L f1
  · intro x B1 e
    rcases hh x B1 e with ⟨rfl, rfl⟩ | ⟨hx, e'⟩
    · exact ⟨(hs.hnb x B he).1, hn⟩
    · exact hs.hnb x B1 e'
  · intro x B1 e hq
    rcases hh x B1 e with ⟨rfl, rfl⟩ | ⟨hx, e'⟩
    · exact hp hq
    · exact hs.hpr x B1 e' hq

theorem qhi (hs : Sim n w0 M0 (fun m => m < nx) ι h fr mem a w) {x : At} {v : Value} (hr : RA ι h x v) (hn : ∀ m ∈ x.nm, m < nx) :
    nx ≤ (qc0 nx x).2.2 ∧ Sim n w0 M0 (fun m => m < (qc0 nx x).2.2) ι h fr (qU mem (qc0 nx x).2.1) a w ∧ RA ι h (qc0 nx x).1 v ∧ ∀ m ∈ (qc0 nx x).1.nm, m < (qc0 nx x).2.2 := by
  have same : (qc0 nx x) = (x, [], nx) → _ := fun (e : qc0 nx x = (x, [], nx)) => (show nx ≤ (qc0 nx x).2.2 ∧ Sim n w0 M0 (fun m => m < (qc0 nx x).2.2) ι h fr (qU mem (qc0 nx x).2.1) a w ∧ RA ι h (qc0 nx x).1 v ∧ ∀ m ∈ (qc0 nx x).1.nm, m < (qc0 nx x).2.2 by
    rw [e]; exact ⟨Nat.le_refl _, hs, hr, hn⟩)
  cases x with
  | snil es ty =>
    simp only [qc0, qU]
    have h1 := hs.nameNil nx (by simp) { els := [], es := es, ty := ty, pr := true, fz := false } rfl
    refine ⟨by omega, h1.weak fun m hm => by rcases hm with hm | hm <;> omega, ?_, by simp [At.nm]⟩
    have hr : RP h _ _ := hr
    cases hr
    refine .inr ⟨?_, rfl, rfl, rfl⟩
    cases hL : ι nx with
    | none => rfl
    | some L => have := (hs.hdom nx L hL).1; simp at this
  | _ => exact same rfl

theorem qfP : ∀ {cs : List At} {nx : Nat} {mem : Mem} {us : List Value}, Sim n w0 M0 (fun m => m < nx) ι h fr mem a w → RL ι h cs us → (∀ x ∈ cs, ∀ m ∈ x.nm, m < nx) →
    nx ≤ (qdM nx cs).2.2 ∧ Sim n w0 M0 (fun m => m < (qdM nx cs).2.2) ι h fr (qU mem (qdM nx cs).2.1) a w ∧ RL ι h (qdM nx cs).1 us ∧ ∀ x ∈ (qdM nx cs).1, ∀ m ∈ x.nm, m < (qdM nx cs).2.2 := by
  intro cs
  induction cs with
  | nil => intro nx mem us hs hr hn; exact ⟨Nat.le_refl _, hs, hr, hn⟩
  | cons x r ih =>
    intro nx mem us hs hr hn
    cases us with
    | nil => exact absurd hr.1 (by simp)
    | cons u us =>
      have hx : RA ι h x u := by obtain ⟨u', e1, e2⟩ := hr.2 0 x rfl; simp at e1; subst e1; exact e2
      have hr' : RL ι h r us := ⟨by simpa using hr.1, fun j y e => by simpa using hr.2 (j + 1) y (by simpa using e)⟩
      obtain ⟨a1, a2, a3, a4⟩ := qhi hs hx (hn x (List.mem_cons_self ..))
      obtain ⟨b1, b2, b3, b4⟩ := ih a2 hr' fun y hy m hm => Nat.lt_of_lt_of_le (hn y (List.mem_cons_of_mem _ hy) m hm) a1
      simp only [qdM]
      refine ⟨Nat.le_trans a1 b1, by rw [qc4]; exact b2, RL.cons a3 b3, fun y hy m hm => ?_⟩
      rcases List.mem_cons.1 hy with rfl | hy
      · exact Nat.lt_of_lt_of_le (a4 m hm) b1
      · exact b4 y hy m hm

def qi5 (ι : Io) (h : Hp) (a : Act) (k : Nat) (frs : List (Nat × Sv)) : Prop := ∀ p ∈ frs, ∃ x u, p.2 = .v x ∧ a.tmps[p.1]? = some u ∧ RV ι h x u ∧ ∀ m ∈ qg [x], m < k
theorem qi5.mono {k k' : Nat} {frs : List (Nat × Sv)} (hs : qi5 ι h a k frs) (hk : k ≤ k') : qi5 ι h a k' frs := fun q hq => by
  obtain ⟨x, u, q1, q2, q3, q4⟩ := hs q hq
  exact ⟨x, u, q1, q2, q3, fun m hm => Nat.lt_of_lt_of_le (q4 m hm) hk⟩

theorem qrN {σ : St} (hs : Sim n w0 M0 (fun m => m < σ.nx) ι h σ.fr σ.mem a w) : ∀ {ks : List Kp} {q : List (Nat × Sv) × Mem × Nat}, qe5 σ ks = some q →
    σ.nx ≤ q.2.2 ∧ Sim n w0 M0 (fun m => m < q.2.2) ι h σ.fr (qU σ.mem q.2.1) a w ∧ qi5 ι h a q.2.2 q.1 := by
  intro ks
  induction ks with
  | nil => intro q e; cases e; exact ⟨Nat.le_refl _, hs, fun p hp => by cases hp⟩
  | cons k r ih =>
    intro q e
    cases k with
    | s t =>
      simp only [qe5, Option.bind_eq_some_iff] at e
      obtain ⟨q0, e0, e⟩ := e
      obtain ⟨i1, i2, i3⟩ := ih e0
      split at e
      · rename_i x hl
        cases e
        obtain ⟨u, f1, f2⟩ := i2.hfr t _ hl
        obtain ⟨a1, a2, a3, a4⟩ := qhi i2 (x := x) (v := u) f2 fun m hm => i2.hnm t _ hl m (by simpa [Sv.nms, qg, Vl.cells] using hm)
        refine ⟨Nat.le_trans i1 a1, by simp only; rw [qc4]; exact a2, fun q hq => ?_⟩
        rcases List.mem_cons.1 hq with rfl | hq
        · exact ⟨_, u, rfl, f1, a3, fun m hm => a4 m (by simpa [qg, Vl.cells] using hm)⟩
        · exact i3.mono a1 q hq
      · rename_i cs hl
        cases e
        obtain ⟨u, f1, f2⟩ := i2.hfr t _ hl
        obtain ⟨A, rfl, f3⟩ : RV ι h (.g cs) u := f2
        obtain ⟨a1, a2, a3, a4⟩ := qfP i2 f3 fun x hx m hm => i2.hnm t _ hl m (by simp only [Sv.nms, qg, Vl.cells, List.flatMap_cons, List.flatMap_nil, List.append_nil, List.mem_flatMap]; exact ⟨x, hx, hm⟩)
        refine ⟨Nat.le_trans i1 a1, by simp only; rw [qc4]; exact a2, fun q hq => ?_⟩
        rcases List.mem_cons.1 hq with rfl | hq
        · refine ⟨_, _, rfl, f1, ⟨A, rfl, a3⟩, fun m hm => ?_⟩
          simp only [qg, Vl.cells, List.flatMap_cons, List.flatMap_nil, List.append_nil, List.mem_flatMap] at hm
          obtain ⟨x, hx, hm⟩ := hm
          exact a4 x hx m hm
        · exact i3.mono a1 q hq
      · cases e
    | b t =>
      simp only [qe5, Option.bind_eq_some_iff] at e
      obtain ⟨q0, e0, e⟩ := e
      obtain ⟨i1, i2, i3⟩ := ih e0
      split at e
      · rename_i m o hl
        simp only [Option.bind_eq_some_iff] at e
        obtain ⟨B, e1, e⟩ := e
        split at e
        · rename_i el hel
          cases e
          obtain ⟨u, f1, f2⟩ := i2.hfr t _ hl
          have hL0 : ∃ L, ι m = some L := by obtain ⟨L, hL, _⟩ : RA ι h (.ptr m 0 o) u := f2; exact ⟨L, hL⟩
          obtain ⟨L, hL⟩ := hL0
          have hb := i2.hmem m B e1
          unfold RB at hb
          rw [hL] at hb
          obtain ⟨C, c1, c2, c3, c4⟩ := hb
          -- the cells' values
          have hcells : ∀ C, RBs ι h C B.es B.els → ∃ us : List Value, RL ι h el us ∧ ∀ j u, us[j]? = some u → j < el.length → C[0 * B.es + j]? = some u := by
            intro C hC
            obtain ⟨k1, k2⟩ := hC 0 el (by rw [hel]; rfl)
            refine ⟨(List.range el.length).map fun j => (C[0 * B.es + j]?).getD undef, ⟨by simp, fun j x hx => ?_⟩, fun j u hu hj => ?_⟩
            · obtain ⟨u, g1, g2⟩ := k2 j x hx
              have hj : j < el.length := by
                rcases Nat.lt_or_ge j el.length with h' | h'
                · exact h'
                · rw [List.getElem?_eq_none (by omega)] at hx; cases hx
              exact ⟨u, by simp [hj]; simpa using congrArg (·.getD undef) g1, g2⟩
            · simp [hj] at hu
              obtain ⟨u', g1, g2⟩ := k2 j el[j] (List.getElem?_eq_getElem hj)
              rw [g1]
              simp at g1
              rw [g1] at hu
              simpa using hu
          obtain ⟨us, r1, r2⟩ := hcells C c4
          have hnm : ∀ x ∈ el, ∀ m' ∈ x.nm, m' < q0.2.2 := fun x hx m' hm' => (i2.hnb m B e1).2 m' (by
            simp only [Blk.nms, List.mem_flatMap]; exact ⟨el, by rw [hel]; simp, x, hx, hm'⟩)
          obtain ⟨a1, a2, a3, a4⟩ := qfP i2 r1 hnm
          have hkeep : ∀ (cs : List At) (k : Nat) (mem : Mem), m < k → qk (qU mem (qdM k cs).2.1) m = qk mem m := by
            intro cs
            induction cs with
            | nil => intro k mem _; rfl
            | cons x r ih =>
              intro k mem hk
              simp only [qdM, qc4]
              have h1 : k ≤ (qc0 k x).2.2 := by cases x <;> simp [qc0]
              rw [ih _ _ (Nat.lt_of_lt_of_le hk h1)]
              cases x <;> simp only [qc0, qU]
              rw [qbc, if_neg (by omega)]
          have hmm : m < q0.2.2 := (i2.hnb m B e1).1
          have e1' := (hkeep el q0.2.2 (qU σ.mem q0.2.1) hmm).trans e1
          have a5 := a2.reword (B' := { B with els := [(qdM q0.2.2 el).1], pr := (qdM q0.2.2 el).1.all At.pr }) e1' rfl rfl rfl (by rw [hel]; simp)
            (fun C hC => by
              obtain ⟨us, r1, r2⟩ := hcells C hC
              obtain ⟨_, _, b3, _⟩ := qfP i2 r1 hnm
              have hlen := (hC 0 el (by rw [hel]; rfl)).1
              intro i e' he'
              cases i with
              | succ i => simp at he'
              | zero =>
                simp at he'
                subst he'
                refine ⟨by rw [b3.1, ← r1.1, hlen], fun j x hx => ?_⟩
                obtain ⟨u, g1, g2⟩ := b3.2 j x hx
                have hj : j < el.length := by
                  rw [r1.1]
                  exact (List.getElem?_eq_some_iff.1 g1).1
                exact ⟨u, r2 j u g1 hj, g2⟩)
            (fun m' hm' => by
              simp only [Blk.nms, List.flatMap_cons, List.flatMap_nil, List.append_nil, List.mem_flatMap] at hm'
              obtain ⟨x, hx, hm'⟩ := hm'
              exact a4 x hx m' hm')
            (fun hq e he x hx => by
              simp only [List.mem_singleton] at he
              subst he
              exact List.all_eq_true.1 hq x hx)
          refine ⟨Nat.le_trans i1 a1, ?_, fun q hq => ?_⟩
          · simp only
            rw [qc4, qc4]
            exact a5
          · rcases List.mem_cons.1 hq with rfl | hq
            · exact ⟨_, u, rfl, f1, f2, fun m' hm' => by simp [qg, Vl.cells, At.nm] at hm'; subst hm'; exact Nat.lt_of_lt_of_le hmm a1⟩
            · exact i3.mono a1 q hq
        · cases e
      · cases e

theorem qsV {ρ : Nat → Option Nat} {k k' : Nat} {ι' : Io} : ∀ {frs fr' : List (Nat × Sv)}, qi5 ι h a k frs → qkW ρ frs = some fr' → (∀ m m', ρ m = some m' → ι' m' = ι m ∧ m' < k') →
    ∀ t v, lk fr' t = some v → ∃ u, a.tmps[t]? = some u ∧ RS ι' h v u ∧ ∀ m ∈ v.nms, m < k' := by
  intro frs
  induction frs with
  | nil => intro fr' _ e _ t v hl; cases e; cases hl
  | cons q r ih =>
    intro fr' hs e hρ t v hl
    obtain ⟨t0, v0⟩ := q
    obtain ⟨x, u, q1, q2, q3, q4⟩ := hs _ (List.mem_cons_self ..)
    simp only at q1 q2
    subst q1
    simp only [qkW, Option.bind_eq_some_iff] at e
    obtain ⟨y, e1, s, e2, e⟩ := e
    cases e
    rw [qdr] at hl
    split at hl
    · rename_i ht
      cases hl
      subst ht
      refine ⟨u, q2, q3.ren e1 fun m m' hq => (hρ m m' hq).1, fun m hm => ?_⟩
      obtain ⟨m0, _, hq⟩ := qr8 e1 m hm
      exact (hρ m0 m hq).2
    · exact ih (fun q hq => hs q (List.mem_cons_of_mem _ hq)) e2 hρ t v hl

theorem qsW (bs : List Blk) (m : Nat) : qk (qdY (List.range bs.length) bs) m = bs[m]? := by
  have key : ∀ (bs : List Blk) (k : Nat), qk (qdY (List.range' k bs.length) bs) m = if k ≤ m then bs[m - k]? else none := by
    intro bs
    induction bs with
    | nil => intro k; simp [qdY, qk, lk]
    | cons b bs ih =>
      intro k
      simp only [List.length_cons, List.range'_succ, qdY]
      unfold qk
      rw [qdr]
      by_cases hk : k = m
      · subst hk; simp
      · rw [if_neg hk]
        have := ih (k + 1)
        unfold qk at this
        rw [this]
        by_cases h2 : k ≤ m
        · rw [if_pos (by omega), if_pos h2]
          have : m - k = (m - (k + 1)) + 1 := by omega
          rw [this]
          rfl
        · rw [if_neg (by omega), if_neg h2]
  have := key bs 0
  rw [List.range_eq_range']
  rw [this]
  simp

theorem Mm.sim {bs : List Blk} (hm : Mm ι h w bs) (hι : ∀ i L, ι i = some L → i < bs.length) (hsize : a.tmps.size = n) (hd : a.defers = [])
    (hf : ∀ t v, lk fr t = some v → ∃ u, a.tmps[t]? = some u ∧ RS ι h v u ∧ ∀ m ∈ v.nms, m < bs.length)
    (hown : ∀ (i : Nat) (B : Blk) (L : Loc), bs[i]? = some B → B.fz = false → ι i = some L → w0.heap.size ≤ L.b ∨ M0 false L.b)
    (hown2 : ∀ (i : Nat) (B : Blk) (L : Loc), bs[i]? = some B → ι i = some L → w0.heap.size ≤ L.b ∨ M0 true L.b)
    (hframe : ∀ b, b < w0.heap.size → ¬ M0 false b → w.heap[b]? = w0.heap[b]?) (hgrow : w0.heap.size ≤ w.heap.size) (hos : w.os = w0.os) (htape : w.tape = w0.tape) (hout : w.output = w0.output)
    (hmem : ∀ m, qk mem m = bs[m]?) : Sim n w0 M0 (fun m => m < bs.length) ι h fr mem a w := by
  have hlt : ∀ {i : Nat} {B : Blk}, bs[i]? = some B → i < bs.length := fun {i B} e => (List.getElem?_eq_some_iff.1 e).1
  refine { hsize := hsize, hdefers := hd, hfr := fun t v e => let ⟨u, q1, q2, _⟩ := hf t v e; ⟨u, q1, q2⟩, hmem := ?_, hinj := ?_, hsub := hm.sub, hmut := ?_, hfrz := ?_, hown := ?_, hown2 := ?_,
           hframe := hframe, hgrow := hgrow, hos := hos, htape := htape, houtput := hout, hnm := fun t v e => let ⟨_, _, _, q3⟩ := hf t v e; q3, hnb := ?_, hdom := ?_, hpr := ?_ }
  · intro m B e; rw [hmem] at e; exact hm.rb m B e
  · intro m m' B B' L L' e e' l l' hq; rw [hmem] at e e'; exact hm.inj m m' B B' L L' e e' l l' hq
  · intro m B L e hz l; rw [hmem] at e; exact hm.mut' m B L e hz l
  · intro m B L e hz l; rw [hmem] at e; exact hm.frz m B L e hz l
  · intro m B L e hz l; rw [hmem] at e; exact hown m B L e hz l
  · intro m B L e l; rw [hmem] at e; exact hown2 m B L e l
  · intro m B e; rw [hmem] at e; exact ⟨hlt e, hm.nm m B e⟩
  · intro m L l
    have := hι m L l
    exact ⟨this, hm.dom m _ L (List.getElem?_eq_getElem this) l⟩
  · intro m B e; rw [hmem] at e; exact hm.pr m B e

theorem qrO {ks : List Kp} {σ σ' : St} (e : qfy p ks σ = some σ') (hc : Cnf n w0 M0 p ι0 h0 σ a w) : Cnf n w0 M0 p ι0 h0 σ' a w := by
  obtain ⟨ι, h, hs, hh, hp⟩ := hc
  unfold qfy at e
  simp only [Option.bind_eq_some_iff] at e
  obtain ⟨q, e1, fr', e2, bs, e3, e⟩ := e
  split at e
  · rename_i hNp
    cases e
    obtain ⟨i1, i2, i3⟩ := qrN hs e1
    generalize hN : clo (qdh (qU σ.mem q.2.1)) 64 (List.range p ++ qg (q.1.filterMap fun s => match s.2 with | .v x => some x | _ => none)) [] = N at *
    have hNd : N.Nodup := by rw [← hN]; exact qhN _ _ _ _ List.nodup_nil
    have hpN : p ≤ N.length := by
      have := congrArg List.length hNp
      simp at this
      omega
    obtain ⟨hmm, hbl, hbf⟩ := qhf i2 i2 (Fzn.refl _) (Sub.refl h) hNd (cv := true) (fun hq => by cases hq) (bs := bs) (by simpa using e3)
    have hlt : ∀ {i m : Nat}, N[i]? = some m → i < N.length := fun {i m} e => (List.getElem?_eq_some_iff.1 e).1
    refine ⟨fun j => (N[j]?).bind ι, h, ?_, ⟨hh.sub, fun i hi => ?_, hh.view⟩, hpN⟩
    · simp only
      rw [← hbl]
      refine hmm.sim ?_ i2.hsize i2.hdefers ?_ ?_ ?_ i2.hframe i2.hgrow i2.hos i2.htape i2.houtput (qsW bs)
      · intro i L hL
        rw [hbl]
        simp only [Option.bind_eq_some_iff] at hL
        obtain ⟨m, h1, _⟩ := hL
        exact hlt h1
      · refine qsV i3 e2 fun m m' hq => ?_
        have := qeH hq
        refine ⟨by simp [this], by rw [hbl]; exact hlt this⟩
      · intro i B L hB hz hL
        obtain ⟨m, B1, k1, k2, k3⟩ := hbf i B hB
        simp only [k1, Option.bind_some] at hL
        exact i2.hown m B1 L k2 (by rw [← k3]; exact hz) hL
      · intro i B L hB hL
        obtain ⟨m, B1, k1, k2, k3⟩ := hbf i B hB
        simp only [k1, Option.bind_some] at hL
        exact i2.hown2 m B1 L k2 hL
    · have : N[i]? = some i := by
        have h1 : (N.take p)[i]? = (List.range p)[i]? := by rw [hNp]
        rw [List.getElem?_take, if_pos hi, List.getElem?_range hi] at h1
        exact h1
      simp only [this, Option.bind_some]
      exact hh.same i hi
  · cases e

def qqM : Out → Exit
  | .norm _ => .normal
  | .exit i _ => .exit i
  | .ret _ => .ret
def qG7 : Out → St
  | .norm σ => σ
  | .exit _ σ => σ
  | .ret σ => σ

theorem qr9 {F : St → Option Out} {r : Option Out} {out : Out} (e : qfY F r = some out) : (∃ σ, r = some (.norm σ) ∧ F σ = some out) ∨ (r = some out ∧ qqM out ≠ .normal) := by
  cases r with
  | none => cases e
  | some o =>
    cases o with
    | norm σ => exact .inl ⟨σ, rfl, e⟩
    | exit i σ => cases e; exact .inr ⟨rfl, by simp [qqM]⟩
    | ret σ => cases e; exact .inr ⟨rfl, by simp [qqM]⟩

theorem qlQ {K : Act → World → Prop} {Q : Exit → Act → World → Prop} {e : Exit} (he : e ≠ .normal) (hq : Q e a w) : Exit.then K Q e a w := by
  cases e <;> first | exact hq | exact absurd rfl he

theorem qsX (hT : qb8 P c.T) (hC : qfF P callF) (hmo : P.follows .mixedOrders = true) {kp : Nat → List Kp} {k : Nat} :
    ∀ (code : Code) (b : Nat) (σ : St) (out : Out) (Q : Exit → Act → World → Prop) (a : Act) (w : World), qaX c callF kp n k p b code σ = some out → Cnf n w0 M0 p ι0 h0 σ a w →
      (∀ a' w', Cnf n w0 M0 p ι0 h0 (qG7 out) a' w' → Q (qqM out) a' w') → code.wp P Q a w := by
  intro code
  induction code with
  | skip => intro b σ out Q a w e hc hQ; simp only [qaX] at e; cases e; exact wp_skip (hQ _ _ hc)
  | region id ops draw =>
    intro b σ out Q a w e hc hQ
    simp only [qaX] at e
    cases hr : qco c callF n ops.toList ops.toList σ [] with
    | none => rw [hr] at e; cases e
    | some r =>
      obtain ⟨σ', is⟩ := r
      rw [hr] at e
      simp only [qve] at e
      cases draw with
      | false =>
        simp only [Bool.false_and] at e
        cases e
        refine wp_region ?_
        have := qqJ hT hC (ops := ops) (Q := Q) ops.toList 0 σ σ' [] is a w rfl hc hr hQ
        rw [List.range_eq_range']
        simpa using this
      | true =>
        simp only [Bool.true_and] at e
        split at e
        · cases e
        · rename_i hd
          cases e
          exact qsU hT hC hmo hr (by simpa using hd) hc hQ
  | seq x y ihx ihy =>
    intro b σ out Q a w e hc hQ
    simp only [qaX] at e
    refine wp_seq ?_
    rcases qr9 e with ⟨σ1, h1, h2⟩ | ⟨h1, h2⟩
    · exact ihx b σ _ _ a w h1 hc fun a' w' hc' => ihy b σ1 out Q a' w' h2 hc' hQ
    · exact ihx b σ _ _ a w h1 hc fun a' w' hc' => qlQ h2 (hQ a' w' hc')
  | cond o x y ihx ihy =>
    intro b σ out Q a w e hc hQ
    simp only [qaX] at e
    cases ht : evB σ.fr o with
    | none => rw [ht] at e; cases e
    | some t =>
      rw [ht] at e
      obtain ⟨ι, h, hs, hh, hp⟩ := hc
      refine wp_cond (hs.evB ht) ?_
      cases t with
      | true => exact ihx b σ out Q a w e ⟨ι, h, hs, hh, hp⟩ hQ
      | false => exact ihy b σ out Q a w e ⟨ι, h, hs, hh, hp⟩ hQ
  | block id x ih =>
    intro b σ out Q a w e hc hQ
    simp only [qaX] at e
    refine wp_block ?_
    cases hr : qaX c callF kp n k p id x σ with
    | none => rw [hr] at e; cases e
    | some o =>
      rw [hr] at e
      refine ih id σ o _ a w hr hc fun a' w' hc' => ?_
      cases o with
      | norm σ' => cases e; exact hQ a' w' hc'
      | ret σ' => cases e; exact hQ a' w' hc'
      | exit i σ' =>
        simp only [qnO] at e
        simp only [qqM, Exit.inBlock]
        split at e
        · cases e; rw [if_pos ‹_›]; exact hQ a' w' hc'
        · cases e; rw [if_neg ‹_›]; exact hQ a' w' hc'
  | loop x ih =>
    intro b σ out Q a w e hc hQ
    simp only [qaX] at e
    refine wp_loop_rounds k ?_
    suffices h : ∀ (k' : Nat) (σ : St) (a : Act) (w : World), qgp (qfy p (kp b)) (qaX c callF kp n k p b x) k' σ = some out → Cnf n w0 M0 p ι0 h0 σ a w → Code.rounds P x Q k' a w from h k σ a w e hc
    intro k'
    induction k' with
    | zero => intro σ a w e; cases e
    | succ k' ih2 =>
      intro σ a w e hc
      simp only [qgp] at e
      rw [rounds_succ]
      cases hh : qfy p (kp b) σ with
      | none => rw [hh] at e; cases e
      | some σ1 =>
        rw [hh] at e
        simp only [hdK] at e
        have hc1 := qrO hh hc
        rcases qr9 e with ⟨σ2, h1, h2⟩ | ⟨h1, h2⟩
        · exact ih b σ1 _ _ a w h1 hc1 fun a' w' hc' => ih2 σ2 a' w' h2 hc'
        · exact ih b σ1 _ _ a w h1 hc1 fun a' w' hc' => qlQ h2 (hQ a' w' hc')
  | exit id => intro b σ out Q a w e hc hQ; simp only [qaX] at e; cases e; exact wp_exit (hQ _ _ hc)
  | ret => intro b σ out Q a w e hc hQ; simp only [qaX] at e; cases e; exact wp_ret (hQ _ _ hc)
  | _ => intro b σ out Q a w e hc hQ; simp only [qaX] at e; cases e

end
end Go.Proofs.Ytbhnafdmilfobaa.Am

/- Functions: what the machine's call says, the program's call does. -/
set_option linter.unusedVariables false
set_option linter.unusedSimpArgs false
namespace Go.Proofs.Ytbhnafdmilfobaa.Am
open Go

section
variable {P : Program} {n : Nat} {w0 : World} {M0 : Bool → Nat → Prop} {U : Nat → Prop} {ι ι' ι0 : Io} {h h1 h2 h0 : Hp} {fr fr' : List (Nat × Sv)} {mem mem' : Mem} {a : Act} {w w' : World} {p : Nat}
  {c : Cfg} {callF : FuncId → List Vl → List Blk → Option (List Vl × List Blk)} {o : Oper} {nx : Nat} {e : Eff}

def qqN (tmps : Array Value) : ResultVar → Sem Value
  | .tmp t => pure (tmps.getD t undef)
  | .cell a t => do loadVar t (← asAddr (tmps.getD a undef))

theorem qrP (hT : qb8 P c.T) {σ : St} (hs : Sim n w0 M0 U ι h σ.fr σ.mem a w) {r : ResultVar} {v : Vl} (e : qgq c σ r = some v) :
    ∃ u, (qqN a.tmps r).run P w = .ok u w ∧ RV ι h v u ∧ ∀ m ∈ qg [v], U m := by
  cases r with
  | tmp t =>
    obtain ⟨q1, q2⟩ := hs.evV e
    exact ⟨_, rfl, q1, q2⟩
  | cell x t =>
    simp only [qgq, Option.bind_eq_some_iff] at e
    obtain ⟨ti, e1, y, e2, e⟩ := e
    obtain ⟨hr, hn⟩ := hs.evA e2
    split at e
    · rename_i m i o'
      simp only [Option.bind_eq_some_iff] at e
      obtain ⟨B, e3, el, e4, e5⟩ := e
      obtain ⟨L, hL, hx⟩ := hr
      have hb := hs.hmem m B e3
      unfold RB at hb
      rw [hL] at hb
      obtain ⟨C, h1, h2, h3, h4⟩ := hb
      obtain ⟨u, r1, r2, r3⟩ := qhc (hT t ti e1) e5 (off := i * B.es) h1 (h4 i el e4).2
      refine ⟨u, ?_, r2, ?_⟩
      · have hx' : a.tmps.getD x undef = .pointer (some ⟨L.b, i * L.es + o', none⟩) := hx
        simp [qqN, hx', asAddr, h3, r1]
      · intro m' hm'
        obtain ⟨z, hz, hm'⟩ := r3 m' hm'
        refine (hs.hnb m B e3).2 m' ?_
        simp only [Blk.nms, List.mem_flatMap]
        exact ⟨el, List.mem_of_getElem? e4, z, hz, hm'⟩
    · cases e

theorem qoJ (hT : qb8 P c.T) {fn : Func} {σ : St} (hs : Sim n w0 M0 U ι h σ.fr σ.mem a w) {rs : List Vl} (e : qu (qgq c σ) fn.results.toList = some rs) :
    ∃ us : Array Value, (results fn a.tmps).run P w = .ok (qgr us) w ∧ RVs ι h rs us.toList ∧ ∀ m ∈ qg rs, U m := by
  have key : ∀ (l : List ResultVar) (rs : List Vl), qu (qgq c σ) l = some rs → ∃ us : List Value, (l.mapM (qqN a.tmps)).run P w = .ok us w ∧ RVs ι h rs us ∧ ∀ m ∈ qg rs, U m := by
    intro l
    induction l with
    | nil => intro rs e; cases e; exact ⟨[], by simp, ⟨rfl, by simp⟩, by simp [qg]⟩
    | cons r l ih =>
      intro rs e
      simp only [qu, Option.bind_eq_some_iff] at e
      obtain ⟨v, e1, vs, e2, e⟩ := e
      cases e
      obtain ⟨u, q1, q2, q3⟩ := qrP hT hs e1
      obtain ⟨us, r1, r2, r3⟩ := ih vs e2
      refine ⟨u :: us, by simp [List.mapM_cons, q1, r1], ⟨by simp [r2.1], fun j x hj => ?_⟩, fun m hm => ?_⟩
      · cases j with
        | zero => simp at hj; subst hj; exact ⟨u, rfl, q2⟩
        | succ j => simp at hj; simpa using r2.2 j x hj
      · obtain ⟨x, hx, hm2⟩ := qa6.1 hm
        rcases List.mem_cons.1 hx with rfl | hx
        · exact q3 m hm2
        · exact r3 m (qa6.2 ⟨x, hx, hm2⟩)
  obtain ⟨us, k1, k2, k3⟩ := key _ _ e
  refine ⟨us.toArray, ?_, by simpa using k2, k3⟩
  have : results fn a.tmps = (do let vs ← fn.results.mapM (qqN a.tmps); pure (qgr vs)) := by
    unfold results qqN qgr
    congr 1
  rw [this, Array.mapM_eq_mapM_toList]
  simp [k1]

theorem qrQ : ∀ {rs : List Vl} {nx : Nat} {mem : Mem} {us : List Value}, Sim n w0 M0 (fun m => m < nx) ι h fr mem a w → RVs ι h rs us → (∀ m ∈ qg rs, m < nx) →
    nx ≤ (qbE nx rs).2.2 ∧ Sim n w0 M0 (fun m => m < (qbE nx rs).2.2) ι h fr (qU mem (qbE nx rs).2.1) a w ∧ RVs ι h (qbE nx rs).1 us ∧ ∀ m ∈ qg (qbE nx rs).1, m < (qbE nx rs).2.2 := by
  intro rs
  induction rs with
  | nil => intro nx mem us hs hr hn; exact ⟨Nat.le_refl _, hs, hr, hn⟩
  | cons x r ih =>
    intro nx mem us hs hr hn
    cases us with
    | nil => exact absurd hr.1 (by simp)
    | cons u us =>
      have hx : RV ι h x u := by obtain ⟨u', e1, e2⟩ := hr.2 0 x rfl; simp at e1; subst e1; exact e2
      have hr' : RVs ι h r us := ⟨by simpa using hr.1, fun j y e => by simpa using hr.2 (j + 1) y (by simpa using e)⟩
      have hn1 : ∀ m ∈ qg [x], m < nx := fun m hm => hn m (qa6.2 ⟨x, List.mem_cons_self .., hm⟩)
      have hn2 : ∀ m ∈ qg r, m < nx := fun m hm => by
        obtain ⟨y, hy, hm⟩ := qa6.1 hm
        exact hn m (qa6.2 ⟨y, List.mem_cons_of_mem _ hy, hm⟩)
      have fin : ∀ (y : Vl) (k : Nat) (u1 : Mem), nx ≤ k → Sim n w0 M0 (fun m => m < k) ι h fr (qU mem u1) a w → RV ι h y u → (∀ m ∈ qg [y], m < k) → qbE nx (x :: r) = (y :: (qbE k r).1, u1 ++ (qbE k r).2.1, (qbE k r).2.2) →
          nx ≤ (qbE nx (x :: r)).2.2 ∧ Sim n w0 M0 (fun m => m < (qbE nx (x :: r)).2.2) ι h fr (qU mem (qbE nx (x :: r)).2.1) a w ∧ RVs ι h (qbE nx (x :: r)).1 (u :: us) ∧ ∀ m ∈ qg (qbE nx (x :: r)).1, m < (qbE nx (x :: r)).2.2 := by
        intro y k u1 hk hs1 hy hny eq
        obtain ⟨b1, b2, b3, b4⟩ := ih hs1 hr' fun m hm => Nat.lt_of_lt_of_le (hn2 m hm) hk
        rw [eq]
        refine ⟨Nat.le_trans hk b1, by simp only; rw [qc4]; exact b2, ⟨by simp [b3.1], fun j z e => ?_⟩, fun m hm => ?_⟩
        · cases j with
          | zero => simp at e; subst e; exact ⟨u, rfl, hy⟩
          | succ j => simp at e; simpa using b3.2 j z e
        · obtain ⟨z, hz, hm2⟩ := qa6.1 hm
          rcases List.mem_cons.1 hz with rfl | hz
          · exact Nat.lt_of_lt_of_le (hny m hm2) b1
          · exact b4 m (qa6.2 ⟨z, hz, hm2⟩)
      cases x with
      | a x =>
        obtain ⟨a1, a2, a3, a4⟩ := qhi hs (x := x) hx fun m hm => hn1 m (by simpa [qg, Vl.cells] using hm)
        exact fin (.a (qc0 nx x).1) _ _ a1 a2 a3 (fun m hm => a4 m (by simpa [qg, Vl.cells] using hm)) rfl
      | g cs =>
        obtain ⟨A, rfl, f3⟩ := hx
        obtain ⟨a1, a2, a3, a4⟩ := qfP hs f3 fun x hx m hm => hn1 m (by simp only [qg, Vl.cells, List.flatMap_cons, List.flatMap_nil, List.append_nil, List.mem_flatMap]; exact ⟨x, hx, hm⟩)
        refine fin (.g (qdM nx cs).1) _ _ a1 a2 ⟨A, rfl, a3⟩ (fun m hm => ?_) rfl
        simp only [qg, Vl.cells, List.flatMap_cons, List.flatMap_nil, List.append_nil, List.mem_flatMap] at hm
        obtain ⟨x, hx, hm⟩ := hm
        exact a4 x hx m hm

def qlR (ι : Io) (blks : List Blk) : Bool → Nat → Prop
  | false => qhd ι blks
  | true => fun b => ∃ (j : Nat) (B0 : Blk) (L0 : Loc), blks[j]? = some B0 ∧ ι j = some L0 ∧ L0.b = b

theorem qhR (hT : qb8 P c.T) {f : FuncId} {fn : Func} {blks : List Blk} {σ : St} {rs : List Vl} {bs : List Blk} (e : qgP c f fn blks.length σ = some (rs, bs))
    (hι : ∀ i, i < blks.length → ι0 i = ι i) (hc : Cnf n w0 (qlR ι blks) blks.length ι0 h0 σ a w) :
    a.defers = [] ∧ ∃ us : Array Value, (results fn a.tmps).run P w = .ok (qgr us) w ∧ ∃ ι' h', Post ι h0 w0 blks rs bs us.toList w ι' h' := by
  obtain ⟨ι1, h, hs, hh, hp⟩ := hc
  unfold qgP at e
  simp only [Option.bind_eq_some_iff] at e
  obtain ⟨rs0, e1, rs1, e2, rs2, e3, bs2, e4, e⟩ := e
  obtain ⟨us, hres, hrv, hrn⟩ := qoJ hT hs e1
  refine ⟨hs.hdefers, us, hres, ?_⟩
  generalize hN : clo (fun m => if c.mutA f = true then qdh (qU σ.mem (if c.ownR f = true then qbE σ.nx rs0 else (rs0, [], σ.nx)).2.1) m else qe4 (qU σ.mem (if c.ownR f = true then qbE σ.nx rs0 else (rs0, [], σ.nx)).2.1) m) 64 (List.range blks.length ++ qg rs1) [] = N at *
  have hNd : N.Nodup := by rw [← hN]; exact qhN _ _ _ _ List.nodup_nil
  clear hN
  split at e
  · rename_i hNp
    cases e
    generalize hq : (if c.ownR f = true then qbE σ.nx rs0 else (rs0, [], σ.nx)) = q at *
    -- the results' qgu
    have hown : Sim n w0 (qlR ι blks) (fun m => m < q.2.2) ι1 h σ.fr (qU σ.mem q.2.1) a w ∧ RVs ι1 h q.1 us.toList := by
      rw [← hq]
      split
      · obtain ⟨_, a2, a3, _⟩ := qrQ hs hrv hrn
        exact ⟨a2, a3⟩
      · exact ⟨hs, hrv⟩
    obtain ⟨hs1, hrv1⟩ := hown
    generalize hF : ((if c.ownR f = true then [] else qfX rs0) ++ if c.mutA f = true then [] else N.flatMap (qdp (qU σ.mem q.2.1))) = F at *
    obtain ⟨h1, s1, s2, s3, s4, s5⟩ := Sim.freezeL F hs1 (Fzn.refl _)
    have hpN : blks.length ≤ N.length := by
      have := congrArg List.length hNp
      simp at this
      omega
    have hvF : c.mutA f = false → Vw ι1 (qU σ.mem q.2.1) w h1 (N.flatMap (qdp (qU σ.mem q.2.1))) := by
      intro hm
      rw [← hF] at s2
      simp only [hm] at s2
      exact fun m hm => s2 m (List.mem_append_right _ hm)
    have hvals : RVs ι1 h1 rs1 us.toList := by
      split at e2
      · cases e2; exact hrv1.mono s1 fun _ _ => rfl
      · rename_i hm
        have hq' : q = (rs0, [], σ.nx) := by rw [← hq, if_neg hm]
        subst hq'
        rw [← hF] at s2
        simp only [if_neg hm] at s2
        exact (qkP hs1 s1 (fun m hm' => s2 m (List.mem_append_left _ hm')) hrv1 e2).1
    obtain ⟨hmm, hbl, hbf⟩ := qhf hs1 s4 s5 s1 hNd (cv := c.mutA f) hvF e4
    have hlt : ∀ {i m : Nat}, N[i]? = some m → i < N.length := fun {i m} e => (List.getElem?_eq_some_iff.1 e).1
    refine ⟨fun j => (N[j]?).bind ι1, h1, hvals.ren e3 (fun m m' hq => by simp [qeH hq]), ?_, hh.sub.trans s1, by rw [hbl]; exact hpN, ?_, hmm, ?_, ?_, ?_, ?_, ?_, ?_, ?_, ?_⟩
    · intro m hm
      obtain ⟨m', _, hq⟩ := qe6 e3 m hm
      rw [hbl]
      exact hlt (qeH hq)
    · intro i hi
      have : N[i]? = some i := by
        have h1 : (N.take blks.length)[i]? = (List.range blks.length)[i]? := by rw [hNp]
        rw [List.getElem?_take, if_pos hi, List.getElem?_range hi] at h1
        exact h1
      simp only [this, Option.bind_some]
      rw [hh.same i hi, hι i hi]
    · intro i B L hB hz hL
      obtain ⟨m, B1, k1, k2, k3⟩ := hbf i B hB
      simp only [k1, Option.bind_some] at hL
      exact s4.hown m B1 L k2 (by rw [← k3]; exact hz) hL
    · intro i B L hB hL
      obtain ⟨m, B1, k1, k2, k3⟩ := hbf i B hB
      simp only [k1, Option.bind_some] at hL
      exact s4.hown2 m B1 L k2 hL
    · exact s4.hframe
    · intro b hb hnl
      have hnl' : ¬ qlR ι blks false b := hnl
      rw [← hh.view b hb hnl']
      by_cases hx : ∃ m ∈ F, ∃ B L, qk (qU σ.mem q.2.1) m = some B ∧ ι1 m = some L ∧ L.b = b
      · obtain ⟨m, hm, B, L, k1, k2, rfl⟩ := hx
        rw [s2 m hm B L k1 k2]
        cases hz : B.fz with
        | false =>
          rcases hs1.hown m B L k1 hz k2 with h' | h'
          · omega
          · exact absurd h' hnl'
        | true => exact (hs1.hfrz m B L k1 hz k2).symm
      · exact s3 b fun m hm B L k1 k2 hq => hx ⟨m, hm, B, L, k1, k2, hq⟩
    · exact s4.hgrow
    · exact s4.hos
    · exact s4.htape
    · exact s4.houtput
  · cases e

theorem qsa {β : Type} : ∀ (l : List β) (k t : Nat), lk (qdq k l) t = if k ≤ t then l[t - k]? else none := by
  intro l
  induction l with
  | nil => intro k t; simp [qdq, lk]
  | cons x l ih =>
    intro k t
    simp only [qdq, qdr, ih]
    by_cases hk : k = t
    · subst hk; simp
    · rw [if_neg hk]
      by_cases h2 : k ≤ t
      · rw [if_pos (by omega), if_pos h2]
        have : t - k = (t - (k + 1)) + 1 := by omega
        rw [this]
        rfl
      · rw [if_neg (by omega), if_neg h2]

theorem Mm.cut {bs : List Blk} (hm : Mm ι h w bs) (hι : ∀ i, i < bs.length → ι' i = ι i) : Mm ι' h w bs := by
  have hlt : ∀ {i : Nat} {B : Blk}, bs[i]? = some B → i < bs.length := fun {i B} e => (List.getElem?_eq_some_iff.1 e).1
  refine ⟨fun i B e => ?_, hm.nm, ?_, hm.sub, ?_, ?_, ?_, hm.pr⟩
  · have := hm.rb i B e
    unfold RB at this ⊢
    rw [hι i (hlt e)]
    cases hL : ι i with
    | none => rw [hL] at this; exact this
    | some L =>
      rw [hL] at this
      obtain ⟨C, q1, q2, q3, q4⟩ := this
      exact ⟨C, q1, q2, q3, q4.mono (Sub.refl h) fun m hm' => hι m (hm.nm i B e m hm')⟩
  · intro i j B B' L L' e e' l l'
    rw [hι i (hlt e)] at l
    rw [hι j (hlt e')] at l'
    exact hm.inj i j B B' L L' e e' l l'
  · intro i B L e hz l; rw [hι i (hlt e)] at l; exact hm.mut' i B L e hz l
  · intro i B L e hz l; rw [hι i (hlt e)] at l; exact hm.frz i B L e hz l
  · intro i B L e l; rw [hι i (hlt e)] at l; exact hm.dom i B L e l

structure CfgOk (P : Program) (c : Cfg) : Prop where
  ty : qb8 P c.T
  fn : ∀ f fn, c.F f = some fn → P.funcs[f]? = some fn ∧ (fn.name == "runtime.NumGoroutine") = false
  ext : ∀ f g args rs, c.X f = some g → g args = some rs → qud P f ∧ ∀ (w : World) (ι : Io) (h : Hp) (vals : Array Value), RVs ι h args vals.toList → (∀ m ∈ qg args, m < 0) → Mm ι h w [] →
    Calls P f vals w fun e w' => ∃ (us : Array Value) (ι' : Io) (h' : Hp), e = .returned (qgr us) ∧ Post ι h w [] rs [] us.toList w' ι' h'
  mo : P.follows .mixedOrders = true

theorem qsY (hk : CfgOk P c) : ∀ k, qfF P (call c k) := by
  intro k
  induction k with
  | zero => intro f args blks rs bs e; cases e
  | succ k ih =>
    intro f args blks rs bs e
    simp only [call] at e
    cases hX : c.X f with
    | some g =>
      rw [hX] at e
      simp only at e
      split at e
      · rename_i hb
        have hb : blks = [] := by simpa using hb
        subst hb
        simp only [Option.bind_eq_some_iff] at e
        obtain ⟨rs', e1, e⟩ := e
        cases e
        obtain ⟨x1, x2⟩ := hk.ext f g args rs hX e1
        exact ⟨x1, fun w ι h vals hv hn hm => x2 w ι h vals hv hn hm⟩
      · cases e
    | none =>
      rw [hX] at e
      simp only [Option.bind_eq_some_iff] at e
      obtain ⟨fn, e1, e⟩ := e
      obtain ⟨hf, hname⟩ := hk.fn f fn e1
      cases hbody : fn.body with
      | none => rw [hbody] at e; cases e
      | some body =>
        rw [hbody] at e
        simp only [qsJ] at e
        split at e
        · rename_i hlen
          refine ⟨⟨fn, hf, hname, by rw [hbody]; rfl⟩, fun w ι h vals hv hn hm => ?_⟩
          refine calls_of_wp hf hbody ?_
          have hvs : vals.size = args.length := by have := hv.1; simpa using this.symm
          let ι0 : Io := fun m => if m < blks.length then ι m else none
          have hι0 : ∀ i, i < blks.length → ι0 i = ι i := fun i hi => if_pos hi
          have hsim : Cnf fn.ntmps w (qlR ι blks) blks.length ι0 h { fr := qdq 0 (args.map Sv.v), mem := qdq 0 (blks.map some), nx := blks.length } { tmps := vals ++ Array.replicate (fn.ntmps - vals.size) undef, defers := [] } w := by
            refine ⟨ι0, h, (hm.cut hι0).sim ?_ ?_ rfl ?_ ?_ ?_ (fun _ _ _ => rfl) (Nat.le_refl _) rfl rfl rfl ?_, ⟨Sub.refl h, fun _ _ => rfl, fun _ _ _ => rfl⟩, Nat.le_refl _⟩
            · intro i L hL
              by_cases hi : i < blks.length
              · exact hi
              · have : ι0 i = none := if_neg hi
                rw [this] at hL; cases hL
            · simp [hvs]; omega
            · intro t v hl
              simp only at hl
              rw [qsa] at hl
              simp only [Nat.zero_le, if_true, Nat.sub_zero, List.getElem?_map, Option.map_eq_some_iff] at hl
              obtain ⟨x, hx, rfl⟩ := hl
              obtain ⟨u, g1, g2⟩ := hv.2 t x hx
              have hnx : ∀ m ∈ qg [x], m < blks.length := fun m hm' => hn m (qa6.2 ⟨x, List.mem_of_getElem? hx, hm'⟩)
              refine ⟨u, ?_, g2.mono (Sub.refl h) (fun y hy m hm' => hι0 m (hnx m (by simp only [qg, List.flatMap_cons, List.flatMap_nil, List.append_nil, List.mem_flatMap]; exact ⟨y, hy, hm'⟩))), hnx⟩
              have g1' : vals[t]? = some u := by simpa using g1
              simp only
              rw [Array.getElem?_append_left (Array.getElem?_eq_some_iff.1 g1').1]
              exact g1'
            · intro i B L e1 hz hL
              exact .inr ⟨i, B, L, e1, hz, by rw [← hι0 i (List.getElem?_eq_some_iff.1 e1).1]; exact hL, rfl⟩
            · intro i B L e1 hL
              exact .inr ⟨i, B, L, e1, by rw [← hι0 i (List.getElem?_eq_some_iff.1 e1).1]; exact hL, rfl⟩
            · intro m
              unfold qk
              simp only
              rw [qsa]
              simp only [Nat.zero_le, if_true, Nat.sub_zero, List.getElem?_map]
              cases blks[m]? <;> rfl
          cases hr : qaX c (call c k) (c.keep f) fn.ntmps k blks.length 0 body { fr := qdq 0 (args.map Sv.v), mem := qdq 0 (blks.map some), nx := blks.length } with
          | none => rw [hr] at e; cases e
          | some out =>
            rw [hr] at e
            refine qsX hk.ty ih hk.mo body 0 _ out _ _ _ hr hsim fun a' w' hc' => ?_
            cases out with
            | norm σ =>
              obtain ⟨d1, us, d2, ι', h', d3⟩ := qhR hk.ty e hι0 hc'
              exact ⟨d1, _, d2, us, ι', h', rfl, d3⟩
            | ret σ =>
              obtain ⟨d1, us, d2, ι', h', d3⟩ := qhR hk.ty e hι0 hc'
              exact ⟨d1, _, d2, us, ι', h', rfl, d3⟩
            | exit i σ => cases e
        · cases e

end
end Go.Proofs.Ytbhnafdmilfobaa.Am

/- From the machine's word on a law to the program's: arguments opened, the call, what stays. -/
set_option linter.unusedVariables false
set_option linter.unusedSimpArgs false
namespace Go.Proofs.Ytbhnafdmilfobaa.Am
open Go Go.RowKit Go.WideShapes

def qfQ (P : Program) : List Field → Nat → Nat → Bool
  | [], o, n => o == n
  | f :: r, o, n => f.offset == o && qfQ P r (o + P.cellsOf f.type) n

def qfG (P : Program) : Nat → TypeId → Bool
  | 0, _ => false
  | d + 1, t =>
    match P.underlying t with
    | some .bool => true
    | some (.int _) => true
    | some .string => true
    | some (.slice e) => decide (0 < P.cellsOf e) && qfG P d e
    | some (.struct fs) => qfQ P fs.toList 0 (P.cellsOf t) && fs.toList.all fun f => qfG P d f.type
    | _ => false

inductive Typed (P : Program) : TypeId → List At → Prop
  | bool {t : TypeId} (hu : P.underlying t = some .bool) (b : Bool) : Typed P t [.bool b]
  | int {t : TypeId} {k : IntKind} (hu : P.underlying t = some (.int k)) (n : Int) (h : (Lit.int k n).wf = true) : Typed P t [.int k n]
  | str {t : TypeId} (hu : P.underlying t = some .string) (s : ByteArray) (h : s.size ≤ maxLen) (hb : s.size ≤ reachBytes) : Typed P t [.str s]
  | sl {t e : TypeId} (hu : P.underlying t = some (.slice e)) (els : List (List At)) (hn : els.length ≤ maxLen) (hb : els.length * P.bytesOf e ≤ reachBytes) (h : ∀ el ∈ els, Typed P e el) : Typed P t [.sl (P.cellsOf e) els.length els]
  | st {t : TypeId} {fs : Array Field} (hu : P.underlying t = some (.struct fs)) (cs : List At) (hl : cs.length = P.cellsOf t) (h : ∀ (i : Nat) (f : Field), fs[i]? = some f → Typed P f.type ((cs.drop f.offset).take (P.cellsOf f.type))) : Typed P t cs

section
variable {P : Program} {H : Type} {enc : TypeId × Value → H} {w : World} {base : Nat} {sp : Nat → Bool} {held : Bool}

def view (w : World) : Hp := fun b => w.heap[b]?

theorem qsZ {a : Addr} {n : Nat} {cs : List Value} (h : w.cells? base (a.add 0) n = some cs) (hn : 0 < n) : a.spot = none := by
  obtain ⟨_, hl, hc⟩ := World.cells?_some h
  have h0 := hc 0 hn
  rw [List.getElem?_eq_getElem (show 0 < cs.length by omega)] at h0
  simpa [Addr.add] using World.cell?_spot h0

theorem qox {b off k n : Nat} {cs : List Value} (h : w.cells? base ((⟨b, off, none⟩ : Addr).add k) n = some cs) (hn : 0 < n) :
    ∃ C t z, w.heap[b]? = some (.cells C t z) ∧ cs.length = n ∧ ∀ j, j < n → C[off + (k + j)]? = cs[j]? := by
  rw [Go.WideShapes.add_plain] at h
  obtain ⟨_, hl, hc⟩ := World.cells?_some h
  have hobj : ∃ C t z, w.heap[b]? = some (.cells C t z) := by
    have h0 := hc 0 hn
    rw [List.getElem?_eq_getElem (show 0 < cs.length by omega), Go.WideShapes.add_plain] at h0
    simp only [World.cell?] at h0
    split at h0
    · rename_i C t z hC; exact ⟨C, t, z, hC⟩
    · cases h0
  obtain ⟨C, t, z, hC⟩ := hobj
  refine ⟨C, t, z, hC, hl, fun j hj => ?_⟩
  have := hc j hj
  rw [Go.WideShapes.add_plain] at this
  simp only [World.cell?, hC] at this
  rw [← this]
  simp [Nat.add_assoc]

theorem qrR {e : TypeId} : ∀ {l : List (DataW H)}, (DataW.weightsAll P e l).all (· ≤ reachBytes) = true → ∀ d ∈ l, (DataW.weights P e d).all (· ≤ reachBytes) = true := by
  intro l
  induction l with
  | nil => intro _ d hd; cases hd
  | cons x r ih =>
    intro h d hd
    simp only [DataW.weightsAll, List.all_append, Bool.and_eq_true] at h
    rcases List.mem_cons.1 hd with rfl | hd
    · exact h.1
    · exact ih h.2 d hd
theorem qqO : ∀ {ts : List TypeId} {l : List (DataW H)}, (DataW.weightsEach P ts l).all (· ≤ reachBytes) = true → ∀ (i : Nat) t d, ts[i]? = some t → l[i]? = some d → (DataW.weights P t d).all (· ≤ reachBytes) = true := by
  intro ts
  induction ts with
  | nil => intro l _ i t d h; simp at h
  | cons t ts ih =>
    intro l h i t' d h1 h2
    cases l with
    | nil => simp at h2
    | cons x r =>
      simp only [DataW.weightsEach, List.all_append, Bool.and_eq_true] at h
      cases i with
      | zero => simp at h1 h2; subst h1 h2; exact h.1
      | succ i => exact ih h.2 i t' d (by simpa using h1) (by simpa using h2)
theorem qhj {t : TypeId} {ts : List TypeId} {d : DataW H} {r : List (DataW H)} (h : (DataW.weightsEach P (t :: ts) (d :: r)).all (· ≤ reachBytes) = true) : (DataW.weights P t d).all (· ≤ reachBytes) = true ∧ (DataW.weightsEach P ts r).all (· ≤ reachBytes) = true := by
  simp only [DataW.weightsEach, List.all_append, Bool.and_eq_true] at h
  exact h
theorem qs0 : ∀ (d : Nat) (t : TypeId), qfG P d t = true → ∀ (fuel : Nat) (cs : List Value) (x : DataW H × List MemPlace), DataW.trod enc P w base sp held fuel t cs = some x → (DataW.weights P t x.1).all (· ≤ reachBytes) = true →
    ∃ xs : List At, RL (fun _ => none) (view w) xs cs ∧ (∀ y ∈ xs, y.pr = true) ∧ Typed P t xs := by
  intro d
  induction d with
  | zero => intro t h; cases h
  | succ d ih =>
    intro t ht fuel cs x hx hwt
    simp only [qfG] at ht
    have one : ∀ (y : At) (v : Value), RP (view w) y v → y.pr = true → cs = [v] → Typed P t [y] → ∃ xs : List At, RL (fun _ => none) (view w) xs cs ∧ (∀ y ∈ xs, y.pr = true) ∧ Typed P t xs := by
      rintro y v h1 h2 rfl h3
      exact ⟨[y], RL.cons (RA.ofRP h1) RL.nil, by simpa using h2, h3⟩
    split at ht
    · rename_i hu
      obtain ⟨b, rfl, _⟩ := DataW.trod_bool hu hx
      exact one _ _ (.bool b) rfl rfl (.bool hu b)
    · rename_i k hu
      obtain ⟨n, rfl, _, hw⟩ := DataW.trod_int hu hx
      exact one _ _ (.int k n) rfl rfl (.int hu n hw)
    · rename_i hu
      obtain ⟨s, rfl, hx1, hs⟩ := DataW.trod_string hu hx
      exact one _ _ (.str s) rfl rfl (.str hu s hs (by
        subst hx1
        simp only [DataW.weights, List.all_cons, List.all_nil, Bool.and_true, decide_eq_true_eq] at hwt
        have e : s.data.toList.length = s.size := by rw [Array.length_toList]; rfl
        omega))
    · rename_i e hu
      simp only [Bool.and_eq_true, decide_eq_true_eq] at ht
      obtain ⟨hpos, hte⟩ := ht
      rcases DataW.trod_slice hu hx with ⟨rfl, _⟩ | ⟨a, len, cap, elems, rest, n, rfl, rfl, hx1, hb, hlc, hcm, hel, hev, _, _⟩
      · exact one _ _ (.sl0 (P.cellsOf e) none 0) rfl rfl (.sl hu [] (Nat.zero_le _) (by simp [reachBytes]) (by simp))
      · -- each element
        subst hx1
        simp only [DataW.weights, hu, List.all_cons, List.all_append, Bool.and_eq_true, decide_eq_true_eq, List.length_map] at hwt
        obtain ⟨hw1, hw2, _⟩ := hwt
        have each : ∀ i, i < len → ∃ (ci : List Value) (xs : List At), w.cells? base (a.add (i * P.cellsOf e)) (P.cellsOf e) = some ci ∧ RL (fun _ => none) (view w) xs ci ∧ (∀ y ∈ xs, y.pr = true) ∧ Typed P e xs := by
          intro i hi
          have h1 := hev i hi
          rw [List.getElem?_eq_getElem (by omega)] at h1
          obtain ⟨ci, h2, h3⟩ := Option.bind_eq_some_iff.1 h1
          obtain ⟨xs, r1, r2, r3⟩ := ih e hte n ci _ h3 (qrR hw2 _ (List.mem_map_of_mem (List.getElem_mem _)))
          exact ⟨ci, xs, h2, r1, r2, r3⟩
        let E : Nat → List At := fun i => if hi : i < len then (each i hi).choose_spec.choose else []
        let V : Nat → List Value := fun i => if hi : i < len then (each i hi).choose else []
        have hE : ∀ i, i < len → w.cells? base (a.add (i * P.cellsOf e)) (P.cellsOf e) = some (V i) ∧ RL (fun _ => none) (view w) (E i) (V i) ∧ (∀ y ∈ E i, y.pr = true) ∧ Typed P e (E i) := by
          intro i hi
          simp only [E, V, dif_pos hi]
          exact (each i hi).choose_spec.choose_spec
        let els := (List.range len).map E
        have hlen : els.length = len := by simp [els]
        have hget : ∀ i e', els[i]? = some e' → i < len ∧ e' = E i := by
          intro i e' he'
          have hi : i < len := by
            have := (List.getElem?_eq_some_iff.1 he').1
            simpa [hlen] using this
          simp only [els, List.getElem?_map, List.getElem?_range hi, Option.map_some, Option.some.injEq] at he'
          exact ⟨hi, he'.symm⟩
        have hty : Typed P t [.sl (P.cellsOf e) els.length els] := by
          refine .sl hu els (by omega) (Nat.le_trans (Nat.mul_le_mul_right _ (by omega)) hw1) fun el hm => ?_
          obtain ⟨i, hi⟩ := List.getElem?_of_mem hm
          obtain ⟨h1, rfl⟩ := hget i el hi
          exact (hE i h1).2.2.2
        rcases Nat.eq_zero_or_pos len with h0 | h0
        · subst h0
          have hz : els = [] := by simp [els]
          refine one _ _ ?_ rfl rfl hty
          rw [hz]
          exact .sl0 _ _ _
        · obtain ⟨hc0, _⟩ := hE 0 h0
          have hspot : a.spot = none := qsZ (by rw [Nat.zero_mul] at hc0; exact hc0) hpos
          obtain ⟨b, off, spot⟩ := a
          simp only at hspot
          subst hspot
          obtain ⟨C, t', z, hC, _⟩ := qox hc0 hpos
          have hcell : ∀ i, i < len → (V i).length = P.cellsOf e ∧ ∀ j, j < P.cellsOf e → C[off + (i * P.cellsOf e + j)]? = (V i)[j]? := by
            intro i hi
            obtain ⟨C', t'', z', hC', hl, hj⟩ := qox (hE i hi).1 hpos
            rw [hC] at hC'
            cases hC'
            exact ⟨hl, hj⟩
          refine one _ _ (.sl _ els b off cap (P.cellsOf e) C t' z (fun i j => ((V i)[j]?).getD undef) hC rfl (by rw [hlen]; exact hlc) ?_ ?_ ?_) rfl (by rw [hlen]) hty
          · intro i e' he'
            obtain ⟨hi, rfl⟩ := hget i e' he'
            rw [(hE i hi).2.1.1, (hcell i hi).1]
          · intro i e' j y he' hy
            obtain ⟨hi, rfl⟩ := hget i e' he'
            obtain ⟨u, g1, g2⟩ := (hE i hi).2.1.2 j y hy
            have hj : j < P.cellsOf e := by
              rw [← (hcell i hi).1]
              exact (List.getElem?_eq_some_iff.1 g1).1
            rw [(hcell i hi).2 j hj, g1]
            rfl
          · intro i e' j y he' hy
            obtain ⟨hi, rfl⟩ := hget i e' he'
            obtain ⟨u, g1, g2⟩ := (hE i hi).2.1.2 j y hy
            simp only [g1, Option.getD_some]
            exact RA.toRP ((hE i hi).2.2.1 y (List.mem_of_getElem? hy)) g2
    · rename_i fs hu
      simp only [Bool.and_eq_true, List.all_eq_true] at ht
      obtain ⟨htile, hall⟩ := ht
      obtain ⟨ds, n, rfl, hx1, hcl, hdl, hf⟩ := DataW.trod_struct hu hx
      subst hx1
      simp only [DataW.weights, hu] at hwt
      have key : ∀ (l : List Field) (o : Nat), qfQ P l o (P.cellsOf t) = true → (∀ f ∈ l, qfG P d f.type = true ∧ ∃ y, DataW.trod enc P w base sp held n f.type ((cs.drop f.offset).take (P.cellsOf f.type)) = some y ∧ (DataW.weights P f.type y.1).all (· ≤ reachBytes) = true) →
          o ≤ P.cellsOf t ∧ ∃ xs : List At, RL (fun _ => none) (view w) xs (cs.drop o) ∧ (∀ y ∈ xs, y.pr = true) ∧ ∀ f ∈ l, o ≤ f.offset ∧ Typed P f.type ((xs.drop (f.offset - o)).take (P.cellsOf f.type)) := by
        intro l
        induction l with
        | nil =>
          intro o ho _
          simp only [qfQ, beq_iff_eq] at ho
          refine ⟨by omega, [], ?_, by simp, by simp⟩
          rw [List.drop_eq_nil_of_le (by omega)]
          exact RL.nil
        | cons f r ih2 =>
          intro o ho hfs
          simp only [qfQ, Bool.and_eq_true, beq_iff_eq] at ho
          obtain ⟨rfl, ho⟩ := ho
          obtain ⟨hpf, y, hy, hyw⟩ := hfs f (List.mem_cons_self ..)
          obtain ⟨ys, r1, r2, r3⟩ := ih f.type hpf n _ _ hy hyw
          obtain ⟨q0, xs, q1, q2, q3⟩ := ih2 _ ho fun g hg => hfs g (List.mem_cons_of_mem _ hg)
          have hyl : ys.length = P.cellsOf f.type := by rw [r1.1, List.length_take, List.length_drop]; omega
          refine ⟨by omega, ys ++ xs, ?_, ?_, ?_⟩
          · have := r1.append q1
            rwa [show cs.drop (f.offset + P.cellsOf f.type) = (cs.drop f.offset).drop (P.cellsOf f.type) by rw [List.drop_drop], List.take_append_drop] at this
          · intro z hz
            rcases List.mem_append.1 hz with hz | hz
            · exact r2 z hz
            · exact q2 z hz
          · intro g hg
            rcases List.mem_cons.1 hg with rfl | hg
            · refine ⟨Nat.le_refl _, ?_⟩
              rw [Nat.sub_self, List.drop_zero, ← hyl, List.take_left]
              exact r3
            · obtain ⟨h1, h2⟩ := q3 g hg
              refine ⟨by omega, ?_⟩
              rw [show g.offset - f.offset = ys.length + (g.offset - (f.offset + P.cellsOf f.type)) by omega, ← List.drop_drop, List.drop_left]
              exact h2
      obtain ⟨_, xs, q1, q2, q3⟩ := key fs.toList 0 htile fun f hfm => by
        refine ⟨hall f hfm, ?_⟩
        obtain ⟨i, hi⟩ := List.getElem?_of_mem hfm
        have hi' : fs[i]? = some f := by simpa using hi
        have hlt : i < fs.size := (Array.getElem?_eq_some_iff.1 hi').1
        exact ⟨ds[i]'(by omega), by rw [hf i f hi']; exact List.getElem?_eq_getElem _, qqO hwt i f.type _ (by simp [hi']) (by rw [List.getElem?_map, List.getElem?_eq_getElem (show i < ds.length by omega)]; rfl)⟩
      rw [List.drop_zero] at q1
      refine ⟨xs, q1, q2, .st hu xs (by rw [q1.1, hcl]) fun i f hi => ?_⟩
      have := (q3 f (by simpa using Array.mem_of_getElem? hi)).2
      simpa using this
    · cases ht

theorem qvt {d base' : Nat} {t : TypeId} (ht : qfG P d t = true) {v : Value} (hval : Value.okWide P w .any base' t v) {D : DataW H} {ps : List MemPlace} (hd : DataW.Trod enc P w base sp held t v D ps) (hwt : (DataW.weights P t D).all (· ≤ reachBytes) = true) :
    ∃ x : Vl, RV (fun _ => none) (view w) x v ∧ qg [x] = [] ∧ Typed P t x.cells ∧ ((∃ y, x = .a y) ∨ ∃ fs, P.underlying t = some (.struct fs)) ∧ ((∃ ys, x = .g ys) ∨ ¬ ∃ fs, P.underlying t = some (.struct fs)) := by
  obtain ⟨fuel, hf⟩ := hd
  obtain ⟨xs, r1, r2, r3⟩ := qs0 d t ht fuel _ _ hf hwt
  have hno : ∀ y : At, y.pr = true → y.nm = [] := fun y hy => by cases y <;> simp [At.pr, At.nm] at hy ⊢
  have one : v.cells.toList = [v] → (¬ ∃ fs, P.underlying t = some (.struct fs)) → _ := fun hv hns => (show ∃ x : Vl, RV (fun _ => none) (view w) x v ∧ qg [x] = [] ∧ Typed P t x.cells ∧ ((∃ y, x = .a y) ∨ ∃ fs, P.underlying t = some (.struct fs)) ∧ ((∃ ys, x = .g ys) ∨ ¬ ∃ fs, P.underlying t = some (.struct fs)) by
    rw [hv] at r1
    match xs, r1, r2, r3 with
    | [y], r1, r2, r3 =>
      obtain ⟨u, g1, g2⟩ := r1.2 0 y rfl
      simp at g1
      subst g1
      exact ⟨.a y, g2, by simp [qg, Vl.cells, hno y (r2 y (by simp))], r3, .inl ⟨y, rfl⟩, .inr hns⟩
    | [], r1, _, _ => exact absurd r1.1 (by simp)
    | _ :: _ :: _, r1, _, _ => exact absurd r1.1 (by simp))
  cases d with
  | zero => cases ht
  | succ d =>
    simp only [qfG] at ht
    split at ht
    · rename_i hu
      obtain ⟨b, rfl⟩ := okWide_bool hu hval
      exact one rfl (by rw [hu]; simp)
    · rename_i k hu
      obtain ⟨n, rfl⟩ := okWide_int hu hval
      exact one rfl (by rw [hu]; simp)
    · rename_i hu
      obtain ⟨s, rfl⟩ := okWide_string hu hval
      exact one rfl (by rw [hu]; simp)
    · rename_i e hu
      obtain ⟨a, l, c, rfl⟩ := okWide_slice hu hval
      exact one rfl (by rw [hu]; simp)
    · rename_i fs hu
      obtain ⟨cs, rfl, _⟩ := okWide_struct hu hval
      refine ⟨.g xs, ⟨cs, rfl, r1⟩, ?_, r3, .inr ⟨fs, hu⟩, .inl ⟨xs, rfl⟩⟩
      simp only [qg, Vl.cells, List.flatMap_cons, List.flatMap_nil, List.append_nil, List.flatMap_eq_nil_iff]
      exact fun y hy => hno y (r2 y hy)
    · cases ht

theorem qum {c : Cfg} (hk : CfgOk P c) {k : Nat} {f : FuncId} {xs : List Vl} {vals : Array Value} (hr : RVs (fun _ => none) (view w) xs vals.toList) (hn : qg xs = [])
    (e : call c k f xs [] = some ([.a (.bool true)], [])) : Calls P f vals w fun e w' => e = .returned (.bool true) ∧ Below w.heap.size w w' := by
  obtain ⟨_, h⟩ := qsY hk k f xs [] _ _ e
  have hmm : Mm (fun _ => none) (view w) w [] := by
    refine ⟨?_, ?_, ?_, fun b o e => e, ?_, ?_, ?_, ?_⟩ <;> intro i <;> simp
  refine (h w (fun _ => none) (view w) vals hr (by rw [hn]; simp) hmm).mono ?_
  rintro en w' ⟨us, ι', h', rfl, hp⟩
  have hlen := hp.rv.1
  obtain ⟨u, g1, g2⟩ := hp.rv.2 0 _ rfl
  have hu : u = .bool true := RP.bool_inv (show RP h' (.bool true) u from g2)
  subst hu
  have hus : us = #[.bool true] := by
    apply Array.toList_inj.1
    match hq : us.toList, hlen, g1 with
    | [x], _, g1 => simp at g1; subst g1; rfl
  refine ⟨by rw [hus]; rfl, hp.os, hp.tape, hp.output, hp.grow, fun b hb => hp.frame b hb ?_⟩
  rintro ⟨i, B, L, g, _⟩
  simp at g

theorem qun {t : TypeId} {k : IntKind} (hu : P.underlying t = some (.int k)) {xs : List At} (h : Typed P t xs) : ∃ n, xs = [.int k n] ∧ (Lit.int k n).wf = true := by
  cases h with
  | int hu' n hw => rw [hu] at hu'; cases hu'; exact ⟨n, rfl, hw⟩
  | bool hu' => rw [hu] at hu'; cases hu'
  | str hu' => rw [hu] at hu'; cases hu'
  | sl hu' => rw [hu] at hu'; cases hu'
  | st hu' => rw [hu] at hu'; cases hu'
theorem qs1 {t : TypeId} (hu : P.underlying t = some .bool) {xs : List At} (h : Typed P t xs) : ∃ b, xs = [.bool b] := by
  cases h with
  | bool hu' b => exact ⟨b, rfl⟩
  | int hu' => rw [hu] at hu'; cases hu'
  | str hu' => rw [hu] at hu'; cases hu'
  | sl hu' => rw [hu] at hu'; cases hu'
  | st hu' => rw [hu] at hu'; cases hu'
theorem qup {t : TypeId} (hu : P.underlying t = some .string) {xs : List At} (h : Typed P t xs) : ∃ s, xs = [.str s] ∧ s.size ≤ maxLen ∧ s.size ≤ reachBytes := by
  cases h with
  | str hu' s hs hb => exact ⟨s, rfl, hs, hb⟩
  | int hu' => rw [hu] at hu'; cases hu'
  | bool hu' => rw [hu] at hu'; cases hu'
  | sl hu' => rw [hu] at hu'; cases hu'
  | st hu' => rw [hu] at hu'; cases hu'
theorem qvu {t e : TypeId} (hu : P.underlying t = some (.slice e)) {xs : List At} (h : Typed P t xs) : ∃ els, xs = [.sl (P.cellsOf e) els.length els] ∧ els.length ≤ maxLen ∧ els.length * P.bytesOf e ≤ reachBytes ∧ ∀ el ∈ els, Typed P e el := by
  cases h with
  | sl hu' els hn hb he => rw [hu] at hu'; cases hu'; exact ⟨els, rfl, hn, hb, he⟩
  | int hu' => rw [hu] at hu'; cases hu'
  | bool hu' => rw [hu] at hu'; cases hu'
  | str hu' => rw [hu] at hu'; cases hu'
  | st hu' => rw [hu] at hu'; cases hu'
theorem qvv {t : TypeId} {fs : Array Field} (hu : P.underlying t = some (.struct fs)) {xs : List At} (h : Typed P t xs) :
    xs.length = P.cellsOf t ∧ ∀ (i : Nat) (f : Field), fs[i]? = some f → Typed P f.type ((xs.drop f.offset).take (P.cellsOf f.type)) := by
  cases h with
  | st hu' cs hl hf => rw [hu] at hu'; cases hu'; exact ⟨hl, hf⟩
  | int hu' => rw [hu] at hu'; cases hu'
  | bool hu' => rw [hu] at hu'; cases hu'
  | str hu' => rw [hu] at hu'; cases hu'
  | sl hu' => rw [hu] at hu'; cases hu'
end
end Go.Proofs.Ytbhnafdmilfobaa.Am

/- Reckoning with the machine: each operation's word, loops. -/
set_option linter.unusedVariables false
set_option linter.unusedSimpArgs false
namespace Go.Proofs.Ytbhnafdmilfobaa.Am
open Go

theorem qB4 {a b : Int} (h : a ≤ b) : (a ≤ b) = True := eq_true h
theorem qB5 {a b : Int} (h : ¬ a ≤ b) : (a ≤ b) = False := eq_false h
theorem qB6 {a b : Int} (h : a < b) : (a < b) = True := eq_true h
theorem qB7 {a b : Int} (h : ¬ a < b) : (a < b) = False := eq_false h
theorem qB8 {a b : Int} (h : a = b) : (a = b) = True := eq_true h
theorem qB9 {a b : Int} (h : ¬ a = b) : (a = b) = False := eq_false h
theorem qCa {a b : Nat} (h : a ≤ b) : (a ≤ b) = True := eq_true h
theorem qCb {a b : Nat} (h : ¬ a ≤ b) : (a ≤ b) = False := eq_false h
theorem qCc {a b : Nat} (h : a < b) : (a < b) = True := eq_true h
theorem qCd {a b : Nat} (h : ¬ a < b) : (a < b) = False := eq_false h
section
variable {c : Cfg} {callF : FuncId → List Vl → List Blk → Option (List Vl × List Blk)}
section
variable {kp : Nat → List Kp} {nt k p : Nat}
end
section
variable {d : Option Tmp} {t0 : TypeId} {pos : String} {af : Array Edge} {g : Option (Nat × Bool)} {fr : List (Nat × Sv)} {mem : Mem} {nx : Nat} {ops : List Oper}
end
end

theorem qP {x : Int} (h : -9223372036854775808 ≤ x ∧ x ≤ 9223372036854775807) : IntKind.i64.wrap x = x := by
  simp only [IntKind.wrap, IntKind.bits, IntKind.signed]
  simp
  omega
theorem qcU (x : Int) : IntKind.u32.wrap x = x % 4294967296 := by simp [IntKind.wrap, IntKind.bits, IntKind.signed]
theorem qdZ (x : Int) : IntKind.u64.wrap x = x % 18446744073709551616 := by simp [IntKind.wrap, IntKind.bits, IntKind.signed]
theorem qxY (x : Int) : IntKind.u8.wrap x = x % 256 := by simp [IntKind.wrap, IntKind.bits, IntKind.signed]

def qoO (hd : St → Option St) (body : St → Option Out) : Nat → Option St → Option Out
  | 0, _ => none
  | n + 1, s => qfY (qgp hd body n) (hdK body s)
theorem qsb (hd : St → Option St) (body : St → Option Out) (k : Nat) (σ : St) : qgp hd body k σ = qoO hd body k (hd σ) := by cases k <;> rfl
theorem qhk (hd : St → Option St) (body : St → Option Out) (k : Nat) (σ : St) : qoO hd body (k + 1) (some σ) = qfY (qgp hd body k) (body σ) := rfl

def loops : Code → List Code
  | .seq x y => loops x ++ loops y
  | .cond _ x y => loops x ++ loops y
  | .block _ x => loops x
  | .loop x => x :: loops x
  | _ => []
def lb (f : Func) (n : Nat) : Code := match f.body with
  | some b => (loops b).getD n .skip
  | none => .skip

end Go.Proofs.Ytbhnafdmilfobaa.Am

/- The typed machine: the abstract machine's rules over typed words, each step handing on to what is to be done next. Definitions. -/
namespace Go.Proofs.Ytbhnafdmilfobaa.Am
open Go

inductive Cd
  | int (k : IntKind) | bool | str | sl (c : Cd) | pr (a b : Cd)
  deriving DecidableEq
@[reducible] def Cd.D : Cd → Type
  | .int _ => Int
  | .bool => Bool
  | .str => ByteArray
  | .sl c => List c.D
  | .pr a b => a.D × b.D
def Cd.sz : Cd → Nat
  | .pr a b => a.sz + b.sz
  | _ => 1
def Cd.at : (c : Cd) → c.D → List At
  | .int k, x => [.int k x]
  | .bool, b => [.bool b]
  | .str, s => [.str s]
  | .sl c, l => [.sl c.sz l.length (l.map c.at)]
  | .pr a b, x => a.at x.1 ++ b.at x.2

inductive A2
  | int (k : IntKind) (n : Int)
  | bool (b : Bool)
  | str (s : ByteArray)
  | snil (es ty : Nat)
  | sl (c : Cd) (l : List c.D)
  | nilp
  | pe (c : Cd) (x : c.D) (o : Nat)
  | ptr (m i o : Nat)
  | sm (m lo n : Nat)
  | fn (f : FuncId)
def A2.at : A2 → At
  | .int k n => .int k n
  | .bool b => .bool b
  | .str s => .str s
  | .snil es ty => .snil es ty
  | .sl c l => .sl c.sz l.length (l.map c.at)
  | .nilp => .nilp
  | .pe c x o => .pp (c.at x) o
  | .ptr m i o => .ptr m i o
  | .sm m lo n => .sm m lo n
  | .fn f => .fn f
def Cd.cl : (c : Cd) → c.D → List A2
  | .int k, x => [.int k x]
  | .bool, b => [.bool b]
  | .str, s => [.str s]
  | .sl c, l => [.sl c l]
  | .pr a b, x => a.cl x.1 ++ b.cl x.2
def qlS (a b : Cd) (l : List a.D) : Option (List b.D) := if h : a = b then some (h ▸ l) else none
def Cd.de : (c : Cd) → List A2 → Option (c.D × List A2)
  | .int k, .int k' n :: r => if k' = k then some (n, r) else none
  | .bool, .bool b :: r => some (b, r)
  | .str, .str s :: r => some (s, r)
  | .sl c, .sl c' l :: r => (qlS c' c l).bind fun l => some (l, r)
  | .pr a b, cs => (a.de cs).bind fun p => (b.de p.2).bind fun q => some ((p.1, q.1), q.2)
  | _, _ => none
def Cd.dec (c : Cd) (cs : List A2) : Option c.D := (c.de cs).bind fun p => match p.2 with
  | [] => some p.1
  | _ => none
def A2.cd : A2 → Option Cd
  | .int k _ => some (.int k)
  | .bool _ => some .bool
  | .str _ => some .str
  | .sl c _ => some (.sl c)
  | _ => none

inductive V2
  | a (x : A2)
  | g (cs : List A2)
def V2.at : V2 → Vl
  | .a x => .a x.at
  | .g cs => .g (cs.map A2.at)
def V2.cells : V2 → List A2
  | .a x => [x]
  | .g cs => cs
inductive Sv2
  | v (x : V2)
  | t (vs : List V2)
  | u
def Sv2.at : Sv2 → Sv
  | .v x => .v x.at
  | .t vs => .t (vs.map V2.at)
  | .u => .u
inductive Bd
  | arr (c : Cd) (l : List c.D)
  | raw (els : List (List A2))
def Bd.rows : Bd → List (List At)
  | .arr c l => l.map c.at
  | .raw els => els.map fun e => e.map A2.at
structure Blk2 where
  bd : Bd
  es : Nat
  ty : TypeId
  pr : Bool
  fz : Bool
def Blk2.at (b : Blk2) : Blk := { els := b.bd.rows, es := b.es, ty := b.ty, pr := b.pr, fz := b.fz }
abbrev qI := List (Nat × Option Blk2)
def oAt (p : Nat × Option Blk2) : Nat × Option Blk := (p.1, p.2.map Blk2.at)
def qI.at (m : qI) : Mem := m.map oAt
structure St2 where
  fr : List (Nat × Sv2)
  mem : qI
  nx : Nat

def qc1 (m : qI) (n : Nat) : Option Blk2 :=
  match lk m n with
  | some (some b) => some b
  | _ => none
def qs3 : qI → Nat × Option Blk2 → qI
  | [], p => [p]
  | q :: r, p => if q.1 = p.1 then p :: r else q :: qs3 r p
def qeI (m : qI) : qI → qI
  | [] => m
  | p :: r => qeI (qs3 m p) r

def A2.pr : A2 → Bool
  | .ptr .. => false
  | .sm .. => false
  | _ => true
def A2.nm : A2 → List Nat
  | .ptr m _ _ => [m]
  | .sm m _ _ => [m]
  | _ => []
def A2.noSl : A2 → Bool
  | .sl .. => false
  | .pe .. => false
  | .fn .. => false
  | _ => true
def A2.smn : A2 → List Nat
  | .sm m _ _ => [m]
  | _ => []
def A2.ptrs : A2 → List Nat
  | .ptr m _ _ => [m]
  | _ => []
def Bd.els2 : Bd → List (List A2)
  | .arr _ _ => []
  | .raw els => els
def qbZ (f : A2 → List Nat) (mem : qI) (m : Nat) : List Nat :=
  match qc1 mem m with
  | some b => if b.pr then [] else b.bd.els2.flatMap fun e => e.flatMap f
  | none => []
def qdv (f : A2 → List Nat) (vs : List V2) : List Nat := vs.flatMap fun v => v.cells.flatMap f

def qlT (ρ : Nat → Option Nat) : A2 → Option A2
  | .ptr m i o => (ρ m).bind fun m' => some (.ptr m' i o)
  | .sm m lo n => (ρ m).bind fun m' => some (.sm m' lo n)
  | x => some x
def qhl (ρ : Nat → Option Nat) : V2 → Option V2
  | .a x => (qlT ρ x).bind fun y => some (.a y)
  | .g cs => (qu (qlT ρ) cs).bind fun ys => some (.g ys)
def qlU (ρ : Nat → Option Nat) (b : Blk2) : Option Blk2 :=
  if b.pr then some b else match b.bd with
  | .raw els => (qu (qu (qlT ρ)) els).bind fun els => some { b with bd := .raw els }
  | .arr .. => none

def at2 : At → Option A2
  | .int k n => some (.int k n)
  | .bool b => some (.bool b)
  | .str s => some (.str s)
  | .snil es ty => some (.snil es ty)
  | .nilp => some .nilp
  | _ => none
def qi6 (ti : TI) : Option (List A2) := qu at2 ti.zero
def qyH (f : TypeId → Option Cd) : List TypeId → Option Cd
  | [] => none
  | [t] => f t
  | t :: r => (f t).bind fun a => (qyH f r).bind fun b => some (.pr a b)
def cod (T : TypeId → Option TI) : Nat → TypeId → Option Cd
  | 0, _ => none
  | k + 1, t => (T t).bind fun ti => match ti.d with
    | .int k => some (.int k)
    | .bool => some .bool
    | .str => some .str
    | .sl e => (cod T k e).bind fun c => some (.sl c)
    | .st _ ts => qyH (cod T k) ts
    | _ => none

structure Eff2 where
  v : Sv2
  upd : qI
  nn : Nat
  rd : List Nat
def Eff2.at (e : Eff2) : Eff := { v := e.v.at, upd := e.upd.at, nn := e.nn, rd := e.rd }

def qqQ : Value → Option A2
  | .int k n => some (.int k n)
  | .bool b => some (.bool b)
  | .string s => some (.str s)
  | .slice none 0 0 => some (.snil 0 0)
  | .pointer none => some .nilp
  | _ => none
def ev2 (fr : List (Nat × Sv2)) : Operand → Option Sv2
  | .tmp t => lk fr t
  | .const v => (qqQ v).bind fun x => some (.v (.a x))
  | .func f => some (.v (.a (.fn f)))
  | .global _ => none
def qvw : Sv2 → Option A2
  | .v (.a x) => some x
  | _ => none
def qvx : Sv2 → Option V2
  | .v x => some x
  | _ => none
def qyI : A2 → Option Bool
  | .bool b => some b
  | _ => none
def qyJ : A2 → Option Int
  | .int _ i => some i
  | _ => none
def qct (fr : List (Nat × Sv2)) (o : Operand) : Option A2 := (ev2 fr o).bind qvw
def qqR (fr : List (Nat × Sv2)) (o : Operand) : Option Bool := (qct fr o).bind qyI
def qhS (fr : List (Nat × Sv2)) (o : Operand) : Option Int := (qct fr o).bind qyJ
def qgD (fr : List (Nat × Sv2)) (o : Operand) : Option V2 := (ev2 fr o).bind qvx
def qe8 (fr : List (Nat × Sv2)) (d : Nat) : Option Operand → Option Int
  | none => some d
  | some o => qhS fr o

def qhm (ti : TI) (e : List A2) (o : Nat) : Option V2 :=
  if ti.agg then (if o + ti.size ≤ e.length then some (.g ((e.drop o).take ti.size)) else none)
  else (e[o]?).bind fun x => some (.a x)
def qqS (cs : List A2) (o : Nat) (xs : List A2) : List A2 := cs.take o ++ xs ++ cs.drop (o + xs.length)
def qhT (ds : List (Nat × Nat)) : List A2 → List (Nat × V2) → Option (List A2)
  | cs, [] => some cs
  | cs, (i, v) :: r =>
    (ds[i]?).bind fun p => if v.cells.length = p.2 ∧ p.1 + p.2 ≤ cs.length then qhT ds (qqS cs p.1 v.cells) r else none
def qlV (es : Nat) : List (List A2) → List (Nat × V2) → Option (List (List A2))
  | cs, [] => some cs
  | cs, (i, v) :: r => if v.cells.length = es ∧ i < cs.length then qlV es (cs.set i v.cells) r else none
def qs4 (c : Option Cd) (els : List (List A2)) : Bd :=
  match c with
  | some c => match qu c.dec els with
    | some l => .arr c l
    | none => .raw els
  | none => .raw els

@[reducible] def frc {α β : Type} (x : α) (K : α → β) : β := K x
section
variable {R : Type}
def qfM {α β : Type} (f : α → (β → Option R) → Option R) : List α → (List β → Option R) → Option R
  | [], K => K []
  | x :: r, K => f x fun y => qfM f r fun ys => K (y :: ys)

def qwS (op : BinOp) (k : IntKind) (x y : Int) (K : A2 → Option R) : Option R :=
  match op with
  | .add => K (.int k (k.wrap (x + y)))
  | .sub => K (.int k (k.wrap (x - y)))
  | .mul => K (.int k (k.wrap (x * y)))
  | .quo => if y = 0 then none else K (.int k (k.wrap (x.tdiv y)))
  | .rem => if y = 0 then none else K (.int k (x.tmod y))
  | .eql => K (.bool (x == y))
  | .neq => K (.bool (x != y))
  | .lss => K (.bool (decide (x < y)))
  | .leq => K (.bool (decide (x ≤ y)))
  | .gtr => K (.bool (decide (x > y)))
  | .geq => K (.bool (decide (x ≥ y)))
  | .and => K (.int k (k.wrap ((BitVec.ofInt k.bits x &&& BitVec.ofInt k.bits y).toNat : Int)))
  | .or => K (.int k (k.wrap ((BitVec.ofInt k.bits x ||| BitVec.ofInt k.bits y).toNat : Int)))
  | .xor => K (.int k (k.wrap ((BitVec.ofInt k.bits x ^^^ BitVec.ofInt k.bits y).toNat : Int)))
  | _ => none
def qlW : A2 → A2 → Option Bool
  | .nilp, .nilp => some true
  | .nilp, .ptr .. => some false
  | .nilp, .pe .. => some false
  | .ptr .., .nilp => some false
  | .pe .., .nilp => some false
  | _, _ => none
def qs5 : A2 → Bool
  | .nilp => true
  | .ptr .. => true
  | .pe .. => true
  | _ => false
def qqT (T : TypeId → Option TI) (op : BinOp) (ty : TypeId) (a b : A2) (K : A2 → Option R) : Option R :=
  match a, b with
  | .int k x, .int k' y =>
    match op with
    | .shl => if y < 0 then none else K (.int k (k.wrap (x * 2 ^ (min y.toNat k.bits))))
    | .shr => if y < 0 then none else K (.int k (x.fdiv (2 ^ (min y.toNat k.bits))))
    | _ => if k = k' then qwS op k x y K else none
  | .str x, .str y =>
    match op with
    | .add => if ((x.size + y.size : Nat) : Int) > IntKind.i64.max then none else K (.str (x ++ y))
    | .eql => K (.bool (x.data.toList == y.data.toList))
    | .neq => K (.bool (!(x.data.toList == y.data.toList)))
    | _ => none
  | .bool x, .bool y =>
    match qax T ty, op with
    | some .bool, .eql => K (.bool (x == y))
    | some .bool, .neq => K (.bool (!(x == y)))
    | _, _ => none
  | x, y =>
    if qs5 x then
    match qax T ty with
    | some .ptr =>
      match op with
      | .eql => (qlW x y).bind fun b => K (.bool b)
      | .neq => (qlW x y).bind fun b => K (.bool (!b))
      | _ => none
    | _ => none
    else none
def un2 (op : UnOp) (a : A2) (K : A2 → Option R) : Option R :=
  match a with
  | .int k n => match op with
    | .neg => K (.int k (k.wrap (0 - n)))
    | _ => none
  | .bool b => match op with
    | .not => K (.bool (!b))
    | _ => none
  | _ => none
def qs6 (T : TypeId → Option TI) (src dst : TypeId) (a : A2) (K : A2 → Option R) : Option R :=
  match a with
  | .int _ n => match qax T src, qax T dst with
    | some (.int _), some (.int k) => K (.int k (k.wrap n))
    | _, _ => none
  | .str s => match qax T src, qax T dst with
    | some .str, some .str => K (.str s)
    | some .str, some (.sl e) => match qax T e with
      | some (.int .u8) => K (.sl (.int .u8) (s.data.toList.map fun b => (b.toNat : Int)))
      | _ => none
    | _, _ => none
  | _ => none

inductive Src
  | nil
  | of (c : Cd) (l : List c.D)
def Src.len : Src → Nat
  | .nil => 0
  | .of _ l => l.length
def Src.rows : Src → List (List At)
  | .nil => []
  | .of c l => l.map c.at
def qs7 (mem : qI) (es : Nat) (a : A2) (K : Src → List Nat → Option R) : Option R :=
  match a with
  | .sl c l => if c.sz = es then K (.of c l) [] else none
  | .snil .. => K .nil []
  | .sm m lo n => (qc1 mem m).bind fun b => match b.bd with
    | .arr c l => if b.es = es then if b.pr then if lo + n ≤ l.length then K (.of c ((l.drop lo).take n)) [m] else none else none else none
    | _ => none
  | _ => none

variable (c : Cfg) (CO : FuncId → List V2 → List Blk2 → (List V2 × List Blk2 → Option R) → Option R)

def qlX (mem : qI) (a : A2) (K : A2 → Option R) : Option R :=
  match a with
  | .sm m lo n => (qc1 mem m).bind fun b => if b.pr then match b.bd with
    | .arr c l => if c.sz = b.es then if lo + n ≤ l.length then K (.sl c ((l.drop lo).take n)) else none else none
    | .raw _ => none
    else none
  | .snil es ty => (cod c.T 9 ty).bind fun d => if d.sz = es then K (.sl d []) else none
  | x => K x
def qlY (mem : qI) (v : V2) (K : V2 → Option R) : Option R :=
  match v with
  | .a x => qlX c mem x fun y => K (.a y)
  | .g cs => qfM (qlX c mem) cs fun ys => K (.g ys)
def qs8 (mem : qI) (b : Blk2) (K : Blk2 → Option R) : Option R :=
  if b.pr then K b else match b.bd with
  | .raw els => qfM (qfM (qlX c mem)) els fun els => K { b with bd := .raw els }
  | .arr .. => none

def fz2 (mem : qI) : List Nat → qI
  | [] => []
  | m :: r => (match qc1 mem m with | some b => (m, some { bd := b.bd, es := b.es, ty := b.ty, pr := b.pr, fz := true }) :: fz2 mem r | none => fz2 mem r)
def qqU : List Nat → List Blk2 → qI
  | n :: r, b :: s => (n, some b) :: qqU r s
  | _, _ => []
def qyK : List V2 → Sv2
  | [x] => .v x
  | xs => .t xs
def qoQ (mu : Bool) (mem mem1 : qI) (ρ : Nat → Option Nat) (m : Nat) (K : Blk2 → Option R) : Option R :=
  (qc1 mem1 m).bind fun b => (fun K => if mu then K b else qs8 c mem b K) fun b => (qlU ρ b).bind K

def qs9 (f : FuncId) (args : List V2) (mem : qI) (nx : Nat) (K : Eff2 → Option R) : Option R :=
  (fun K => if c.mutA f then K args else qfM (qlY c mem) args K) fun vals =>
  frc (clo (if c.mutA f then qbZ A2.nm mem else qbZ A2.ptrs mem) 64 (qdv A2.nm vals) []) fun N =>
  frc (if c.mutA f then [] else qdv A2.smn args ++ N.flatMap (qbZ A2.smn mem)) fun F =>
  frc (qeI mem (fz2 mem F)) fun mem1 =>
  qfM (qoQ c (c.mutA f) mem mem1 (idx N)) N fun blks =>
    (qu (qhl (idx N)) vals).bind fun vals' =>
    CO f vals' blks fun r =>
    frc (N ++ cnt nx (r.2.drop N.length)) fun NL =>
    (qu (qhl (fun i => NL[i]?)) r.1).bind fun rs =>
      (qu (qlU (fun i => NL[i]?)) r.2).bind fun bs =>
      K { v := qyK rs, upd := (if r.2.isEmpty && r.1.all (fun v => v.cells.all A2.noSl) then [] else fz2 mem F) ++ qqU NL bs, nn := nx + (r.2.length - N.length), rd := N ++ F }

def qvy (t : TypeId) (s x : A2) (mem : qI) (nx : Nat) (K : Eff2 → Option R) : Option R :=
  match qax c.T t with
  | some (.sl e) => (c.T e).bind fun te =>
    if 0 < te.size ∧ 0 < te.bytes ∧ te.zero.length = te.size then
    qs7 mem te.size x fun src srd =>
    match s with
    | .snil .. => match src with
      | .nil => (cod c.T 9 e).bind fun d => K { v := .v (.a (.sm nx 0 0)), upd := [(nx, some ⟨.arr d [], te.size, e, true, false⟩)], nn := nx + 1, rd := srd }
      | .of d l => if l.length * te.bytes ≤ 140737488355328 then K { v := .v (.a (.sm nx 0 l.length)), upd := [(nx, some ⟨.arr d l, te.size, e, true, false⟩)], nn := nx + 1, rd := srd } else none
    | .sm m lo n => (qc1 mem m).bind fun b => match b.bd with
      | .arr d l => if b.es = te.size ∧ b.ty = e ∧ b.fz = false ∧ b.pr = true then if lo = 0 then if n ≤ l.length then
        match src with
        | .nil => if n * te.bytes ≤ 140737488355328 then K { v := .v (.a (.sm nx 0 n)), upd := [(m, none), (nx, some ⟨.arr d (l.take n), te.size, e, true, false⟩)], nn := nx + 1, rd := m :: srd } else none
        | .of d' l' => (qlS d' d l').bind fun l' => if (n + l'.length) * te.bytes ≤ 140737488355328 then
          K { v := .v (.a (.sm nx 0 (n + l'.length))), upd := [(m, none), (nx, some ⟨.arr d (l.take n ++ l'), te.size, e, true, false⟩)], nn := nx + 1, rd := m :: srd } else none
        else none else none else none
      | _ => none
    | _ => none
    else none
  | _ => none

def qc2 (v : V2) (nx : Nat) (K : Eff2 → Option R) : Option R := K { v := .v v, upd := [], nn := nx, rd := [] }
def qlZ (nx : Nat) (K : Eff2 → Option R) (x : A2) : Option R := K { v := .v (.a x), upd := [], nn := nx, rd := [] }
def qnR (fr : List (Nat × Sv2)) (p : Nat × Operand) : Option (Nat × V2) := (qgD fr p.2).bind fun v => some (p.1, v)

def qCf (a b : A2) (nx : Nat) (K : Eff2 → Option R) : Option R :=
  match a, b with
  | .int k x, .int _ y => qc2 (.a (.int k (max x y))) nx K
  | _, _ => none
def qCg (a b : A2) (nx : Nat) (K : Eff2 → Option R) : Option R :=
  match a, b with
  | .int k x, .int _ y => qc2 (.a (.int k (min x y))) nx K
  | _, _ => none

def qta (fr : List (Nat × Sv2)) (o : Operand) : Option (List A2) :=
  match ev2 fr o with
  | some (.v (.g cs)) => some cs
  | _ => none
def qhn : List A2 → List A2 → Bool
  | [], [] => true
  | .int k _ :: r, .int k2 _ :: s => match decide (k = k2) with
    | true => qhn r s
    | false => false
  | _, _ => false
def eqK : List A2 → List A2 → (Bool → Option R) → Option R
  | .int _ x :: r, .int _ y :: s, K => if (x == y) = true then eqK r s K else K false
  | _, _, K => K true
def qvz (op : BinOp) (ti : TI) (cs : List A2) (v : V2) (nx : Nat) (K : Eff2 → Option R) : Option R :=
  match ti.d, v with
  | .st fs _, .g ds => if ti.eqs = true ∧ fs.length = cs.length then match qhn cs ds with
    | true => eqK cs ds fun b => match op with
      | .eql => qc2 (.a (.bool b)) nx K
      | .neq => qc2 (.a (.bool (!b))) nx K
      | _ => none
    | false => none
    else none
  | _, _ => none
def qtb (i : Int) : List A2 → (A2 → Option R) → Option R
  | [], _ => none
  | x :: r, K => if i = 0 then K x else qtb (i - 1) r K
def qvA (o : Oper) (fr : List (Nat × Sv2)) (mem : qI) (nx : Nat) (K : Eff2 → Option R) : Option R :=
  match o.op with
  | .move x | .assign x =>
    (ev2 fr x).bind fun v =>
    match v with
    | .v (.a (.snil ..)) => match qax c.T o.type with
      | some (.sl e) => (c.T e).bind fun te => qc2 (.a (.snil te.size e)) nx K
      | _ => none
    | .u => none
    | v => K { v := v, upd := [], nn := nx, rd := [] }
  | .pick k a b =>
    (qqR fr k).bind fun t => if t = true then (qct fr a).bind (qlZ nx K) else (qct fr b).bind (qlZ nx K)
  | .alloc t => (c.T t).bind fun ti => (qi6 ti).bind fun z =>
    if z.length = ti.size then K { v := .v (.a (.ptr nx 0 0)), upd := [(nx, some ⟨.raw [z], ti.size, t, true, false⟩)], nn := nx + 1, rd := [] } else none
  | .box t x => (c.T t).bind fun ti => (qgD fr x).bind fun v =>
    if v.cells.length = ti.size then
    K { v := .v (.a (.ptr nx 0 0)), upd := [(nx, some ⟨.raw [v.cells], ti.size, t, v.cells.all A2.pr, false⟩)], nn := nx + 1, rd := [] } else none
  | .build t parts => (c.T t).bind fun ti =>
    match ti.d with
    | .st fs _ => (qi6 ti).bind fun z => if z.length = ti.size then (qu (qnR fr) parts.toList).bind fun ps =>
      (qhT fs z ps).bind fun cs => qc2 (.g cs) nx K else none
    | .arr n e => (c.T e).bind fun te => (qi6 ti).bind fun z => if z.length = ti.size then (qu (qnR fr) parts.toList).bind fun ps =>
      (qhT ((List.range n).map fun j => (j * te.size, te.size)) z ps).bind fun cs => qc2 (.g cs) nx K else none
    | _ => none
  | .buildSlice t len parts =>
    match qax c.T t with
    | some (.sl e) => (c.T e).bind fun te => (qi6 te).bind fun z =>
      (qu (qnR fr) parts.toList).bind fun ps =>
      (qlV te.size (List.replicate len z) ps).bind fun els =>
      if len * te.size ≤ 16777216 ∧ 0 < te.size ∧ len < 9223372036854775807 ∧ z.length = te.size then
      K { v := .v (.a (.sm nx 0 len)), upd := [(nx, some ⟨qs4 (cod c.T 9 e) els, te.size, e, els.all fun e => e.all A2.pr, false⟩)], nn := nx + 1, rd := [] }
      else none
    | _ => none
  | .load t x => (c.T t).bind fun ti => (qct fr x).bind fun a =>
    match a with
    | .ptr m i o => (qc1 mem m).bind fun b => match b.bd with
      | .raw els => (els[i]?).bind fun e => (qhm ti e o).bind fun v => K { v := .v v, upd := [], nn := nx, rd := [m] }
      | .arr d l => (l[i]?).bind fun e => (qhm ti (d.cl e) o).bind fun v => K { v := .v v, upd := [], nn := nx, rd := [m] }
    | .pe d e o => (qhm ti (d.cl e) o).bind fun v => qc2 v nx K
    | _ => none
  | .store t x y => (c.T t).bind fun ti => (qgD fr y).bind fun v => (qct fr x).bind fun a =>
    match a with
    | .ptr m i o => (qc1 mem m).bind fun b => match b.bd with
      | .raw els => (els[i]?).bind fun e => if v.cells.length = ti.size ∧ o + ti.size ≤ e.length ∧ b.fz = false then
        K { v := .u, upd := [(m, some ⟨.raw (els.set i (qqS e o v.cells)), b.es, b.ty, b.pr && v.cells.all A2.pr, b.fz⟩)], nn := nx, rd := [m] } else none
      | .arr d l => (l[i]?).bind fun e => if v.cells.length = ti.size ∧ o + ti.size ≤ (d.cl e).length ∧ b.fz = false ∧ b.pr = true then
        (d.dec (qqS (d.cl e) o v.cells)).bind fun e' => K { v := .u, upd := [(m, some ⟨.arr d (l.set i e'), b.es, b.ty, b.pr && v.cells.all A2.pr, b.fz⟩)], nn := nx, rd := [m] } else none
    | _ => none
  | .nilCheck x => (qct fr x).bind fun a =>
    match a with
    | .ptr m i o => qc2 (.a (.ptr m i o)) nx K
    | .pe d e o => qc2 (.a (.pe d e o)) nx K
    | _ => none
  | .binOp op ty x y _ => match qta fr x with
    | some cs => (c.T ty).bind fun ti => (qgD fr y).bind fun v => qvz op ti cs v nx K
    | none => (qct fr x).bind fun a => (qct fr y).bind fun b => qqT c.T op ty a b (qlZ nx K)
  | .unOp op _ x => (qct fr x).bind fun a => un2 op a (qlZ nx K)
  | .convert src dst x => (qct fr x).bind fun a =>
    match qax c.T src, qax c.T dst with
    | some (.sl e), some .str => match qax c.T e with
      | some (.int .u8) => qs7 mem 1 a fun q rd => match q with
        | .nil => K { v := .v (.a (.str ⟨#[]⟩)), upd := [], nn := nx, rd := rd }
        | .of (.int .u8) l => K { v := .v (.a (.str ⟨(l.map fun n : Int => n.toNat.toUInt8).toArray⟩)), upd := [], nn := nx, rd := rd }
        | _ => none
      | _ => none
    | _, _ => qs6 c.T src dst a (qlZ nx K)
  | .makeSlice t l k =>
    match qax c.T t with
    | some (.sl e) => (c.T e).bind fun te => (qi6 te).bind fun z => (cod c.T 9 e).bind fun d => (d.dec z).bind fun z0 =>
      (qhS fr l).bind fun l => (qhS fr k).bind fun k =>
        if 0 < te.size ∧ 0 < te.bytes ∧ z.length = te.size then
        if 0 ≤ l ∧ l ≤ k ∧ k * te.bytes ≤ 140737488355328 then
          K { v := .v (.a (.sm nx 0 l.toNat)), upd := [(nx, some ⟨.arr d (List.replicate k.toNat z0), te.size, e, true, false⟩)], nn := nx + 1, rd := [] }
        else none else none
    | _ => none
  | .slice t x lo hi mx =>
    if mx.isSome then none else
    (qax c.T t).bind fun td => (qct fr x).bind fun a =>
    match td, a with
    | .str, .str s =>
      (qe8 fr 0 lo).bind fun l => (qe8 fr s.size hi).bind fun h =>
      if 0 ≤ l ∧ l ≤ h ∧ h ≤ s.size then qc2 (.a (.str (s.extract l.toNat h.toNat))) nx K else none
    | .sl e, .sl d els => (c.T e).bind fun te =>
      (qe8 fr 0 lo).bind fun l => (qe8 fr els.length hi).bind fun h =>
      if d.sz = te.size then if 0 ≤ l ∧ l ≤ h ∧ h ≤ els.length then qc2 (.a (.sl d ((els.drop l.toNat).take (h.toNat - l.toNat)))) nx K else none else none
    | .sl e, .sm m b n => (c.T e).bind fun te =>
      (qc1 mem m).bind fun B => match B.bd with
      | .arr _ els =>
        (qe8 fr 0 lo).bind fun l => (qe8 fr n hi).bind fun h =>
        if B.es = te.size ∧ 0 < te.size then if 0 ≤ l ∧ l ≤ h ∧ b + h.toNat ≤ els.length ∧ (l < h ∨ lo.isNone = true) then K { v := .v (.a (.sm m (b + l.toNat) (h.toNat - l.toNat))), upd := [], nn := nx, rd := [m] } else none else none
      | .raw els =>
        (qe8 fr 0 lo).bind fun l => (qe8 fr n hi).bind fun h =>
        if B.es = te.size ∧ 0 < te.size then if 0 ≤ l ∧ l ≤ h ∧ b + h.toNat ≤ els.length ∧ (l < h ∨ lo.isNone = true) then K { v := .v (.a (.sm m (b + l.toNat) (h.toNat - l.toNat))), upd := [], nn := nx, rd := [m] } else none else none
    | _, _ => none
  | .fieldAddr s x f =>
    match qax c.T s with
    | some (.st fs _) => (fs[f]?).bind fun p =>
      if p.2 = 0 then none else (qct fr x).bind fun a =>
      match a with
      | .ptr m i o => qc2 (.a (.ptr m i (o + p.1))) nx K
      | .pe d e o => qc2 (.a (.pe d e (o + p.1))) nx K
      | _ => none
    | _ => none
  | .field s x f =>
    match qax c.T s with
    | some (.st fs ts) => (fs[f]?).bind fun p => (ts[f]?).bind fun ft => (qgD fr x).bind fun v =>
      match v with
      | .g cs => (c.T ft).bind fun ti => (qhm ti cs p.1).bind fun v => qc2 v nx K
      | _ => none
    | _ => none
  | .indexAddr t x i =>
    match qax c.T t with
    | some (.sl e) => (c.T e).bind fun te => (qhS fr i).bind fun i => (qct fr x).bind fun a =>
      match a with
      | .sl d els => if d.sz = te.size then if 0 ≤ i then (els[i.toNat]?).bind fun el => qc2 (.a (.pe d el 0)) nx K else none else none
      | .sm m b n => (qc1 mem m).bind fun B => if B.es = te.size then if 0 ≤ i ∧ i < n then K { v := .v (.a (.ptr m (b + i.toNat) 0)), upd := [], nn := nx, rd := [m] } else none else none
      | _ => none
    | _ => none
  | .index t x i => match qta fr x with
    | some cs => (c.T t).bind fun ti => (qhS fr i).bind fun i => match ti.d with
      | .arr n e => (c.T e).bind fun te => if te.size = 1 ∧ te.agg = false ∧ cs.length = n then qtb i cs (fun x => qc2 (.a x) nx K) else none
      | _ => none
    | none => (qax c.T t).bind fun td => (qct fr x).bind fun a => (qhS fr i).bind fun i =>
    match td, a with
    | .str, .str s =>
      if 0 ≤ i then (s.data[i.toNat]?).bind fun b => qc2 (.a (.int .u8 b.toNat)) nx K else none
    | _, _ => none
  | .extract x i => (ev2 fr x).bind fun v =>
    match v with
    | .t vs => (vs[i]?).bind fun v => qc2 v nx K
    | _ => none
  | .call k =>
    match k.callee with
    | .builtin .len =>
      ((k.argTypes[0]?).bind fun t => qax c.T t).bind fun td => ((k.args[0]?).bind fun o => qct fr o).bind fun a =>
      match td, a with
      | .str, .str s => qc2 (.a (.int .i64 s.size)) nx K
      | .sl _, .sl _ l => qc2 (.a (.int .i64 l.length)) nx K
      | .sl _, .sm _ _ n => qc2 (.a (.int .i64 n)) nx K
      | .sl _, .snil .. => qc2 (.a (.int .i64 0)) nx K
      | _, _ => none
    | .builtin .min =>
      ((k.args[0]?).bind fun o => qct fr o).bind fun a => ((k.args[1]?).bind fun o => qct fr o).bind fun b =>
      if k.args.size = 2 then qCg a b nx K else none
    | .builtin .max =>
      ((k.args[0]?).bind fun o => qct fr o).bind fun a => ((k.args[1]?).bind fun o => qct fr o).bind fun b =>
      if k.args.size = 2 then qCf a b nx K else none
    | .builtin .append =>
      (k.argTypes[0]?).bind fun t => (k.argTypes[1]?).bind fun t' => ((k.args[0]?).bind fun o => qct fr o).bind fun s => ((k.args[1]?).bind fun o => qct fr o).bind fun x =>
      if t' = t then qvy c t s x mem nx K else none
    | .builtin _ => none
    | .value f =>
      (qct fr f).bind fun a => match a with
      | .fn g => (qu (qgD fr) k.args.toList).bind fun args => qs9 c CO g args mem nx K
      | _ => none
    | .invoke .. => none
  | _ => none

inductive Out2 where
  | norm (σ : St2)
  | exit (id : Nat) (σ : St2)
  | ret (σ : St2)

def qoR (nt : Nat) (d : Option Nat) (v : Sv2) (fr : List (Nat × Sv2)) (K : List (Nat × Sv2) → Option R) : Option R :=
  match d with
  | some d => if d < nt then K ((d, v) :: fr) else none
  | none => K fr
def qoS (nt : Nat) (o : Oper) (σ : St2) (is : List Info) (K : St2 → List Info → Option R) : Option R :=
  qvA c CO o σ.fr σ.mem σ.nx fun e =>
  qoR nt o.dst e.v σ.fr fun fr => K { fr := fr, mem := qeI σ.mem e.upd, nx := e.nn } ({ rd := e.rd, wr := e.upd.map (·.1) } :: is)
def ql0 (nt : Nat) (o : Oper) (σ : St2) (is : List Info) (K : St2 → List Info → Option R) : Option R :=
  qoR nt o.dst .u σ.fr fun fr => K { fr := fr, mem := σ.mem, nx := σ.nx } ({ rd := [], wr := [] } :: is)
def know (d : Nat) (b : Bool) (σ : St2) : St2 := { σ with fr := (d, .v (.a (.bool b))) :: σ.fr }
def quq (nt : Nat) (ops : List Oper) (o : Oper) (σ : St2) (is : List Info) (K : St2 → List Info → Option R) : Option R :=
  match o.guard with
  | none => qoS c CO nt o σ is K
  | some (j, want) =>
    ((ops[j]?).bind (·.dst)).bind fun d =>
    (lk σ.fr d).bind fun v =>
    match v with
    | .v (.a (.bool b)) => if b = want then qoS c CO nt o (know d want σ) is K else ql0 nt o (know d (!want) σ) is K
    | _ => ql0 nt o σ is K
def qi7 (nt : Nat) (ops : List Oper) : List Oper → St2 → List Info → (St2 → List Info → Option R) → Option R
  | [], σ, is, K => K σ is
  | o :: r, σ, is, K => quq c CO nt ops o σ is fun σ is => qi7 nt ops r σ is K

variable (LO : Nat → Code → St2 → (Out2 → Option R) → Option R)
def qF (nt : Nat) : Nat → Code → St2 → (Out2 → Option R) → Option R
  | _, .skip, σ, K => K (.norm σ)
  | _, .region _ ops draw, σ, K => qi7 c CO nt ops.toList ops.toList σ [] fun σ' is => if (draw && !(qlH ops.toList is.reverse)) = true then none else K (.norm σ')
  | b, .seq x y, σ, K => qF nt b x σ fun
    | .norm σ' => qF nt b y σ' K
    | o => K o
  | b, .cond (.tmp t) x y, σ, K => (lk σ.fr t).bind fun v =>
    match v with
    | .v (.a (.bool q)) => if q = true then qF nt b x (know t true σ) K else qF nt b y (know t false σ) K
    | _ => none
  | b, .cond o x y, σ, K => (qqR σ.fr o).bind fun q => if q = true then qF nt b x σ K else qF nt b y σ K
  | _, .block id x, σ, K => qF nt id x σ fun
    | .exit i σ' => if i = id then K (.norm σ') else K (.exit i σ')
    | o => K o
  | b, .loop x, σ, K => LO b x σ K
  | _, .exit id, σ, K => K (.exit id σ)
  | _, .ret, σ, K => K (.ret σ)
  | _, .rangeFunc .., _, _ => none
  | _, .scope _, _, _ => none
  | _, .label _, _, _ => none
  | _, .goto _, _, _ => none
  | _, .refuse _, _, _ => none
end

def qho (T : TypeId → Option TI) (nx : Nat) : A2 → A2 × qI × Nat
  | .snil es ty => (.sm nx 0 0, [(nx, some ⟨match cod T 9 ty with | some d => .arr d [] | none => .raw [], es, ty, true, false⟩)], nx + 1)
  | x => (x, [], nx)
def qgs (T : TypeId → Option TI) : Nat → List A2 → List A2 × qI × Nat
  | nx, [] => ([], [], nx)
  | nx, x :: r => (fun p => (fun q => (p.1 :: q.1, p.2.1 ++ q.2.1, q.2.2)) (qgs T p.2.2 r)) (qho T nx x)
def qgT (T : TypeId → Option TI) (σ : St2) : List Kp → Option (List (Nat × V2) × qI × Nat)
  | [] => some ([], [], σ.nx)
  | .s t :: r => (qgT T σ r).bind fun q =>
    match lk σ.fr t with
    | some (.v (.a x)) => (fun p => some ((t, .a p.1) :: q.1, q.2.1 ++ p.2.1, p.2.2)) (qho T q.2.2 x)
    | some (.v (.g cs)) => (fun p => some ((t, .g p.1) :: q.1, q.2.1 ++ p.2.1, p.2.2)) (qgs T q.2.2 cs)
    | _ => none
  | .b t :: r => (qgT T σ r).bind fun q =>
    match lk σ.fr t with
    | some (.v (.a (.ptr m 0 o))) => (qc1 (qeI σ.mem q.2.1) m).bind fun b =>
      match b.bd with
      | .raw [e] => (fun p => some ((t, .a (.ptr m 0 o)) :: q.1, q.2.1 ++ (p.2.1 ++ [(m, some ⟨.raw [p.1], b.es, b.ty, p.1.all A2.pr, b.fz⟩)]), p.2.2)) (qgs T q.2.2 e)
      | _ => none
    | _ => none
def qoT (ρ : Nat → Option Nat) : List (Nat × V2) → Option (List (Nat × Sv2))
  | [] => some []
  | (t, x) :: r => (qhl ρ x).bind fun y => (qoT ρ r).bind fun s => some ((t, .v y) :: s)
def qoU (T : TypeId → Option TI) (p : Nat) (ks : List Kp) (σ : St2) : Option St2 :=
  (qgT T σ ks).bind fun q =>
  frc (qeI σ.mem q.2.1) fun mem =>
  frc (clo (qbZ A2.nm mem) 64 (List.range p ++ qdv A2.nm (q.1.map (·.2))) []) fun N =>
  (qoT (idx N) q.1).bind fun fr =>
    (qu (fun m => (qc1 mem m).bind (qlU (idx N))) N).bind fun bs =>
    if N.take p = List.range p then some { fr := fr, mem := qqU (List.range N.length) bs, nx := N.length } else none

section
variable {R : Type} (c : Cfg)
def ql1 (σ : St2) : ResultVar → Option V2
  | .tmp t => qgD σ.fr (.tmp t)
  | .cell a t => (c.T t).bind fun ti =>
    (qct σ.fr (.tmp a)).bind fun x => match x with
    | .ptr m i o => (qc1 σ.mem m).bind fun b => match b.bd with
      | .raw els => (els[i]?).bind fun e => qhm ti e o
      | .arr .. => none
    | _ => none
def qe9 (T : TypeId → Option TI) : Nat → List V2 → List V2 × qI × Nat
  | nx, [] => ([], [], nx)
  | nx, .a x :: r => (fun p => (fun q => (.a p.1 :: q.1, p.2.1 ++ q.2.1, q.2.2)) (qe9 T p.2.2 r)) (qho T nx x)
  | nx, .g cs :: r => (fun p => (fun q => (.g p.1 :: q.1, p.2.1 ++ q.2.1, q.2.2)) (qe9 T p.2.2 r)) (qgs T nx cs)
def qi8 (f : FuncId) (rvs : List ResultVar) (p : Nat) (σ : St2) (K : List V2 × List Blk2 → Option R) : Option R :=
  (qu (ql1 c σ) rvs).bind fun rs0 =>
  frc (if c.ownR f then qe9 c.T σ.nx rs0 else (rs0, [], σ.nx)) fun q =>
  frc (qeI σ.mem q.2.1) fun mem =>
  (fun K => if c.ownR f then K q.1 else qfM (qlY c mem) rs0 K) fun rs =>
  frc (clo (if c.mutA f then qbZ A2.nm mem else qbZ A2.ptrs mem) 64 (List.range p ++ qdv A2.nm rs) []) fun N =>
  frc ((if c.ownR f then [] else qdv A2.smn rs0) ++ (if c.mutA f then [] else N.flatMap (qbZ A2.smn mem))) fun F =>
  frc (qeI mem (fz2 mem F)) fun mem1 =>
  (qu (qhl (idx N)) rs).bind fun rs' =>
    qfM (qoQ c (c.mutA f) mem mem1 (idx N)) N fun bs =>
    if N.take p = List.range p then K (rs', bs) else none
def qwT (f : FuncId) (rvs : List ResultVar) (p : Nat) (K : List V2 × List Blk2 → Option R) : Out2 → Option R
  | .norm σ => qi8 c f rvs p σ K
  | .ret σ => qi8 c f rvs p σ K
  | .exit .. => none
def qtc (args : List V2) : List (Nat × Sv2) := qdq 0 (args.map Sv2.v)
def qi (CO : FuncId → List V2 → List Blk2 → (List V2 × List Blk2 → Option R) → Option R) (LO : Nat → Code → St2 → (Out2 → Option R) → Option R)
    (f : FuncId) (nt : Nat) (rvs : List ResultVar) (body : Code) (args : List V2) (blks : List Blk2) (K : List V2 × List Blk2 → Option R) : Option R :=
  qF c CO LO nt 0 body { fr := qtc args, mem := qdq 0 (blks.map some), nx := blks.length } (qwT c f rvs blks.length K)
end

end Go.Proofs.Ytbhnafdmilfobaa.Am

/- What the typed machine says the abstract machine says: words, memory, qgu, freezing. -/
set_option linter.unusedVariables false
set_option linter.unusedSimpArgs false
namespace Go.Proofs.Ytbhnafdmilfobaa.Am
open Go

theorem qfB : ∀ (c : Cd) (x : c.D), (c.cl x).map A2.at = c.at x
  | .int k, x => rfl
  | .bool, b => rfl
  | .str, s => rfl
  | .sl c, l => rfl
  | .pr a b, x => by simp only [Cd.cl, Cd.at, List.map_append, qfB a, qfB b]
theorem qk2 {a b : Cd} {l : List a.D} {m : List b.D} (h : qlS a b l = some m) : ∃ e : a = b, m = e ▸ l := by
  unfold qlS at h
  split at h
  · rename_i e; exact ⟨e, by cases h; rfl⟩
  · cases h
theorem qCh : ∀ {c : Cd} {cs : List A2} {x : c.D} {r : List A2}, c.de cs = some (x, r) → cs = c.cl x ++ r := by
  intro c
  induction c with
  | int k =>
    intro cs x r h
    match cs, h with
    | .int k' n :: r', h =>
      simp only [Cd.de] at h
      split at h
      · rename_i h'; subst h'; cases h; rfl
      · cases h
  | bool =>
    intro cs x r h
    match cs, h with
    | .bool b :: r', h => cases h; rfl
  | str =>
    intro cs x r h
    match cs, h with
    | .str b :: r', h => cases h; rfl
  | sl c ih =>
    intro cs x r h
    match cs, h with
    | .sl c' l :: r', h =>
      simp only [Cd.de, Option.bind_eq_some_iff] at h
      obtain ⟨m, h1, h⟩ := h
      cases h
      obtain ⟨e, rfl⟩ := qk2 h1
      cases e
      rfl
  | pr a b iha ihb =>
    intro cs x r h
    simp only [Cd.de, Option.bind_eq_some_iff] at h
    obtain ⟨p, h1, q, h2, h⟩ := h
    cases h
    rw [iha (x := p.1) (r := p.2) h1, ihb (x := q.1) (r := q.2) h2]
    simp [Cd.cl]
theorem dec_eq {c : Cd} {cs : List A2} {x : c.D} (h : c.dec cs = some x) : cs = c.cl x := by
  simp only [Cd.dec, Option.bind_eq_some_iff] at h
  obtain ⟨p, h1, h⟩ := h
  split at h
  · rename_i e
    cases h
    have := qCh (x := p.1) (r := p.2) h1
    rw [e, List.append_nil] at this
    exact this
  · cases h
theorem qqV {c : Cd} {cs : List A2} {x : c.D} (h : c.dec cs = some x) : cs.map A2.at = c.at x := by rw [dec_eq h, qfB]
theorem qxZ {c : Cd} : ∀ {els : List (List A2)} {l : List c.D}, qu c.dec els = some l → els.map (fun e => e.map A2.at) = l.map c.at := by
  intro els
  induction els with
  | nil => intro l h; cases h; rfl
  | cons e els ih =>
    intro l h
    simp only [qu, Option.bind_eq_some_iff] at h
    obtain ⟨y, h1, ys, h2, h⟩ := h
    cases h
    rw [List.map_cons, List.map_cons, qqV h1, ih h2]
theorem qtd (c : Option Cd) (els : List (List A2)) : (qs4 c els).rows = els.map fun e => e.map A2.at := by
  unfold qs4
  split
  · split
    · rename_i h; exact (qxZ h).symm
    · rfl
  · rfl

theorem qwU (a : A2) : a.at.nm = a.nm := by cases a <;> rfl
theorem qur (a : A2) : a.at.smn = a.smn := by cases a <;> rfl
theorem qx0 (a : A2) : a.at.ptrs = a.ptrs := by cases a <;> rfl
theorem qte (a : A2) : a.at.pr = a.pr := by cases a <;> rfl
theorem qx1 (a : A2) : a.at.noSl = a.noSl := by cases a <;> rfl
theorem qfZ : ∀ (c : Cd) (x : c.D), ∀ y ∈ c.at x, y.nm = [] ∧ y.smn = [] ∧ y.ptrs = [] ∧ y.pr = true
  | .int k, x => by simp [Cd.at, At.nm, At.smn, At.ptrs, At.pr]
  | .bool, b => by simp [Cd.at, At.nm, At.smn, At.ptrs, At.pr]
  | .str, s => by simp [Cd.at, At.nm, At.smn, At.ptrs, At.pr]
  | .sl c, l => by simp [Cd.at, At.nm, At.smn, At.ptrs, At.pr]
  | .pr a b, x => by
    intro y hy
    rcases List.mem_append.1 hy with hy | hy
    · exact qfZ a _ y hy
    · exact qfZ b _ y hy

theorem qd0 (v : V2) : v.at.cells = v.cells.map A2.at := by cases v <;> rfl
theorem qCi (m : qI) (n : Nat) : lk m.at n = (lk m n).map fun o => o.map Blk2.at := by
  induction m with
  | nil => rfl
  | cons p m ih =>
    simp only [qI.at, List.map_cons, lk, oAt] at ih ⊢
    split
    · rfl
    · exact ih
theorem qby (m : qI) (n : Nat) : qk m.at n = (qc1 m n).map Blk2.at := by
  unfold qk qc1
  rw [qCi]
  cases lk m n with
  | none => rfl
  | some o => cases o <;> rfl
theorem qyL (m : qI) (p : Nat × Option Blk2) : (qs3 m p).at = qcq m.at (oAt p) := by
  induction m with
  | nil => rfl
  | cons q m ih =>
    simp only [qs3, qI.at, List.map_cons, qcq, oAt] at ih ⊢
    split
    · rfl
    · simp only [List.map_cons, oAt, ih]
theorem qf0 (m u : qI) : (qeI m u).at = qU m.at u.at := by
  induction u generalizing m with
  | nil => rfl
  | cons p u ih =>
    simp only [qeI, ih, qyL]
    rfl
theorem qf1 (a b : qI) : qI.at (a ++ b) = a.at ++ b.at := by simp [qI.at]
theorem qfj (p : Nat × Option Blk2) (b : qI) : qI.at (p :: b) = oAt p :: b.at := rfl
theorem qx2 (u : qI) : u.at.map (·.1) = u.map (·.1) := by simp [qI.at, oAt, Function.comp_def]

theorem qhU (vs : List V2) : qg (vs.map V2.at) = qdv A2.nm vs := by
  simp only [qg, qdv, List.flatMap_map]
  congr 1; funext v
  rw [qd0, List.flatMap_map]
  congr 1; funext a; exact qwU a
theorem qsd (vs : List V2) : qfX (vs.map V2.at) = qdv A2.smn vs := by
  simp only [qfX, qdv, List.flatMap_map]
  congr 1; funext v
  rw [qd0, List.flatMap_map]
  congr 1; funext a; exact qur a
theorem qhp {f : At → List Nat} {g : A2 → List Nat} (h1 : ∀ a : A2, f a.at = g a) (h2 : ∀ (c : Cd) (x : c.D), ∀ y ∈ c.at x, f y = []) (b : Bd) :
    (b.rows.flatMap fun e => e.flatMap f) = b.els2.flatMap fun e => e.flatMap g := by
  cases b with
  | arr c l =>
    simp only [Bd.rows, Bd.els2, List.flatMap_nil, List.flatMap_eq_nil_iff, List.mem_map]
    rintro e ⟨x, _, rfl⟩ y hy
    exact h2 c x y hy
  | raw els =>
    simp only [Bd.rows, Bd.els2, List.flatMap_map]
    congr 1; funext e; congr 1; funext a; exact h1 a
theorem qoy (m : qI) : qdh m.at = qbZ A2.nm m := by
  funext n
  unfold qdh qbZ
  rw [qby]
  cases qc1 m n with
  | none => rfl
  | some b =>
    simp only [Option.map_some, qt8, Blk2.at]
    split
    · rfl
    · exact qhp qwU (fun c x y hy => (qfZ c x y hy).1) b.bd
theorem qvB (m : qI) : qe4 m.at = qbZ A2.ptrs m := by
  funext n
  unfold qe4 qbZ
  rw [qby]
  cases qc1 m n with
  | none => rfl
  | some b =>
    simp only [Option.map_some, Blk2.at]
    split
    · rfl
    · exact qhp qx0 (fun c x y hy => (qfZ c x y hy).2.2.1) b.bd
theorem qse (m : qI) : qdp m.at = qbZ A2.smn m := by
  funext n
  unfold qdp qbZ
  rw [qby]
  cases qc1 m n with
  | none => rfl
  | some b =>
    simp only [Option.map_some, Blk2.at]
    split
    · rfl
    · exact qhp qur (fun c x y hy => (qfZ c x y hy).2.1) b.bd

theorem qdw {α β α' β' : Type} {f : α → Option β} {g : α' → Option β'} {p : α → α'} {q : β → β'} (h : ∀ x y, f x = some y → g (p x) = some (q y)) :
    ∀ {l : List α} {ys : List β}, qu f l = some ys → qu g (l.map p) = some (ys.map q) := by
  intro l
  induction l with
  | nil => intro ys e; cases e; rfl
  | cons x l ih =>
    intro ys e
    simp only [qu, Option.bind_eq_some_iff] at e
    obtain ⟨y, e1, zs, e2, e⟩ := e
    cases e
    simp only [List.map_cons, qu, h _ _ e1, ih e2, Option.bind_some]
theorem qnS {ρ : Nat → Option Nat} {a b : A2} (h : qlT ρ a = some b) : qe2 ρ a.at = some b.at := by
  cases a <;> simp only [qlT, Option.bind_eq_some_iff] at h
  case ptr m i o => obtain ⟨m', h1, h⟩ := h; cases h; simp [A2.at, qe2, h1]
  case sm m i o => obtain ⟨m', h1, h⟩ := h; cases h; simp [A2.at, qe2, h1]
  all_goals (cases h; rfl)
theorem qi9 {ρ : Nat → Option Nat} {a b : V2} (h : qhl ρ a = some b) : qeG ρ a.at = some b.at := by
  cases a with
  | a x =>
    simp only [qhl, Option.bind_eq_some_iff] at h
    obtain ⟨y, h1, h⟩ := h
    cases h
    simp [V2.at, qeG, qnS h1]
  | g cs =>
    simp only [qhl, Option.bind_eq_some_iff] at h
    obtain ⟨y, h1, h⟩ := h
    cases h
    simp [V2.at, qeG, qdw (fun _ _ => qnS) h1]
theorem qja {ρ : Nat → Option Nat} {a b : Blk2} (h : qlU ρ a = some b) : qdX ρ a.at = some b.at := by
  unfold qlU at h
  unfold qdX
  split at h
  · rename_i hp
    cases h
    rw [if_pos (by exact hp)]
  · rename_i hp
    rw [if_neg (by exact hp)]
    split at h
    · rename_i els hb
      simp only [Option.bind_eq_some_iff] at h
      obtain ⟨els', h1, h⟩ := h
      cases h
      have := qdw (p := List.map A2.at) (q := List.map A2.at) (fun _ _ h => qdw (fun _ _ => qnS) h) h1
      simp only [Blk2.at, hb, Bd.rows, this, Option.bind_some]
    · cases h

def Snd {R α : Type} (m : (α → Option R) → Option R) (Q : α → Prop) : Prop := ∀ K r, m K = some r → ∃ x, K x = some r ∧ Q x
theorem qfk {R α β α' β' : Type} {f : α → (β → Option R) → Option R} {g : α' → Option β'} {p : α → α'} {q : β → β'} (h : ∀ x, Snd (f x) fun y => g (p x) = some (q y)) :
    ∀ l : List α, Snd (qfM f l) fun ys => qu g (l.map p) = some (ys.map q) := by
  intro l
  induction l with
  | nil => intro K r e; exact ⟨[], e, rfl⟩
  | cons x l ih =>
    intro K r e
    simp only [qfM] at e
    obtain ⟨y, e1, h1⟩ := h x _ _ e
    obtain ⟨ys, e2, h2⟩ := ih _ _ e1
    exact ⟨y :: ys, e2, by simp only [List.map_cons, qu, h1, h2, Option.bind_some]⟩

section
variable {R : Type} {c : Cfg}
theorem qnT (mem : qI) (a : A2) : Snd (qlX (R := R) c mem a) fun y => qem mem.at a.at = some y.at := by
  intro K r e
  cases a <;> simp only [qlX] at e
  case sm m lo n =>
    simp only [Option.bind_eq_some_iff] at e
    obtain ⟨b, e1, e⟩ := e
    split at e
    · rename_i hp
      split at e
      · rename_i d l hb
        split at e
        · rename_i hz
          split at e
          · rename_i hl
            refine ⟨_, e, ?_⟩
            have hrows : b.at.els = l.map d.at := by simp [Blk2.at, hb, Bd.rows]
            simp only [A2.at, qem, qby, e1, Option.map_some, Option.bind_some, hrows]
            rw [if_pos ⟨hp, by simpa using hl⟩]
            simp only [Blk2.at, hz, List.map_take, List.map_drop, List.length_take, List.length_drop]
            rw [show min n (l.length - lo) = n by omega]
          · cases e
        · cases e
      · cases e
    · cases e
  case snil es ty =>
    simp only [Option.bind_eq_some_iff] at e
    obtain ⟨d, e1, e⟩ := e
    split at e
    · rename_i hz
      exact ⟨_, e, by simp [A2.at, qem, hz]⟩
    · cases e
  all_goals exact ⟨_, e, rfl⟩
theorem qsf (mem : qI) (v : V2) : Snd (qlY (R := R) c mem v) fun y => qdW mem.at v.at = some y.at := by
  intro K r e
  cases v with
  | a x =>
    obtain ⟨y, e1, h1⟩ := qnT mem x (fun y => K (.a y)) r e
    exact ⟨_, e1, by simp [V2.at, qdW, h1]⟩
  | g cs =>
    obtain ⟨y, e1, h1⟩ := qfk (fun a => qnT mem a) cs (fun ys => K (.g ys)) r e
    exact ⟨_, e1, by simp [V2.at, qdW, h1]⟩
theorem qx3 (mem : qI) (b : Blk2) : Snd (qs8 (R := R) c mem b) fun y => qe3 mem.at b.at = some y.at := by
  intro K r e
  unfold qs8 at e
  unfold qe3
  split at e
  · rename_i hp
    exact ⟨_, e, by rw [if_pos (by exact hp)]⟩
  · rename_i hp
    split at e
    · rename_i els hb
      obtain ⟨y, e1, h1⟩ := qfk (p := List.map A2.at) (q := List.map A2.at) (fun l => qfk (fun a => qnT mem a) l) els _ _ e
      refine ⟨_, e1, ?_⟩
      rw [if_neg (by exact hp)]
      simp only [Blk2.at, hb, Bd.rows, h1, Option.bind_some]
    · cases e
theorem qus (mu : Bool) (mem mem1 : qI) (ρ : Nat → Option Nat) (m : Nat) :
    Snd (qoQ (R := R) c mu mem mem1 ρ m) fun y => ((qk mem1.at m).bind fun b => (if mu then some b else qe3 mem.at b).bind (qdX ρ)) = some y.at := by
  intro K r e
  simp only [qoQ, Option.bind_eq_some_iff] at e
  obtain ⟨b, e1, e⟩ := e
  split at e
  · rename_i hm
    simp only [Option.bind_eq_some_iff] at e
    obtain ⟨b', e2, e⟩ := e
    exact ⟨b', e, by simp [qby, e1, hm, qja e2]⟩
  · rename_i hm
    obtain ⟨b1, e2, h1⟩ := qx3 mem b _ _ e
    simp only [Option.bind_eq_some_iff] at e2
    obtain ⟨b', e3, e2⟩ := e2
    exact ⟨b', e2, by simp [qby, e1, hm, h1, qja e3]⟩
theorem qtf (mem : qI) (F : List Nat) : (fz2 mem F).at = qcZ mem.at F := by
  induction F with
  | nil => rfl
  | cons m F ih =>
    simp only [fz2, qcZ, qby]
    cases qc1 mem m with
    | none => exact ih
    | some b => rw [Option.map_some, ← ih]; rfl
theorem qut (N : List Nat) (bs : List Blk2) : (qqU N bs).at = qdY N (bs.map Blk2.at) := by
  induction N generalizing bs with
  | nil => rfl
  | cons n N ih =>
    cases bs with
    | nil => rfl
    | cons b bs => simp only [qqU, List.map_cons, qdY, ← ih]; rfl
theorem qsg {α β : Type} : ∀ (n : Nat) (a : List α) (b : List β), a.length = b.length → cnt n a = cnt n b
  | _, [], [], _ => rfl
  | n, _ :: a, _ :: b, h => by rw [cnt, cnt, qsg (n + 1) a b (by simpa using h)]
  | _, [], _ :: _, h => by simp at h
  | _, _ :: _, [], h => by simp at h
theorem qyM (rs : List V2) : (qyK rs).at = qnN (rs.map V2.at) := by
  match rs with
  | [] => rfl
  | [x] => rfl
  | x :: y :: r => rfl
end
end Go.Proofs.Ytbhnafdmilfobaa.Am

/- What the typed machine says the abstract machine says: operations. -/
set_option linter.unusedVariables false
set_option linter.unusedSimpArgs false
namespace Go.Proofs.Ytbhnafdmilfobaa.Am
open Go

def FrR (fr2 : List (Nat × Sv2)) (fr : List (Nat × Sv)) : Prop := ∀ t v, lk fr2 t = some v → lk fr t = some v.at

section
variable {fr2 : List (Nat × Sv2)} {fr : List (Nat × Sv)}
theorem qvC {v : Value} {x : A2} (h : qqQ v = some x) : qlF v = some x.at := by
  unfold qqQ at h
  split at h <;> first | (cases h; rfl) | cases h
theorem FrR.ev (hF : FrR fr2 fr) {o : Operand} {v : Sv2} (h : ev2 fr2 o = some v) : Go.Proofs.Ytbhnafdmilfobaa.Am.ev fr o = some v.at := by
  cases o with
  | tmp t => exact hF t v h
  | const v =>
    simp only [ev2, Option.bind_eq_some_iff] at h
    obtain ⟨x, h1, h⟩ := h
    cases h
    simp [Am.ev, qvC h1, Sv2.at, V2.at]
  | func f => cases h; rfl
  | global g => cases h
theorem qyN {v : Sv2} {x : A2} (h : qvw v = some x) : svA v.at = some x.at := by
  unfold qvw at h
  split at h
  · cases h; rfl
  · cases h
theorem qyO {v : Sv2} {x : V2} (h : qvx v = some x) : svV v.at = some x.at := by
  unfold qvx at h
  split at h
  · cases h; rfl
  · cases h
theorem FrR.evA (hF : FrR fr2 fr) {o : Operand} {x : A2} (h : qct fr2 o = some x) : Am.evA fr o = some x.at := by
  simp only [qct, Option.bind_eq_some_iff] at h
  obtain ⟨v, h1, h⟩ := h
  simp [Am.evA, hF.ev h1, qyN h]
theorem FrR.evV (hF : FrR fr2 fr) {o : Operand} {x : V2} (h : qgD fr2 o = some x) : Am.evV fr o = some x.at := by
  simp only [qgD, Option.bind_eq_some_iff] at h
  obtain ⟨v, h1, h⟩ := h
  simp [Am.evV, hF.ev h1, qyO h]
theorem FrR.evB (hF : FrR fr2 fr) {o : Operand} {b : Bool} (h : qqR fr2 o = some b) : Am.evB fr o = some b := by
  simp only [qqR, Option.bind_eq_some_iff] at h
  obtain ⟨x, h1, h⟩ := h
  cases x <;> simp only [qyI] at h
  all_goals first | (cases h; simp [Am.evB, hF.evA h1, A2.at, asB]) | cases h
theorem FrR.evI (hF : FrR fr2 fr) {o : Operand} {i : Int} (h : qhS fr2 o = some i) : Am.evI fr o = some i := by
  simp only [qhS, Option.bind_eq_some_iff] at h
  obtain ⟨x, h1, h⟩ := h
  cases x <;> simp only [qyJ] at h
  all_goals first | (cases h; simp [Am.evI, hF.evA h1, A2.at, asI]) | cases h
theorem FrR.bound (hF : FrR fr2 fr) {d : Nat} {o : Option Operand} {i : Int} (h : qe8 fr2 d o = some i) : qcn fr d o = some i := by
  cases o with
  | none => exact h
  | some o => exact hF.evI h
theorem FrR.cons (hF : FrR fr2 fr) (d : Nat) (v : Sv2) : FrR ((d, v) :: fr2) ((d, v.at) :: fr) := by
  intro t x h
  simp only [lk] at h ⊢
  split at h
  · rename_i e; rw [if_pos e]; cases h; rfl
  · rename_i e; rw [if_neg e]; exact hF t x h
theorem FrR.know (hF : FrR fr2 fr) {d : Nat} {b b' : Bool} (hl : lk fr2 d = some (.v (.a (.bool b)))) (hb : b = b') : FrR ((d, .v (.a (.bool b'))) :: fr2) fr := by
  subst hb
  intro t x h
  simp only [lk] at h
  split at h
  · rename_i e; subst e; cases h; exact hF _ _ hl
  · exact hF t x h

theorem qyP {x : At} {y : A2} (h : at2 x = some y) : y.at = x := by
  unfold at2 at h
  split at h <;> first | (cases h; rfl) | cases h
theorem qgU {ti : TI} {z : List A2} (h : qi6 ti = some z) : z.map A2.at = ti.zero ∧ z.length = ti.zero.length := by
  have key : ∀ (l : List At) (z : List A2), qu at2 l = some z → z.map A2.at = l := by
    intro l
    induction l with
    | nil => intro z h; cases h; rfl
    | cons x l ih =>
      intro z h
      simp only [qu, Option.bind_eq_some_iff] at h
      obtain ⟨y, h1, ys, h2, h⟩ := h
      cases h
      rw [List.map_cons, qyP h1, ih _ h2]
  have := key _ _ h
  exact ⟨this, by rw [← this, List.length_map]⟩
theorem qgV {ti : TI} {e : List A2} {o : Nat} {v : V2} (h : qhm ti e o = some v) : qfO ti (e.map A2.at) o = some v.at := by
  unfold qhm at h
  unfold qfO
  split at h
  · rename_i ha
    split at h
    · rename_i hl
      cases h
      rw [if_pos ha, if_pos (by simpa using hl)]
      simp [V2.at, List.map_take, List.map_drop]
    · cases h
  · rename_i ha
    simp only [Option.bind_eq_some_iff] at h
    obtain ⟨x, h1, h⟩ := h
    cases h
    rw [if_neg ha]
    simp [h1, V2.at]
theorem qqW (cs : List A2) (o : Nat) (xs : List A2) : (qqS cs o xs).map A2.at = qdV (cs.map A2.at) o (xs.map A2.at) := by
  simp [qqS, qdV, List.map_take, List.map_drop]
theorem qqX {ds : List (Nat × Nat)} : ∀ {ps : List (Nat × V2)} {cs r : List A2}, qhT ds cs ps = some r → qgo ds (cs.map A2.at) (ps.map fun p => (p.1, p.2.at)) = some (r.map A2.at) := by
  intro ps
  induction ps with
  | nil => intro cs r h; cases h; rfl
  | cons p ps ih =>
    intro cs r h
    simp only [qhT, Option.bind_eq_some_iff] at h
    obtain ⟨q, h1, h⟩ := h
    split at h
    · rename_i hl
      simp only [List.map_cons, qgo, h1, Option.bind_some, qd0, List.length_map]
      rw [if_pos hl, ← qqW]
      exact ih h
    · cases h
theorem qvD {es : Nat} : ∀ {ps : List (Nat × V2)} {cs r : List (List A2)}, qlV es cs ps = some r → qhb es (cs.map fun e => e.map A2.at) (ps.map fun p => (p.1, p.2.at)) = some (r.map fun e => e.map A2.at) := by
  intro ps
  induction ps with
  | nil => intro cs r h; cases h; rfl
  | cons p ps ih =>
    intro cs r h
    simp only [qlV] at h
    split at h
    · rename_i hl
      simp only [List.map_cons, qhb, qd0, List.length_map]
      rw [if_pos hl, ← List.map_set]
      exact ih h
    · cases h
theorem qk3 (hF : FrR fr2 fr) {l : List (Nat × Operand)} {ps : List (Nat × V2)} (h : qu (qnR fr2) l = some ps) :
    qu (fun p : Nat × Operand => (Am.evV fr p.2).bind fun v => some (p.1, v)) l = some (ps.map fun p => (p.1, p.2.at)) := by
  have := qdw (p := id) (q := fun p : Nat × V2 => (p.1, p.2.at)) (f := qnR fr2) (g := fun p : Nat × Operand => (Am.evV fr p.2).bind fun v => some (p.1, v)) (fun x y h => by
    simp only [qnR, Option.bind_eq_some_iff] at h
    obtain ⟨v, h1, h⟩ := h
    cases h
    simp [hF.evV h1]) h
  simpa using this
theorem qqY (xs : List A2) : (xs.map A2.at).all At.pr = xs.all A2.pr := by
  rw [List.all_map]; congr 1; funext a; exact qte a
theorem quu (els : List (List A2)) : (els.map fun e => e.map A2.at).all (fun e => e.all At.pr) = els.all fun e => e.all A2.pr := by
  rw [List.all_map]; congr 1; funext a; exact qqY a
end

section
variable {R : Type} {c : Cfg} {callF : FuncId → List Vl → List Blk → Option (List Vl × List Blk)} {CO : FuncId → List V2 → List Blk2 → (List V2 × List Blk2 → Option R) → Option R}
  {fr2 : List (Nat × Sv2)} {fr : List (Nat × Sv)} {mem : qI} {nx : Nat}

theorem qyQ (T : TypeId → Option TI) (op : BinOp) (ty : TypeId) (a b : A2) : Snd (R := R) (qqT T op ty a b) fun y => qfL T op ty a.at b.at = some y.at := by
  intro K r e
  have ptr : ∀ (x y : A2), (if qs5 x then
      match qax T ty with
      | some .ptr =>
        match op with
        | .eql => (qlW x y).bind fun b => K (.bool b)
        | .neq => (qlW x y).bind fun b => K (.bool (!b))
        | _ => none
      | _ => none
      else none) = some r → ∃ z, K z = some r ∧ qfL T op ty x.at y.at = some z.at := by
    intro x y e
    split at e
    · rename_i hp
      cases x <;> simp only [qs5] at hp <;> first | cases hp | skip
      all_goals
        cases htd : qax T ty with
        | none => simp only [htd] at e; cases e
        | some td =>
          cases td <;> simp only [htd] at e <;> first | cases e | skip
          cases op <;> simp only [] at e <;> first | cases e | skip
          all_goals
            cases y <;> simp only [qlW, Option.bind_none, Option.bind_some] at e <;> first | cases e | skip
            all_goals exact ⟨_, e, by simp [A2.at, qfL, htd]⟩
    · cases e
  cases a with
  | int k x =>
    cases b with
    | int k' y =>
      cases op <;> simp only [qqT] at e
      case shl =>
        split at e
        · cases e
        · rename_i h; exact ⟨_, e, by simp [A2.at, qfL, h]⟩
      case shr =>
        split at e
        · cases e
        · rename_i h; exact ⟨_, e, by simp [A2.at, qfL, h]⟩
      all_goals
        split at e
        · rename_i hk
          subst hk
          simp only [qwS] at e
          first
            | exact ⟨_, e, by simp [A2.at, qfL, qqw]⟩
            | (split at e
               · cases e
               · rename_i h; exact ⟨_, e, by simp [A2.at, qfL, qqw, h]⟩)
            | cases e
        · cases e
    | _ => exact ptr _ _ e
  | str x =>
    cases b with
    | str y =>
      cases op <;> simp only [qqT] at e
      case add =>
        split at e
        · cases e
        · rename_i h; exact ⟨_, e, by simp only [A2.at, qfL]; rw [if_neg h]⟩
      case eql => exact ⟨_, e, rfl⟩
      case neq => exact ⟨_, e, rfl⟩
      all_goals cases e
    | _ => exact ptr _ _ e
  | bool x =>
    cases b with
    | bool y =>
      simp only [qqT] at e
      split at e
      · rename_i h1; exact ⟨_, e, by simp [A2.at, qfL, h1]⟩
      · rename_i h1; exact ⟨_, e, by simp [A2.at, qfL, h1]⟩
      · cases e
    | _ => exact ptr _ _ e
  | _ => exact ptr _ _ e

theorem qCj (op : UnOp) (a : A2) : Snd (R := R) (un2 op a) fun y => unA op a.at = some y.at := by
  intro K r e
  cases a <;> cases op <;> simp only [un2] at e <;> first | exact ⟨_, e, rfl⟩ | cases e
theorem qx4 (T : TypeId → Option TI) (src dst : TypeId) (a : A2) : Snd (R := R) (qs6 T src dst a) fun y => qi2 T src dst a.at = some y.at := by
  intro K r e
  unfold qs6 at e
  split at e
  · split at e
    · rename_i h1 h2; exact ⟨_, e, by simp [A2.at, qi2, h1, h2]⟩
    · cases e
  · rename_i s
    split at e
    · rename_i h1 h2; exact ⟨_, e, by simp [A2.at, qi2, h1, h2]⟩
    · rename_i h1 h2
      split at e
      · rename_i h3
        refine ⟨_, e, ?_⟩
        simp only [A2.at, qi2, h1, h2, h3]
        have e1 : (s.data.toList.map fun b => (b.toNat : Int)).length = s.size := by rw [List.length_map, Array.length_toList]; rfl
        have e2 : (s.data.toList.map fun b => (b.toNat : Int)).map (Cd.at (.int .u8)) = s.data.toList.map fun b => [At.int .u8 b.toNat] := by rw [List.map_map]; rfl
        rw [e1, e2]
        rfl
      · cases e
    · cases e
  · cases e

theorem quv (mem : qI) (es : Nat) (a : A2) (K : Src → List Nat → Option R) (r : R) (e : qs7 mem es a K = some r) :
    ∃ s rd, K s rd = some r ∧ elsOf mem.at es a.at = some (s.len, s.rows, true, rd) := by
  cases a <;> simp only [qs7] at e
  case sl c l =>
    split at e
    · rename_i h; exact ⟨_, _, e, by simp [A2.at, elsOf, h, Src.len, Src.rows]⟩
    · cases e
  case snil es' ty => exact ⟨_, _, e, rfl⟩
  case sm m lo n =>
    simp only [Option.bind_eq_some_iff] at e
    obtain ⟨b, e1, e⟩ := e
    split at e
    · rename_i c l hb
      split at e
      · rename_i h1
        split at e
        · rename_i h2
          split at e
          · rename_i h3
            refine ⟨_, _, e, ?_⟩
            have hrows : b.at.els = l.map c.at := by simp [Blk2.at, hb, Bd.rows]
            simp only [A2.at, elsOf, qby, e1, Option.map_some, Option.bind_some, hrows, Src.len, Src.rows, List.length_map]
            rw [if_pos ⟨h1, h3⟩]
            simp only [List.length_take, List.length_drop, List.map_take, List.map_drop, Option.some.injEq, Prod.mk.injEq, and_true, true_and]
            refine ⟨by omega, ?_⟩
            exact h2
          · cases e
        · cases e
      · cases e
    · cases e
  all_goals cases e
end
end Go.Proofs.Ytbhnafdmilfobaa.Am

/- What the typed machine says the abstract machine says: append, calls, every operation. -/
set_option linter.unusedVariables false
set_option linter.unusedSimpArgs false
namespace Go.Proofs.Ytbhnafdmilfobaa.Am
open Go

def COk {R : Type} (CO : FuncId → List V2 → List Blk2 → (List V2 × List Blk2 → Option R) → Option R) (callF : FuncId → List Vl → List Blk → Option (List Vl × List Blk)) : Prop :=
  ∀ f a b, Snd (CO f a b) fun r => callF f (a.map V2.at) (b.map Blk2.at) = some (r.1.map V2.at, r.2.map Blk2.at)

section
variable {R : Type} {c : Cfg} {callF : FuncId → List Vl → List Blk → Option (List Vl × List Blk)} {CO : FuncId → List V2 → List Blk2 → (List V2 × List Blk2 → Option R) → Option R}
  {fr2 : List (Nat × Sv2)} {fr : List (Nat × Sv)} {mem : qI} {nx : Nat}

theorem qx5 (t : TypeId) (s x : A2) (mem : qI) (nx : Nat) : Snd (R := R) (qvy c t s x mem nx) fun e => qdi c t s.at x.at mem.at nx = some e.at := by
  intro K r e
  unfold qvy at e
  unfold qdi
  split at e
  · rename_i el htd
    simp only [Option.bind_eq_some_iff] at e
    obtain ⟨te, hte, e⟩ := e
    split at e
    · rename_i hst
      obtain ⟨src, rd, e', hsrc⟩ := quv _ _ _ _ _ e
      clear e
      have e := e'
      clear e'
      have hlen : src.rows.length = src.len := by cases src <;> simp [Src.rows, Src.len]
      simp only [htd, hte, Option.bind_some, hsrc]
      cases s <;> simp only [] at e
      case snil es' ty' =>
        split at e
        · simp only [Option.bind_eq_some_iff] at e
          obtain ⟨d, hd, e⟩ := e
          refine ⟨_, e, ?_⟩
          simp only [A2.at, Option.bind_some, Src.len, Src.rows]
          refine (if_pos ⟨by simp, hst⟩).trans ?_
          simp [Eff2.at, qI.at, oAt, Blk2.at, Bd.rows, Sv2.at, V2.at, A2.at]
        · rename_i d l
          split at e
          · rename_i hb
            refine ⟨_, e, ?_⟩
            simp only [A2.at, Option.bind_some, Src.len, Src.rows]
            refine (if_pos ⟨by simpa using hb, hst⟩).trans ?_
            simp [Eff2.at, qI.at, oAt, Blk2.at, Bd.rows, Sv2.at, V2.at, A2.at]
          · cases e
      case sm m lo n =>
        simp only [Option.bind_eq_some_iff] at e
        obtain ⟨b, hb, e⟩ := e
        split at e
        · rename_i d l hbd
          split at e
          · rename_i hc
            split at e
            · rename_i hlo
              subst hlo
              split at e
              · rename_i hn
                have hrows : b.at.els = l.map d.at := by simp [Blk2.at, hbd, Bd.rows]
                simp only [A2.at, qby, hb, Option.map_some, Option.bind_some, hrows, List.length_map]
                rw [if_pos (show (True ∧ b.at.es = te.size ∧ b.at.ty = el ∧ n ≤ l.length ∧ (!b.at.fz) = true) from ⟨trivial, hc.1, hc.2.1, hn, by have := hc.2.2.1; simp [Blk2.at, this]⟩) ]
                have hpr : b.at.pr = true := hc.2.2.2
                simp only [Option.bind_some, hpr]
                split at e
                · split at e
                  · rename_i hbd2
                    refine ⟨_, e, ?_⟩
                    simp only [Src.len, Src.rows]
                    refine (if_pos ⟨by simpa using hbd2, hst⟩).trans ?_
                    simp [Eff2.at, qI.at, oAt, Blk2.at, Bd.rows, Sv2.at, V2.at, A2.at, List.map_take]
                  · cases e
                · rename_i d' l'
                  simp only [Option.bind_eq_some_iff] at e
                  obtain ⟨l2, hl2, e⟩ := e
                  obtain ⟨hdd, rfl⟩ := qk2 hl2
                  subst hdd
                  split at e
                  · rename_i hbd2
                    refine ⟨_, e, ?_⟩
                    simp only [Src.len, Src.rows]
                    refine (if_pos ⟨by simpa using hbd2, hst⟩).trans ?_
                    simp [Eff2.at, qI.at, oAt, Blk2.at, Bd.rows, Sv2.at, V2.at, A2.at, List.map_take]
                  · cases e
              · cases e
            · cases e
          · cases e
        · cases e
      all_goals cases e
    · cases e
  · cases e

theorem qx6 (f : FuncId) (mem : qI) (args : List V2) : Snd (R := R) (fun K => if c.mutA f then K args else qfM (qlY c mem) args K) fun vals => (if c.mutA f then some (args.map V2.at) else qu (qdW mem.at) (args.map V2.at)) = some (vals.map V2.at) := by
  intro K r e
  simp only [] at e
  split at e
  · rename_i h; exact ⟨_, e, by rw [if_pos h]⟩
  · rename_i h
    obtain ⟨x, e1, h1⟩ := qfk (fun v => qsf mem v) args _ _ e
    exact ⟨x, e1, by rw [if_neg h]; exact h1⟩
theorem quw (f : FuncId) (mem : qI) (l acc : List Nat) : clo (fun m => if c.mutA f then qdh mem.at m else qe4 mem.at m) 64 l acc = clo (if c.mutA f then qbZ A2.nm mem else qbZ A2.ptrs mem) 64 l acc := by
  congr 1
  funext m
  split
  · rw [qoy]
  · rw [qvB]
theorem qvE (rs : List V2) : (rs.map V2.at).all (fun v => v.cells.all At.noSl) = rs.all fun v => v.cells.all A2.noSl := by
  rw [List.all_map]; congr 1; funext v
  simp only [Function.comp_def, qd0, List.all_map]
  congr 1; funext a; exact qx1 a
theorem qqZ {α β : Type} (f : α → β) (l : List α) : (l.map f).isEmpty = l.isEmpty := by cases l <;> rfl

theorem qx7 (hC : COk CO callF) (f : FuncId) (args : List V2) (mem : qI) (nx : Nat) : Snd (qs9 c CO f args mem nx) fun e => qeW c callF f (args.map V2.at) mem.at nx = some e.at := by
  intro K r e
  unfold qs9 at e
  obtain ⟨vals, e, h1⟩ := qx6 f mem args _ _ e
  obtain ⟨blks, e, h2⟩ := qfk (q := Blk2.at) (p := id) (g := fun m => (qk (qI.at _) m).bind fun b => (if c.mutA f then some b else qe3 mem.at b).bind (qdX (idx _))) (fun m => qus _ _ _ _ m) _ _ _ e
  simp only [Option.bind_eq_some_iff] at e
  obtain ⟨vals', h3, e⟩ := e
  obtain ⟨r1, e, h4⟩ := hC _ _ _ _ _ e
  simp only [Option.bind_eq_some_iff] at e
  obtain ⟨rs, h5, bs, h6, e⟩ := e
  refine ⟨_, e, ?_⟩
  unfold qeW
  rw [h1]
  simp only [Option.bind_some, qhU, qsd, qse, quw]
  rw [List.map_id, qf0, qtf] at h2
  rw [h2]
  simp only [Option.bind_some]
  have h3' := qdw (fun _ _ => qi9) h3
  rw [h3']
  simp only [Option.bind_some, h4]
  have hcn : ∀ N : List Nat, cnt nx ((r1.2.map Blk2.at).drop N.length) = cnt nx (r1.2.drop N.length) := fun N => qsg _ _ _ (by simp)
  simp only [hcn]
  have h5' := qdw (fun _ _ => qi9) h5
  have h6' := qdw (fun _ _ => qja) h6
  rw [h5', Option.bind_some, h6', Option.bind_some]
  have hif : ∀ (p : Prop) [Decidable p] (a : qI), qI.at (if p then [] else a) = if p then [] else a.at := by intro p _ a; split <;> rfl
  simp only [Eff2.at, qyM, List.length_map, qqZ, qvE, qf1, qut, hif, qtf]

theorem qQ : qI.at [] = [] := rfl
theorem FrR.gSome {fr2 : List (Nat × Sv2)} {fr : List (Nat × Sv)} (hF : FrR fr2 fr) {o : Operand} {cs : List A2} (h : qta fr2 o = some cs) : gOf fr o = some (cs.map A2.at) := by
  unfold qta at h
  split at h
  · rename_i hh; cases h; unfold gOf; rw [hF.ev hh]; rfl
  · cases h
theorem FrR.gNone {fr2 : List (Nat × Sv2)} {fr : List (Nat × Sv)} (hF : FrR fr2 fr) {o : Operand} {x : A2} (h : qct fr2 o = some x) : gOf fr o = none := by
  have := hF.evA h
  simp only [Am.evA, Option.bind_eq_some_iff] at this
  obtain ⟨v, h1, h2⟩ := this
  unfold gOf
  rw [h1]
  unfold Am.svA at h2
  split at h2
  · rfl
  · cases h2
theorem qux {R : Type} : ∀ (cs ds : List A2) (K : Bool → Option R) (r : R), qhn cs ds = true → eqK cs ds K = some r → ∃ b, eqA (cs.map A2.at) (ds.map A2.at) = some b ∧ K b = some r
  | [], ds, K, r, h, e => by
    cases ds with
    | nil => exact ⟨true, rfl, e⟩
    | cons d ds => simp [qhn] at h
  | c :: cs, [], K, r, h, e => by cases c <;> simp [qhn] at h
  | c :: cs, d :: ds, K, r, h, e => by
    unfold qhn at h
    split at h
    · rename_i h1 h2; cases h1
    · rename_i k x r1 k2 y r2 h1 h2
      cases h1; cases h2
      split at h
      · rename_i hk
        have hk := of_decide_eq_true hk
        subst hk
        have tot : ∃ b, eqA (cs.map A2.at) (ds.map A2.at) = some b := by
          clear e
          revert h
          generalize cs = l
          generalize ds = m
          intro h
          induction l generalizing m with
          | nil =>
            cases m with
            | nil => exact ⟨true, rfl⟩
            | cons b m => simp [qhn] at h
          | cons a l ih =>
            cases m with
            | nil => cases a <;> simp [qhn] at h
            | cons b m =>
              unfold qhn at h
              split at h
              · rename_i h1 h2; cases h1
              · rename_i k' x' r1 k2' y' r2 h1 h2
                cases h1; cases h2
                split at h
                · rename_i hk'
                  have hk' := of_decide_eq_true hk'
                  subst hk'
                  obtain ⟨b, hb⟩ := ih _ h
                  exact ⟨(x' == y' && b), by simp [A2.at, eqA, hb]⟩
                · cases h
              · cases h
        unfold eqK at e
        by_cases hxy : x = y
        · subst hxy
          rw [if_pos (by simp)] at e
          obtain ⟨b, b1, b2⟩ := qux cs ds K r h e
          exact ⟨b, by simp [A2.at, eqA, b1], b2⟩
        · rw [if_neg (by simpa using hxy)] at e
          obtain ⟨b, hb⟩ := tot
          refine ⟨false, ?_, e⟩
          have : (x == y) = false := by simpa using hxy
          simp [A2.at, eqA, hb, this]
      · cases h
    · cases h
theorem qyR {R : Type} (op : BinOp) (ti : TI) (cs : List A2) (v : V2) (nx : Nat) (K : Eff2 → Option R) {r : R} (e : qvz op ti cs v nx K = some r) : ∃ z : Eff2, K z = some r ∧ eqG op ti (cs.map A2.at) v.at nx = some z.at := by
  unfold qvz at e
  split at e
  · rename_i fs ts ds hd
    split at e
    · rename_i hc
      split at e
      · rename_i ho
        obtain ⟨b, b1, b2⟩ := qux _ _ _ _ ho e
        unfold eqG
        simp only [hd, V2.at]
        rw [if_pos ⟨hc.1, by simpa using hc.2⟩, b1, Option.bind_some]
        split at b2
        · exact ⟨_, b2, by simp [val, Eff2.at, qQ, Sv2.at, V2.at, A2.at]⟩
        · exact ⟨_, b2, by simp [val, Eff2.at, qQ, Sv2.at, V2.at, A2.at]⟩
        · cases b2
      · cases e
    · cases e
  · cases e
theorem quy {R : Type} : ∀ (i : Int) (cs : List A2) (K : A2 → Option R) {r : R}, qtb i cs K = some r → ∃ x, 0 ≤ i ∧ i < cs.length ∧ (cs.map A2.at)[i.toNat]? = some x.at ∧ K x = some r
  | i, [], K, r, e => by cases e
  | i, c :: cs, K, r, e => by
    unfold qtb at e
    split at e
    · rename_i h
      subst h
      exact ⟨c, by omega, by simp only [List.length_cons]; omega, by simp, e⟩
    · rename_i h
      obtain ⟨x, h1, h2, h3, h4⟩ := quy (i - 1) cs K e
      refine ⟨x, by omega, by simp only [List.length_cons]; omega, ?_, h4⟩
      have : i.toNat = (i - 1).toNat + 1 := by omega
      rw [this]
      simpa using h3
theorem qyS (hC : COk CO callF) (hF : FrR fr2 fr) (o : Oper) : Snd (qvA c CO o fr2 mem nx) fun e => stp c callF o fr mem.at nx = some e.at := by
  intro K r e
  obtain ⟨dst, op, type, pos, after, guard⟩ := o
  have mv : ∀ x : Operand, ((ev2 fr2 x).bind fun v =>
      match v with
      | .v (.a (.snil ..)) => match qax c.T type with
        | some (.sl e) => (c.T e).bind fun te => qc2 (.a (.snil te.size e)) nx K
        | _ => none
      | .u => none
      | v => K { v := v, upd := [], nn := nx, rd := [] }) = some r → ∃ z : Eff2, K z = some r ∧ ((ev fr x).bind fun v =>
    match v with
    | .v (.a (.snil ..)) => match qax c.T type with
      | some (.sl e) => (c.T e).bind fun te => val (.a (.snil te.size e)) nx
      | _ => none
    | .u => none
    | v => some { v := v, upd := [], nn := nx, rd := [] }) = some z.at := by
    intro x e
    simp only [Option.bind_eq_some_iff] at e
    obtain ⟨v, h1, e⟩ := e
    rw [hF.ev h1, Option.bind_some]
    split at e
    · split at e
      · rename_i htd
        simp only [Option.bind_eq_some_iff] at e
        obtain ⟨te, h2, e⟩ := e
        exact ⟨_, e, by simp [Sv2.at, V2.at, A2.at, htd, h2, val, Eff2.at, qQ]⟩
      · cases e
    · cases e
    · rename_i h2 h3
      refine ⟨_, e, ?_⟩
      cases v with
      | u => exact absurd rfl h3
      | t vs => rfl
      | v y =>
        cases y with
        | g cs => rfl
        | a z =>
          cases z with
          | snil es ty => exact absurd rfl (h2 es ty)
          | _ => rfl
  cases op <;> simp only [qvA] at e <;> simp only [stp]
  case move x => exact mv x e
  case assign x => exact mv x e
  case pick k a b =>
    simp only [Option.bind_eq_some_iff] at e
    obtain ⟨t, h1, e⟩ := e
    rw [hF.evB h1, Option.bind_some]
    split at e
    · rename_i ht
      subst ht
      simp only [Option.bind_eq_some_iff] at e
      obtain ⟨x, h2, e⟩ := e
      exact ⟨_, e, by simp [hF.evA h2, val, Eff2.at, Sv2.at, V2.at, qQ]⟩
    · rename_i ht
      simp only [Option.bind_eq_some_iff] at e
      obtain ⟨x, h2, e⟩ := e
      exact ⟨_, e, by simp [ht, hF.evA h2, val, Eff2.at, Sv2.at, V2.at, qQ]⟩
  case alloc t =>
    simp only [Option.bind_eq_some_iff] at e
    obtain ⟨ti, h1, z, h2, e⟩ := e
    obtain ⟨q1, q2⟩ := qgU h2
    split at e
    · rename_i hl
      refine ⟨_, e, ?_⟩
      rw [h1, Option.bind_some, if_neg (by omega)]
      simp [Eff2.at, qQ, qfj, oAt, Blk2.at, Bd.rows, Sv2.at, V2.at, A2.at, q1]
    · cases e
  case box t x =>
    simp only [Option.bind_eq_some_iff] at e
    obtain ⟨ti, h1, v, h2, e⟩ := e
    split at e
    · rename_i hl
      refine ⟨_, e, ?_⟩
      rw [h1, Option.bind_some, hF.evV h2, Option.bind_some, qd0, if_pos (by simpa using hl)]
      rw [qqY]
      simp [Eff2.at, qQ, qfj, oAt, Blk2.at, Bd.rows, Sv2.at, V2.at, A2.at]
    · cases e
  case build t parts =>
    simp only [Option.bind_eq_some_iff] at e
    obtain ⟨ti, h1, e⟩ := e
    rw [h1, Option.bind_some]
    split at e
    · rename_i fs ts hd
      simp only [Option.bind_eq_some_iff] at e
      obtain ⟨z, h2, e⟩ := e
      obtain ⟨q1, q2⟩ := qgU h2
      split at e
      · rename_i hl
        simp only [Option.bind_eq_some_iff] at e
        obtain ⟨ps, h3, cs, h4, e⟩ := e
        refine ⟨_, e, ?_⟩
        have h4' := qqX h4
        rw [q1] at h4'
        simp only [hd]
        rw [if_neg (by omega), qk3 hF h3, Option.bind_some, h4', Option.bind_some]
        simp [val, Eff2.at, Sv2.at, V2.at, qQ]
      · cases e
    · rename_i na el hd
      simp only [Option.bind_eq_some_iff] at e
      obtain ⟨te, h5, z, h2, e⟩ := e
      obtain ⟨q1, q2⟩ := qgU h2
      split at e
      · rename_i hl
        simp only [Option.bind_eq_some_iff] at e
        obtain ⟨ps, h3, cs, h4, e⟩ := e
        refine ⟨_, e, ?_⟩
        have h4' := qqX h4
        rw [q1] at h4'
        simp only [hd]
        rw [h5, Option.bind_some, if_neg (by omega), qk3 hF h3, Option.bind_some, h4', Option.bind_some]
        simp [val, Eff2.at, Sv2.at, V2.at, qQ]
      · cases e
    · cases e
  case buildSlice t len parts =>
    split at e
    · rename_i el htd
      simp only [Option.bind_eq_some_iff] at e
      obtain ⟨te, h1, z, h2, ps, h3, els, h4, e⟩ := e
      obtain ⟨q1, q2⟩ := qgU h2
      split at e
      · rename_i hl
        refine ⟨_, e, ?_⟩
        have h4' := qvD h4
        rw [List.map_replicate, q1] at h4'
        simp only [htd]
        rw [h1, Option.bind_some, qk3 hF h3, Option.bind_some, h4', Option.bind_some, if_pos ⟨hl.1, hl.2.1, hl.2.2.1, by omega⟩]
        simp [Eff2.at, qQ, qfj, oAt, Blk2.at, qtd, Sv2.at, V2.at, A2.at]
        have := quu els
        rw [List.all_map] at this
        simpa [Function.comp_def] using this
      · cases e
    · cases e
  case load t x =>
    simp only [Option.bind_eq_some_iff] at e
    obtain ⟨ti, h1, a, h2, e⟩ := e
    rw [h1, Option.bind_some, hF.evA h2, Option.bind_some]
    split at e
    · rename_i m i o
      simp only [Option.bind_eq_some_iff] at e
      obtain ⟨b, h3, e⟩ := e
      split at e
      · rename_i els hb
        simp only [Option.bind_eq_some_iff] at e
        obtain ⟨el, h4, v, h5, e⟩ := e
        refine ⟨_, e, ?_⟩
        simp [A2.at, qby, h3, Blk2.at, hb, Bd.rows, h4, qgV h5, Eff2.at, qQ, Sv2.at]
      · rename_i d l hb
        simp only [Option.bind_eq_some_iff] at e
        obtain ⟨el, h4, v, h5, e⟩ := e
        refine ⟨_, e, ?_⟩
        have h5' := qgV h5
        rw [qfB] at h5'
        simp [A2.at, qby, h3, Blk2.at, hb, Bd.rows, h4, h5', Eff2.at, qQ, Sv2.at]
    · rename_i d el o
      simp only [Option.bind_eq_some_iff] at e
      obtain ⟨v, h5, e⟩ := e
      refine ⟨_, e, ?_⟩
      have h5' := qgV h5
      rw [qfB] at h5'
      simp [A2.at, h5', val, Eff2.at, qQ, Sv2.at]
    · cases e
  case store t x y =>
    simp only [Option.bind_eq_some_iff] at e
    obtain ⟨ti, h1, v, h2, a, h3, e⟩ := e
    rw [h1, Option.bind_some, hF.evV h2, Option.bind_some, hF.evA h3, Option.bind_some]
    split at e
    · rename_i m i o
      simp only [Option.bind_eq_some_iff] at e
      obtain ⟨b, h4, e⟩ := e
      split at e
      · rename_i els hb
        simp only [Option.bind_eq_some_iff] at e
        obtain ⟨el, h5, e⟩ := e
        split at e
        · rename_i hl
          refine ⟨_, e, ?_⟩
          simp only [A2.at, qby, h4, Option.map_some, Option.bind_some, Blk2.at, hb, Bd.rows, List.getElem?_map, h5, qd0, List.length_map]
          rw [if_pos ⟨hl.1, hl.2.1, by simp [hl.2.2]⟩]
          simp [Eff2.at, qQ, qfj, oAt, Blk2.at, Bd.rows, Sv2.at, List.map_set, qqW, Function.comp_def, qte]
        · cases e
      · rename_i d l hb
        simp only [Option.bind_eq_some_iff] at e
        obtain ⟨el, h5, e⟩ := e
        split at e
        · rename_i hl
          simp only [Option.bind_eq_some_iff] at e
          obtain ⟨el', h6, e⟩ := e
          refine ⟨_, e, ?_⟩
          have h6' := qqV h6
          rw [qqW, qfB] at h6'
          have hlen : o + ti.size ≤ (d.at el).length := by have := hl.2.1; rwa [← List.length_map (f := A2.at), qfB] at this
          simp only [A2.at, qby, h4, Option.map_some, Option.bind_some, Blk2.at, hb, Bd.rows, List.getElem?_map, h5, qd0, List.length_map]
          rw [if_pos ⟨hl.1, hlen, by simp [hl.2.2.1]⟩]
          simp [Eff2.at, qQ, qfj, oAt, Blk2.at, Bd.rows, Sv2.at, List.map_set, h6', Function.comp_def, qte]
        · cases e
    · cases e
  case nilCheck x =>
    simp only [Option.bind_eq_some_iff] at e
    obtain ⟨a, h1, e⟩ := e
    rw [hF.evA h1, Option.bind_some]
    split at e
    · exact ⟨_, e, by simp [A2.at, val, Eff2.at, qQ, Sv2.at, V2.at]⟩
    · exact ⟨_, e, by simp [A2.at, val, Eff2.at, qQ, Sv2.at, V2.at]⟩
    · cases e
  case binOp op ty x y u =>
    split at e
    · rename_i cs hg
      simp only [Option.bind_eq_some_iff] at e
      obtain ⟨ti, h1, v, h2, e⟩ := e
      rw [hF.gSome hg]
      simp only [h1, Option.bind_some, hF.evV h2]
      exact qyR op ti cs v nx K e
    simp only [Option.bind_eq_some_iff] at e
    obtain ⟨a, h1, b, h2, e⟩ := e
    obtain ⟨z, e, h3⟩ := qyQ c.T op ty a b _ _ e
    rw [hF.gNone h1]
    exact ⟨_, e, by simp [hF.evA h1, hF.evA h2, h3, valA, val, Eff2.at, qQ, Sv2.at, V2.at]⟩
  case unOp op ty x =>
    simp only [Option.bind_eq_some_iff] at e
    obtain ⟨a, h1, e⟩ := e
    obtain ⟨z, e, h3⟩ := qCj op a _ _ e
    exact ⟨_, e, by simp [hF.evA h1, h3, valA, val, Eff2.at, qQ, Sv2.at, V2.at]⟩
  case convert src ds x =>
    simp only [Option.bind_eq_some_iff] at e
    obtain ⟨a, h1, e⟩ := e
    rw [hF.evA h1, Option.bind_some]
    split at e
    · rename_i el ht1 ht2
      simp only [ht1, ht2]
      split at e
      · rename_i ht3
        obtain ⟨s, rd, e, h2⟩ := quv _ _ _ _ _ e
        simp only [ht3, h2, Option.bind_some]
        split at e
        · refine ⟨_, e, ?_⟩
          simp [Src.rows, qeX, Eff2.at, qQ, Sv2.at, V2.at, A2.at]
        · rename_i l
          refine ⟨_, e, ?_⟩
          have key : ∀ l : List Int, qeX (l.map (Cd.at (.int .u8))) = some (l.map fun n : Int => n.toNat.toUInt8) := by
            intro l
            induction l with
            | nil => rfl
            | cons x l ih =>
              simp only [List.map_cons]
              show (qeX (l.map (Cd.at (.int .u8)))).bind _ = _
              rw [ih]
              rfl
          have key' := key l
          simp only [Src.rows, key', Option.bind_some, Eff2.at, qQ, Sv2.at, V2.at, A2.at, List.map_nil]
        · cases e
      · cases e
    · rename_i hno
      obtain ⟨z, e, h3⟩ := qx4 c.T src ds a _ _ e
      refine ⟨_, e, ?_⟩
      split
      · rename_i el ht1 ht2; exact absurd ht2 (hno el ht1)
      · simp [h3, valA, val, Eff2.at, qQ, Sv2.at, V2.at]
  case makeSlice t l k =>
    split at e
    · rename_i el htd
      simp only [Option.bind_eq_some_iff] at e
      obtain ⟨te, h1, z, h2, d, h3, z0, h4, l, h5, k, h6, e⟩ := e
      obtain ⟨q1, q2⟩ := qgU h2
      split at e
      · rename_i hs
        split at e
        · rename_i hb
          refine ⟨_, e, ?_⟩
          have h4' := qqV h4
          rw [q1] at h4'
          simp only [htd]
          rw [h1, Option.bind_some, hF.evI h5, Option.bind_some, hF.evI h6, Option.bind_some, if_pos ⟨hb.1, hb.2.1, hb.2.2, hs.1, hs.2.1, by omega⟩]
          simp [Eff2.at, qQ, qfj, oAt, Blk2.at, Bd.rows, Sv2.at, V2.at, A2.at, h4']
        · cases e
      · cases e
    · cases e
  case slice t x lo hi mx =>
    split at e
    · cases e
    · rename_i hmx
      rw [if_neg hmx]
      simp only [Option.bind_eq_some_iff] at e
      obtain ⟨td, h1, a, h2, e⟩ := e
      rw [h1, Option.bind_some, hF.evA h2, Option.bind_some]
      split at e
      · rename_i s
        simp only [Option.bind_eq_some_iff] at e
        obtain ⟨l, h3, h, h4, e⟩ := e
        split at e
        · rename_i hb
          refine ⟨_, e, ?_⟩
          simp only [A2.at, hF.bound h3, hF.bound h4, Option.bind_some]
          rw [if_pos hb]
          simp [val, Eff2.at, qQ, Sv2.at, V2.at, A2.at]
        · cases e
      · rename_i el d els
        simp only [Option.bind_eq_some_iff] at e
        obtain ⟨te, h3, l, h4, h, h5, e⟩ := e
        split at e
        · rename_i hz
          split at e
          · rename_i hb
            refine ⟨_, e, ?_⟩
            simp only [A2.at, h3, hF.bound h4, hF.bound h5, Option.bind_some]
            rw [if_pos ⟨hb.1, hb.2.1, hb.2.2, hz⟩]
            simp only [val, Eff2.at, qQ, Sv2.at, V2.at, A2.at, List.map_nil, List.map_take, List.map_drop, List.length_take, List.length_drop]
            rw [show min (h.toNat - l.toNat) (els.length - l.toNat) = h.toNat - l.toNat by omega]
          · cases e
        · cases e
      · rename_i el m b n
        simp only [Option.bind_eq_some_iff] at e
        obtain ⟨te, h3, B, h4, e⟩ := e
        split at e
        · rename_i d els hbd
          simp only [Option.bind_eq_some_iff] at e
          obtain ⟨l, h5, h, h6, e⟩ := e
          split at e
          · rename_i hz
            split at e
            · rename_i hb
              refine ⟨_, e, ?_⟩
              simp only [A2.at, h3, qby, h4, Option.map_some, hF.bound h5, hF.bound h6, Option.bind_some]
              rw [if_pos ⟨hb.1, hb.2.1, by simpa [Blk2.at, hbd, Bd.rows] using hb.2.2.1, hb.2.2.2, hz.1, hz.2⟩]
              simp [Eff2.at, qQ, Sv2.at, V2.at, A2.at]
            · cases e
          · cases e
        · rename_i els hbd
          simp only [Option.bind_eq_some_iff] at e
          obtain ⟨l, h5, h, h6, e⟩ := e
          split at e
          · rename_i hz
            split at e
            · rename_i hb
              refine ⟨_, e, ?_⟩
              simp only [A2.at, h3, qby, h4, Option.map_some, hF.bound h5, hF.bound h6, Option.bind_some]
              rw [if_pos ⟨hb.1, hb.2.1, by simpa [Blk2.at, hbd, Bd.rows] using hb.2.2.1, hb.2.2.2, hz.1, hz.2⟩]
              simp [Eff2.at, qQ, Sv2.at, V2.at, A2.at]
            · cases e
          · cases e
      · cases e
  case fieldAddr s x f =>
    split at e
    · rename_i fs ts htd
      simp only [htd]
      simp only [Option.bind_eq_some_iff] at e
      obtain ⟨p, h1, e⟩ := e
      rw [h1, Option.bind_some]
      split at e
      · cases e
      · rename_i h0
        rw [if_neg h0]
        simp only [Option.bind_eq_some_iff] at e
        obtain ⟨a, h2, e⟩ := e
        rw [hF.evA h2, Option.bind_some]
        split at e
        · exact ⟨_, e, by simp [A2.at, val, Eff2.at, qQ, Sv2.at, V2.at]⟩
        · exact ⟨_, e, by simp [A2.at, val, Eff2.at, qQ, Sv2.at, V2.at]⟩
        · cases e
    · cases e
  case field s x f =>
    split at e
    · rename_i fs ts htd
      simp only [htd]
      simp only [Option.bind_eq_some_iff] at e
      obtain ⟨p, h1, ft, h2, v, h3, e⟩ := e
      rw [h1, Option.bind_some, h2, Option.bind_some, hF.evV h3, Option.bind_some]
      split at e
      · simp only [Option.bind_eq_some_iff] at e
        obtain ⟨ti, h4, v', h5, e⟩ := e
        refine ⟨_, e, ?_⟩
        simp [V2.at, h4, qgV h5, val, Eff2.at, qQ, Sv2.at]
      · cases e
    · cases e
  case indexAddr t x i =>
    split at e
    · rename_i el htd
      simp only [Option.bind_eq_some_iff] at e
      obtain ⟨te, h1, i, h2, a, h3, e⟩ := e
      simp only [htd]
      rw [h1, Option.bind_some, hF.evI h2, Option.bind_some, hF.evA h3, Option.bind_some]
      split at e
      · rename_i d els
        split at e
        · rename_i hz
          split at e
          · rename_i h0
            simp only [Option.bind_eq_some_iff] at e
            obtain ⟨y, h4, e⟩ := e
            refine ⟨_, e, ?_⟩
            have hlt : i.toNat < els.length := (List.getElem?_eq_some_iff.1 h4).1
            simp only [A2.at]
            rw [if_pos ⟨h0, by omega, hz⟩]
            simp [h4, val, Eff2.at, qQ, Sv2.at, V2.at, A2.at]
          · cases e
        · cases e
      · rename_i m b n
        simp only [Option.bind_eq_some_iff] at e
        obtain ⟨B, h4, e⟩ := e
        split at e
        · rename_i hz
          split at e
          · rename_i hb
            refine ⟨_, e, ?_⟩
            simp only [A2.at, qby, h4, Option.map_some, Option.bind_some]
            rw [if_pos ⟨hb.1, hb.2, hz⟩]
            simp [Eff2.at, qQ, Sv2.at, V2.at, A2.at]
          · cases e
        · cases e
      · cases e
    · cases e
  case index t x i =>
    split at e
    · rename_i cs hg
      simp only [Option.bind_eq_some_iff] at e
      obtain ⟨ti, h1, i, h2, e⟩ := e
      rw [hF.gSome hg]
      simp only [h1, Option.bind_some, hF.evI h2]
      split at e
      · rename_i n el hd
        simp only [Option.bind_eq_some_iff] at e
        obtain ⟨te, h3, e⟩ := e
        split at e
        · rename_i hc
          obtain ⟨x, q1, q2, q3, e⟩ := quy _ _ _ e
          refine ⟨_, e, ?_⟩
          simp only [hd, h3, Option.bind_some]
          rw [if_pos ⟨hc.1, hc.2.1, q1, by omega⟩]
          simp [q3, val, Eff2.at, qQ, Sv2.at, V2.at]
        · cases e
      · cases e
    simp only [Option.bind_eq_some_iff] at e
    obtain ⟨td, h1, a, h2, i, h3, e⟩ := e
    rw [hF.gNone h2]
    simp only
    rw [h1, Option.bind_some, hF.evA h2, Option.bind_some, hF.evI h3, Option.bind_some]
    split at e
    · rename_i s
      split at e
      · rename_i h0
        simp only [Option.bind_eq_some_iff] at e
        obtain ⟨b, h4, e⟩ := e
        refine ⟨_, e, ?_⟩
        simp only [A2.at]
        rw [if_pos h0, h4]
        simp [val, Eff2.at, qQ, Sv2.at, V2.at, A2.at]
      · cases e
    · cases e
  case extract x i =>
    simp only [Option.bind_eq_some_iff] at e
    obtain ⟨v, h1, e⟩ := e
    rw [hF.ev h1, Option.bind_some]
    split at e
    · simp only [Option.bind_eq_some_iff] at e
      obtain ⟨y, h2, e⟩ := e
      refine ⟨_, e, ?_⟩
      simp [Sv2.at, h2, val, Eff2.at, qQ]
    · cases e
  case call k =>
    obtain ⟨callee, args, argTypes⟩ := k
    cases callee with
    | builtin bi =>
      cases bi <;> try simp only [] at e ⊢
      case len =>
        obtain ⟨td, h1, e⟩ := Option.bind_eq_some_iff.1 e
        obtain ⟨a, h2, e⟩ := Option.bind_eq_some_iff.1 e
        obtain ⟨o, h3, h4⟩ := Option.bind_eq_some_iff.1 h2
        try simp only [] at h1 h3
        rw [h1, Option.bind_some, h3, Option.bind_some, hF.evA h4, Option.bind_some]
        split at e
        all_goals first | exact ⟨_, e, by simp [A2.at, val, Eff2.at, qQ, Sv2.at, V2.at]⟩ | cases e
      case min =>
        obtain ⟨x, h1, e⟩ := Option.bind_eq_some_iff.1 e
        obtain ⟨y, h2, e⟩ := Option.bind_eq_some_iff.1 e
        obtain ⟨o3, h3, h3'⟩ := Option.bind_eq_some_iff.1 h1
        obtain ⟨o4, h4, h4'⟩ := Option.bind_eq_some_iff.1 h2
        try simp only [] at h3 h4
        rw [h3, Option.bind_some, hF.evA h3', Option.bind_some, h4, Option.bind_some, hF.evA h4', Option.bind_some]
        split at e
        · rename_i hq
          rw [if_pos hq]
          cases x <;> cases y <;> first | (cases e; done) | exact ⟨_, e, by simp [qvd, A2.at, val, Eff2.at, qQ, Sv2.at, V2.at]⟩
        · cases e
      case max =>
        obtain ⟨x, h1, e⟩ := Option.bind_eq_some_iff.1 e
        obtain ⟨y, h2, e⟩ := Option.bind_eq_some_iff.1 e
        obtain ⟨o3, h3, h3'⟩ := Option.bind_eq_some_iff.1 h1
        obtain ⟨o4, h4, h4'⟩ := Option.bind_eq_some_iff.1 h2
        try simp only [] at h3 h4
        rw [h3, Option.bind_some, hF.evA h3', Option.bind_some, h4, Option.bind_some, hF.evA h4', Option.bind_some]
        split at e
        · rename_i hq
          rw [if_pos hq]
          cases x <;> cases y <;> first | (cases e; done) | exact ⟨_, e, by simp [qvc, A2.at, val, Eff2.at, qQ, Sv2.at, V2.at]⟩
        · cases e
      case append =>
        obtain ⟨t, h1, e⟩ := Option.bind_eq_some_iff.1 e
        obtain ⟨t', h2, e⟩ := Option.bind_eq_some_iff.1 e
        obtain ⟨s, h3, e⟩ := Option.bind_eq_some_iff.1 e
        obtain ⟨x, h4, e⟩ := Option.bind_eq_some_iff.1 e
        obtain ⟨o3, h3, h3'⟩ := Option.bind_eq_some_iff.1 h3
        obtain ⟨o4, h4, h4'⟩ := Option.bind_eq_some_iff.1 h4
        rw [h1, Option.bind_some, h2, Option.bind_some, h3, Option.bind_some, hF.evA h3', Option.bind_some, h4, Option.bind_some, hF.evA h4', Option.bind_some]
        split at e
        · rename_i ht
          rw [if_pos ht]
          exact qx5 _ _ _ _ _ _ _ e
        · cases e
      all_goals cases e
    | value f =>
      simp only [] at e ⊢
      obtain ⟨a, h1, e⟩ := Option.bind_eq_some_iff.1 e
      rw [hF.evA h1, Option.bind_some]
      split at e
      · rename_i g
        obtain ⟨zs, h2, e⟩ := Option.bind_eq_some_iff.1 e
        obtain ⟨z, e, h3⟩ := qx7 hC _ _ _ _ _ _ e
        refine ⟨z, e, ?_⟩
        simp only [A2.at]
        have h2' := qdw (p := id) (q := V2.at) (f := qgD fr2) (g := evV fr) (fun x y h => hF.evV h) h2
        rw [List.map_id] at h2'
        rw [h2', Option.bind_some]
        exact h3
      · cases e
    | invoke => cases e
  all_goals cases e
end
end Go.Proofs.Ytbhnafdmilfobaa.Am

/- What the typed machine says the abstract machine says: code, loops' heads, functions. -/
set_option linter.unusedVariables false
set_option linter.unusedSimpArgs false
namespace Go.Proofs.Ytbhnafdmilfobaa.Am
open Go

structure StR (σ2 : St2) (σ : St) : Prop where
  fr : FrR σ2.fr σ.fr
  mem : σ.mem = σ2.mem.at
  nx : σ.nx = σ2.nx
def qcV : Out2 → Out → Prop
  | .norm σ2, .norm σ => StR σ2 σ
  | .exit i σ2, .exit j σ => i = j ∧ StR σ2 σ
  | .ret σ2, .ret σ => StR σ2 σ
  | _, _ => False
def qf (Q : Nat → Code → Prop) : Nat → Code → Prop
  | b, .seq x y => qf Q b x ∧ qf Q b y
  | b, .cond _ x y => qf Q b x ∧ qf Q b y
  | _, .block id x => qf Q id x
  | b, .loop x => Q b x
  | _, _ => True

section
variable {R : Type} {c : Cfg} {callF : FuncId → List Vl → List Blk → Option (List Vl × List Blk)} {CO : FuncId → List V2 → List Blk2 → (List V2 × List Blk2 → Option R) → Option R}
  {LO : Nat → Code → St2 → (Out2 → Option R) → Option R} {σ2 : St2} {σ : St} {nt : Nat} {ops : List Oper}

theorem qsh {d : Option Nat} {v : Sv2} {fr2 : List (Nat × Sv2)} {fr : List (Nat × Sv)} (hF : FrR fr2 fr) {K : List (Nat × Sv2) → Option R} {r : R} (e : qoR nt d v fr2 K = some r) :
    ∃ fr2', K fr2' = some r ∧ ∃ fr', qen nt fr d v.at = some fr' ∧ FrR fr2' fr' := by
  cases d with
  | none => exact ⟨_, e, fr, rfl, hF⟩
  | some d =>
    simp only [qoR] at e
    split at e
    · rename_i h; exact ⟨_, e, _, by simp only [qen]; rw [if_pos h], hF.cons d v⟩
    · cases e

theorem quz (hC : COk CO callF) (hs : StR σ2 σ) (o : Oper) (is : List Info) (F : St → List Info → Option (St × List Info)) {K : St2 → List Info → Option R} {r : R} (e : qoS c CO nt o σ2 is K = some r) :
    ∃ σ2' is', K σ2' is' = some r ∧ ∃ σ', qkV F nt o σ is (stp c callF o σ.fr σ.mem σ.nx) = F σ' is' ∧ StR σ2' σ' := by
  unfold qoS at e
  obtain ⟨ef, e, h1⟩ := qyS hC hs.fr o _ _ e
  obtain ⟨fr2', e, fr', h2, h3⟩ := qsh hs.fr e
  refine ⟨_, _, e, { fr := fr', mem := qU σ.mem ef.at.upd, nx := ef.at.nn }, ?_, ⟨h3, ?_, rfl⟩⟩
  · rw [hs.mem, hs.nx, h1]
    simp only [qkV]
    rw [show ef.at.v = ef.v.at from rfl, h2]
    simp only [qgC, hs.mem]
    congr 2
    simp [Eff2.at, qx2]
  · simp [Eff2.at, hs.mem, qf0]
theorem qsi (hs : StR σ2 σ) (o : Oper) (is : List Info) (F : St → List Info → Option (St × List Info)) {K : St2 → List Info → Option R} {r : R} (e : ql0 nt o σ2 is K = some r) :
    ∃ σ2' is', K σ2' is' = some r ∧ ∃ σ', qgC F σ.mem σ.nx { rd := [], wr := [] } is (qen nt σ.fr o.dst .u) = F σ' is' ∧ StR σ2' σ' := by
  unfold ql0 at e
  obtain ⟨fr2', e, fr', h2, h3⟩ := qsh hs.fr e
  refine ⟨_, _, e, { fr := fr', mem := σ.mem, nx := σ.nx }, ?_, ⟨h3, hs.mem, hs.nx⟩⟩
  rw [show Sv2.at .u = Sv.u from rfl] at h2
  rw [h2]; rfl
theorem qjb (hs : StR σ2 σ) {d : Nat} {b b' : Bool} (hl : lk σ2.fr d = some (.v (.a (.bool b)))) (hb : b = b') : StR (know d b' σ2) σ :=
  ⟨hs.fr.know hl hb, hs.mem, hs.nx⟩

theorem qyT (hC : COk CO callF) : ∀ (l : List Oper) (σ2 : St2) (σ : St) (is : List Info) (K : St2 → List Info → Option R) (r : R), StR σ2 σ → qi7 c CO nt ops l σ2 is K = some r →
    ∃ σ2' is', K σ2' is' = some r ∧ ∃ σ', qco c callF nt ops l σ is = some (σ', is') ∧ StR σ2' σ' := by
  intro l
  induction l with
  | nil => intro σ2 σ is K r hs e; exact ⟨_, _, e, σ, rfl, hs⟩
  | cons o l ih =>
    intro σ2 σ is K r hs e
    simp only [qi7] at e
    unfold quq at e
    have hrun : qco c callF nt ops (o :: l) σ is = qeE c callF (qco c callF nt ops l) nt o σ is (qdc ops o σ.fr) := rfl
    split at e
    · rename_i hg
      obtain ⟨σ2', is', e, σ', h1, h2⟩ := quz hC hs o is (qco c callF nt ops l) e
      obtain ⟨σ2'', is'', e, σ'', h3, h4⟩ := ih _ _ _ _ _ h2 e
      refine ⟨_, _, e, σ'', ?_, h4⟩
      rw [hrun, qdc, hg]
      simp only [qeE, h1, h3]
    · rename_i j want hg
      simp only [Option.bind_eq_some_iff] at e
      obtain ⟨d, hd, v, hv, e⟩ := e
      have hv' := hs.fr d v hv
      have hd' : (ops[j]?.bind fun x => x.dst) = some d := Option.bind_eq_some_iff.2 hd
      split at e
      · rename_i b
        split at e
        · rename_i hb
          obtain ⟨σ2', is', e, σ', h1, h2⟩ := quz hC (qjb hs hv hb) o is (qco c callF nt ops l) e
          obtain ⟨σ2'', is'', e, σ'', h3, h4⟩ := ih _ _ _ _ _ h2 e
          refine ⟨_, _, e, σ'', ?_, h4⟩
          rw [hrun, qdc, hg]
          simp only [hd', Option.bind_some, hv', Sv2.at, V2.at, A2.at, hb, beq_self_eq_true, qeE, h1, h3]
        · rename_i hb
          obtain ⟨σ2', is', e, σ', h1, h2⟩ := qsi (qjb hs hv (by cases b <;> cases want <;> simp_all)) o is (qco c callF nt ops l) e
          obtain ⟨σ2'', is'', e, σ'', h3, h4⟩ := ih _ _ _ _ _ h2 e
          refine ⟨_, _, e, σ'', ?_, h4⟩
          have hb' : (b == want) = false := by simpa using hb
          rw [hrun, qdc, hg]
          simp only [hd', Option.bind_some, hv', Sv2.at, V2.at, A2.at, hb', qeE, h1, h3]
      · rename_i hno
        obtain ⟨σ2', is', e, σ', h1, h2⟩ := qsi hs o is (qco c callF nt ops l) e
        obtain ⟨σ2'', is'', e, σ'', h3, h4⟩ := ih _ _ _ _ _ h2 e
        refine ⟨_, _, e, σ'', ?_, h4⟩
        have hw : qdc ops o σ.fr = some false := by
          rw [qdc, hg]
          simp only [hd', Option.bind_some, hv']
          cases v with
          | u => rfl
          | t vs => rfl
          | v y => cases y with
            | g cs => rfl
            | a z => cases z <;> first | rfl | exact absurd rfl (hno _)
        rw [hrun, hw]
        simp only [qeE, h1, h3]

variable {kp : Nat → List Kp} {k p : Nat}
def LOk (LO : Nat → Code → St2 → (Out2 → Option R) → Option R) (c : Cfg) (callF : FuncId → List Vl → List Blk → Option (List Vl × List Blk)) (kp : Nat → List Kp) (nt k p : Nat) (b : Nat) (x : Code) : Prop :=
  ∀ σ2 σ, StR σ2 σ → Snd (LO b x σ2) fun o2 => ∃ o, qgp (qfy p (kp b)) (qaX c callF kp nt k p b x) k σ = some o ∧ qcV o2 o

theorem quA (hC : COk CO callF) : ∀ (x : Code) (b : Nat) (σ2 : St2) (σ : St), qf (LOk LO c callF kp nt k p) b x → StR σ2 σ →
    Snd (qF c CO LO nt b x σ2) fun o2 => ∃ o, qaX c callF kp nt k p b x σ = some o ∧ qcV o2 o := by
  intro x
  induction x with
  | skip => intro b σ2 σ hL hs K r e; exact ⟨_, e, _, rfl, hs⟩
  | region id ops draw =>
    intro b σ2 σ hL hs K r e
    simp only [qF] at e
    obtain ⟨σ2', is', e, σ', h1, h2⟩ := qyT hC _ _ _ _ _ _ hs e
    split at e
    · cases e
    · rename_i hd
      refine ⟨_, e, .norm σ', ?_, h2⟩
      simp only [qaX, h1, qve]
      rw [if_neg (by simpa using hd)]
  | seq x y ihx ihy =>
    intro b σ2 σ hL hs K r e
    simp only [qF] at e
    obtain ⟨o2, e, o, h1, h2⟩ := ihx b _ _ hL.1 hs _ _ e
    cases o2 with
    | norm σ2' =>
      cases o <;> simp only [qcV] at h2
      rename_i σ'
      obtain ⟨o2, e, o, h3, h4⟩ := ihy b _ _ hL.2 h2 _ _ e
      exact ⟨o2, e, o, by simp only [qaX, h1, qfY, h3], h4⟩
    | exit i σ2' =>
      refine ⟨_, e, o, ?_, h2⟩
      cases o <;> simp only [qcV] at h2
      simp only [qaX, h1, qfY]
    | ret σ2' =>
      refine ⟨_, e, o, ?_, h2⟩
      cases o <;> simp only [qcV] at h2
      simp only [qaX, h1, qfY]
  | cond o x y ihx ihy =>
    intro b σ2 σ hL hs K r e
    have gen : ((qqR σ2.fr o).bind fun q => if q = true then qF c CO LO nt b x σ2 K else qF c CO LO nt b y σ2 K) = some r →
        ∃ o2, K o2 = some r ∧ ∃ out, qaX c callF kp nt k p b (.cond o x y) σ = some out ∧ qcV o2 out := by
      intro e
      simp only [Option.bind_eq_some_iff] at e
      obtain ⟨q, hq, e⟩ := e
      split at e
      · rename_i hb
        subst hb
        obtain ⟨o2, e, o', h3, h4⟩ := ihx b _ _ hL.1 hs _ _ e
        exact ⟨o2, e, o', by simp only [qaX, hs.fr.evB hq, qqx, h3], h4⟩
      · rename_i hb
        obtain ⟨o2, e, o', h3, h4⟩ := ihy b _ _ hL.2 hs _ _ e
        exact ⟨o2, e, o', by simp only [qaX, hs.fr.evB hq, (show q = false by simpa using hb), qqx, h3], h4⟩
    cases o with
    | tmp t =>
      simp only [qF, Option.bind_eq_some_iff] at e
      obtain ⟨v, hv, e⟩ := e
      have hv' := hs.fr t v hv
      split at e
      · rename_i q
        have hq : evB σ.fr (.tmp t) = some q := by simp [evB, evA, ev, hv', Sv2.at, V2.at, A2.at, svA, asB]
        split at e
        · rename_i hb
          obtain ⟨o2, e, o', h3, h4⟩ := ihx b _ _ hL.1 (qjb hs hv hb) _ _ e
          exact ⟨o2, e, o', by simp only [qaX, hq, hb, qqx, h3], h4⟩
        · rename_i hb
          have hb' : q = false := by simpa using hb
          obtain ⟨o2, e, o', h3, h4⟩ := ihy b _ _ hL.2 (qjb hs hv hb') _ _ e
          exact ⟨o2, e, o', by simp only [qaX, hq, hb', qqx, h3], h4⟩
      · cases e
    | const v => exact gen (by simpa only [qF] using e)
    | func f => exact gen (by simpa only [qF] using e)
    | global g => exact gen (by simpa only [qF] using e)
  | block id x ih =>
    intro b σ2 σ hL hs K r e
    simp only [qF] at e
    obtain ⟨o2, e, o, h1, h2⟩ := ih id _ _ hL hs _ _ e
    cases o2 with
    | norm σ2' =>
      refine ⟨_, e, o, ?_, h2⟩
      cases o <;> simp only [qcV] at h2
      simp only [qaX, h1, qnO]
    | exit i σ2' =>
      cases o <;> simp only [qcV] at h2
      rename_i j σ'
      obtain ⟨rfl, h2⟩ := h2
      simp only [] at e
      split at e
      · rename_i hi
        exact ⟨_, e, .norm σ', by simp only [qaX, h1, qnO]; rw [if_pos hi], h2⟩
      · rename_i hi
        exact ⟨_, e, .exit i σ', by simp only [qaX, h1, qnO]; rw [if_neg hi], rfl, h2⟩
    | ret σ2' =>
      refine ⟨_, e, o, ?_, h2⟩
      cases o <;> simp only [qcV] at h2
      simp only [qaX, h1, qnO]
  | loop x ih => intro b σ2 σ hL hs K r e; exact hL σ2 σ hs K r e
  | exit id => intro b σ2 σ hL hs K r e; exact ⟨_, e, _, rfl, rfl, hs⟩
  | ret => intro b σ2 σ hL hs K r e; exact ⟨_, e, _, rfl, hs⟩
  | _ => intro b σ2 σ hL hs K r e; cases e

theorem qq0 (T : TypeId → Option TI) (nx : Nat) (a : A2) : qc0 nx a.at = ((qho T nx a).1.at, (qho T nx a).2.1.at, (qho T nx a).2.2) := by
  cases a <;> try rfl
  case snil es ty =>
    simp only [A2.at, qc0, qho, qI.at, List.map_cons, List.map_nil, oAt, Option.map_some, Blk2.at]
    split <;> rfl
theorem qnU (T : TypeId → Option TI) : ∀ (cs : List A2) (nx : Nat), qdM nx (cs.map A2.at) = ((qgs T nx cs).1.map A2.at, (qgs T nx cs).2.1.at, (qgs T nx cs).2.2) := by
  intro cs
  induction cs with
  | nil => intro nx; rfl
  | cons a cs ih =>
    intro nx
    simp only [List.map_cons, qdM, qq0 T, ih, qgs, qf1]
theorem qx8 (hs : StR σ2 σ) : ∀ (ks : List Kp) (q : List (Nat × V2) × qI × Nat), qgT c.T σ2 ks = some q → qe5 σ ks = some (q.1.map (fun p => (p.1, Sv.v p.2.at)), q.2.1.at, q.2.2) := by
  intro ks
  induction ks with
  | nil => intro q e; cases e; simp [qe5, hs.nx, qI.at]
  | cons kk ks ih =>
    intro q e
    cases kk with
    | s t =>
      simp only [qgT, Option.bind_eq_some_iff] at e
      obtain ⟨q0, h1, e⟩ := e
      simp only [qe5, ih _ h1, Option.bind_some]
      split at e
      · rename_i x hx
        cases e
        simp only [hs.fr _ _ hx, Sv2.at, V2.at, qq0 c.T, qf1, List.map_cons]
      · rename_i cs hx
        cases e
        simp only [hs.fr _ _ hx, Sv2.at, V2.at, qnU c.T, qf1, List.map_cons]
      · cases e
    | b t =>
      simp only [qgT, Option.bind_eq_some_iff] at e
      obtain ⟨q0, h1, e⟩ := e
      simp only [qe5, ih _ h1, Option.bind_some]
      split at e
      · rename_i m o hx
        simp only [Option.bind_eq_some_iff] at e
        obtain ⟨b, h2, e⟩ := e
        split at e
        · rename_i el hb
          cases e
          simp only [hs.fr _ _ hx, Sv2.at, V2.at, A2.at, hs.mem, ← qf0, qby, h2, Option.map_some, Option.bind_some, Blk2.at, hb, Bd.rows, List.map_cons, List.map_nil, qnU c.T, qf1, qfj, oAt, qqY, qQ]
        · cases e
      · cases e
theorem qx9 {ρ : Nat → Option Nat} : ∀ {l : List (Nat × V2)} {s : List (Nat × Sv2)}, qoT ρ l = some s → qkW ρ (l.map fun p => (p.1, Sv.v p.2.at)) = some (s.map fun p => (p.1, p.2.at)) := by
  intro l
  induction l with
  | nil => intro s e; cases e; rfl
  | cons q l ih =>
    intro s e
    simp only [qoT, Option.bind_eq_some_iff] at e
    obtain ⟨y, h1, r, h2, e⟩ := e
    cases e
    simp only [List.map_cons, qkW, qi9 h1, ih h2, Option.bind_some, Sv2.at]
theorem quB {β γ : Type} (g : β → γ) (l : List (Nat × β)) (t : Nat) : lk (l.map fun p => (p.1, g p.2)) t = (lk l t).map g := by
  induction l with
  | nil => rfl
  | cons p l ih =>
    simp only [List.map_cons, lk]
    split
    · rfl
    · exact ih
def vOf : Sv → Option Vl
  | .v x => some x
  | _ => none
def qwV (p : Nat) (mem : Mem) (fr0 : List (Nat × Sv)) (N : List Nat) : Option St :=
  (qkW (idx N) fr0).bind fun fr =>
  (qu (fun m => (qk mem m).bind (qdX (idx N))) N).bind fun bs =>
  if N.take p = List.range p then some { fr := fr, mem := qdY (List.range N.length) bs, nx := N.length } else none
theorem qvF (p : Nat) (ks : List Kp) (σ : St) : qfy p ks σ = (qe5 σ ks).bind fun q => qwV p (qU σ.mem q.2.1) q.1 (clo (qdh (qU σ.mem q.2.1)) 64 (List.range p ++ qg (q.1.filterMap fun s => vOf s.2)) []) := rfl
theorem qsj (hs : StR σ2 σ) {ks : List Kp} {S2 : St2} (e : qoU c.T p ks σ2 = some S2) : ∃ S, qfy p ks σ = some S ∧ StR S2 S := by
  unfold qoU at e
  simp only [Option.bind_eq_some_iff] at e
  obtain ⟨q, h1, fr, h2, bs, h3, e⟩ := e
  generalize hN : clo (qbZ A2.nm (qeI σ2.mem q.2.1)) 64 (List.range p ++ qdv A2.nm (q.1.map (·.2))) [] = N at h2 h3 e
  split at e
  · rename_i hp
    cases e
    have h3' := qdw (p := id) (q := Blk2.at) (g := fun m => (qk (qeI σ2.mem q.2.1).at m).bind (qdX (idx N))) (fun m b h => by
      simp only [Option.bind_eq_some_iff] at h
      obtain ⟨b0, h4, h5⟩ := h
      simp only [id_eq, qby, h4, Option.map_some, Option.bind_some]
      exact qja h5) h3
    rw [List.map_id] at h3'
    have hfm : ∀ l : List (Nat × V2), List.filterMap (fun s : Nat × Sv => vOf s.2) (l.map fun p => (p.1, Sv.v p.2.at)) = (l.map (·.2)).map V2.at := by
      intro l
      induction l with
      | nil => rfl
      | cons a l ih => rw [List.map_cons, List.filterMap_cons, List.map_cons, List.map_cons, ← ih]; rfl
    refine ⟨{ fr := fr.map fun p => (p.1, p.2.at), mem := qdY (List.range N.length) (bs.map Blk2.at), nx := N.length }, ?_, ⟨?_, ?_, rfl⟩⟩
    · rw [qvF, qx8 hs _ _ h1]
      simp only [Option.bind_some, hs.mem, ← qf0, qoy, hfm, qhU, hN]
      simp only [qwV, qx9 h2, h3', Option.bind_some]
      rw [if_pos hp]
    · intro t v h
      rw [quB, h]; rfl
    · exact (qut _ _).symm
  · cases e
end
end Go.Proofs.Ytbhnafdmilfobaa.Am

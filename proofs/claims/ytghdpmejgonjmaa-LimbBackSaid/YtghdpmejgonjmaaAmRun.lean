/- The abstract machine's runs: one operation, a row of operations. -/
import Derived.Test.YtghdpmejgonjmaaAmCall4
set_option linter.unusedVariables false
set_option linter.unusedSimpArgs false
namespace Go.Proofs.Ytghdpmejgonjmaa.Am
open Go

section
variable {P : Program} {n : Nat} {w0 : World} {M0 : Bool → Nat → Prop} {U : Nat → Prop} {ι ι' ι0 : Io} {h h1 h2 h0 : Hp} {fr : List (Nat × Sv)} {mem mem1 : Mem} {a : Act} {w w' : World} {p : Nat}
  {c : Cfg} {callF : FuncId → List Vl → List Blk → Option (List Vl × List Blk)} {o : Oper} {nx : Nat} {e : Eff}

theorem Plain.wp (hp : Plain P n w0 M0 U ι h fr mem a w nx o e) {next : Act → World → Prop} {Q : Exit → Act → World → Prop} (hk : ∀ u w', Nxt n w0 M0 U ι h fr mem nx e a u w' → next (a.put o.dst u) w') : o.wp P a w next Q := by
  rcases hp with ⟨u, w', h1, h2⟩ | ⟨w', h1, h2⟩
  · exact wp_val h1 (hk u w' h2)
  · exact wp_skip' h1 (hk _ w' h2)

theorem op_sound (hT : TyOk P c.T) (hC : CallOk P callF) (hs : Sim n w0 M0 U ι h fr mem a w) (hf : ∀ m, nx ≤ m → m < e.nn → ¬ U m) (he : stp c callF o fr mem nx = some e) {next : Act → World → Prop} {Q : Exit → Act → World → Prop}
    (hk : ∀ u w', Nxt n w0 M0 U ι h fr mem nx e a u w' → next (a.put o.dst u) w') : o.wp P a w next Q := by
  cases hop : o.op with
  | move x => exact (pl_move hs hop he).wp hk
  | assign x => exact (pl_assign hs hop he).wp hk
  | pick k x y => exact (pl_pick hs hop he).wp hk
  | alloc t => exact (pl_alloc hT hs hf hop he).wp hk
  | box t x => exact (pl_box hT hs hf hop he).wp hk
  | build t ps => exact (pl_build hT hs hop he).wp hk
  | buildSlice t l ps => exact (pl_buildSlice hT hs hf hop he).wp hk
  | load t x => exact (pl_load hT hs hop he).wp hk
  | store t x y => exact (pl_store hT hs hop he).wp hk
  | nilCheck x => exact (pl_nilCheck hs hop he).wp hk
  | binOp op t x y t2 => exact (pl_binOp hT hs hop he).wp hk
  | unOp op t x => exact (pl_unOp hs hop he).wp hk
  | convert s d x => exact (pl_convert hT hs hf hop he).wp hk
  | makeSlice t l k => exact (pl_makeSlice hT hs hf hop he).wp hk
  | slice t x lo hi mx => exact (pl_slice hT hs hop he).wp hk
  | fieldAddr s x f => exact (pl_fieldAddr hT hs hop he).wp hk
  | field s x f => exact (pl_field hT hs hop he).wp hk
  | indexAddr t x i => exact (pl_indexAddr hT hs hop he).wp hk
  | index t x i => exact (pl_index hT hs hop he).wp hk
  | extract x i => exact (pl_extract hs hop he).wp hk
  | call k =>
    obtain ⟨callee, args, ats⟩ := k
    cases callee with
    | value f => exact wp_call hC hs hf hop he hk
    | invoke r m => simp [stp, hop] at he
    | builtin b =>
      cases b with
      | len => exact (pl_len hT hs hop he).wp hk
      | append => exact (pl_append hT hs hf hop he).wp hk
      | _ => simp [stp, hop] at he
  | _ => simp [stp, hop] at he

theorem Sim.put (hs : Sim n w0 M0 U ι h fr mem a w) {dst : Option Nat} {v : Sv} {u : Value} {fr' : List (Nat × Sv)} (hr : RS ι h v u) (hn : ∀ m ∈ v.nms, U m) (e : putD n fr dst v = some fr') :
    Sim n w0 M0 U ι h fr' mem (a.put dst u) w := by
  cases dst with
  | none => cases e; exact hs
  | some d =>
    simp only [putD] at e
    split at e
    · rename_i hd
      cases e
      refine { hs with hsize := by simp [Act.put, hs.hsize], hfr := ?_, hnm := ?_ }
      · intro t v' e'
        rw [lk_cons] at e'
        split at e'
        · rename_i ht
          cases e'
          subst ht
          exact ⟨u, by simp [Act.put, hs.hsize, hd], hr⟩
        · rename_i ht
          obtain ⟨u', q1, q2⟩ := hs.hfr t v' e'
          exact ⟨u', by simp [Act.put, Array.getElem?_setIfInBounds_ne ht, q1], q2⟩
      · intro t v' e' m hm
        rw [lk_cons] at e'
        split at e'
        · cases e'; exact hn m hm
        · exact hs.hnm t v' e' m hm
    · cases e

def valB : Value → Option Bool
  | .bool b => some b
  | _ => none

/-- Is an operation wanted? -/
theorem want_sound (hs : Sim n w0 M0 U ι h fr mem a w) {ops : Array Oper} {b : Bool} (e : wantO ops.toList o fr = some b) : Region.wanted o (yielded ops a.tmps) = b := by
  unfold wantO at e
  unfold Region.wanted
  split at e
  · rename_i hg
    cases e
    rw [hg]
  · rename_i j want hg
    rw [hg]
    simp only [Option.bind_eq_some_iff] at e
    obtain ⟨d, ⟨o', e1, e2⟩, v, e3, e⟩ := e
    obtain ⟨u, q1, q2⟩ := hs.hfr d v e3
    have hy : yielded ops a.tmps j = valB u := by
      have h1 : ((ops[j]?).bind (·.dst)).bind (a.tmps[·]?) = some u := by
        have : ops[j]? = some o' := by simpa using e1
        rw [this]
        simp only [Option.bind_some, e2]
        exact q1
      unfold yielded
      rw [h1]
      cases u <;> rfl
    simp only [hy]
    split at e
    · rename_i b'
      cases e
      have := RP.bool_inv (show RP h (.bool b') u from q2)
      subst this
      rfl
    · rename_i hnb
      cases e
      have hub : ∀ b', u ≠ .bool b' := by
        rintro b' rfl
        cases v with
        | v x =>
          cases x with
          | a x =>
            cases x with
            | ptr m i o => obtain ⟨L, _, hq⟩ := q2; cases hq
            | sm m lo k => rcases q2 with ⟨L, c, _, hq, _⟩ | ⟨_, _, _, hq⟩ <;> cases hq
            | bool b => exact hnb b rfl
            | _ => have q2 : RP h _ _ := q2; cases q2
          | g cs => obtain ⟨A, hq, _⟩ := q2; cases hq
        | t vs => obtain ⟨A, hq, _⟩ := q2; cases hq
        | u => cases q2
      cases u <;> first | rfl | exact absurd rfl (hub _)

/-- What has become of what was there when the function was entered. -/
structure Hist (w0 : World) (M0 : Bool → Nat → Prop) (p : Nat) (ι0 : Io) (h0 : Hp) (ι : Io) (h : Hp) : Prop where
  sub : Sub h0 h
  same : ∀ i, i < p → ι i = ι0 i
  view : ∀ b, b < w0.heap.size → ¬ M0 false b → h b = h0 b

/-- The machine's state stands for the program's. -/
def Cnf (n : Nat) (w0 : World) (M0 : Bool → Nat → Prop) (p : Nat) (ι0 : Io) (h0 : Hp) (σ : St) (a : Act) (w : World) : Prop :=
  ∃ ι h, Sim n w0 M0 (fun m => m < σ.nx) ι h σ.fr σ.mem a w ∧ Hist w0 M0 p ι0 h0 ι h ∧ p ≤ σ.nx

theorem undef_RS (ι : Io) (h : Hp) : RS ι h .u undef := rfl

theorem runOps_sound (hT : TyOk P c.T) (hC : CallOk P callF) {ops : Array Oper} {Q : Exit → Act → World → Prop} :
    ∀ (r : List Oper) (i : Nat) (σ σ' : St) (is is' : List Info) (a : Act) (w : World), ops.toList.drop i = r → Cnf n w0 M0 p ι0 h0 σ a w → runOps c callF n ops.toList r σ is = some (σ', is') →
      (∀ a' w', Cnf n w0 M0 p ι0 h0 σ' a' w' → Q .normal a' w') → wpOps P ops Q (List.range' i r.length) a w := by
  intro r
  induction r with
  | nil =>
    intro i σ σ' is is' a w _ hc he hk
    simp [runOps] at he
    obtain ⟨rfl, rfl⟩ := he
    exact hk a w hc
  | cons o r ih =>
    intro i σ σ' is is' a w hd hc he hk
    have ho : ops[i]? = some o := by
      have : ops.toList[i]? = some o := by
        have := List.getElem?_drop (xs := ops.toList) (i := i) (j := 0)
        rw [hd] at this
        simpa using this.symm
      simpa using this
    have hd' : ops.toList.drop (i + 1) = r := by
      rw [← List.drop_drop, hd]
      rfl
    simp only [List.length_cons, List.range'_succ, wpOps, ho]
    obtain ⟨ι, h, hs, hh, hp⟩ := hc
    simp only [runOps] at he
    cases hw : wantO ops.toList o σ.fr with
    | none => rw [hw] at he; simp [wantK] at he
    | some b =>
      rw [want_sound hs hw]
      rw [hw] at he
      cases b with
      | false =>
        simp only [wantK] at he
        cases hp' : putD n σ.fr o.dst .u with
        | none => rw [hp'] at he; simp [putK] at he
        | some fr' =>
          rw [hp'] at he
          simp only [putK] at he
          rw [if_neg (by simp)]
          exact ih (i + 1) ⟨fr', σ.mem, σ.nx⟩ σ' _ is' _ w hd' ⟨ι, h, hs.put (undef_RS ι h) (by simp [Sv.nms]) hp', hh, hp⟩ he hk
      | true =>
        simp only [wantK] at he
        rw [if_pos rfl]
        left
        cases hst : stp c callF o σ.fr σ.mem σ.nx with
        | none => rw [hst] at he; simp [didK] at he
        | some e =>
          rw [hst] at he
          simp only [didK] at he
          cases hp' : putD n σ.fr o.dst e.v with
          | none => rw [hp'] at he; simp [putK] at he
          | some fr' =>
            rw [hp'] at he
            simp only [putK] at he
            refine op_sound hT hC hs (fun m h1 h2 h3 => by omega) hst ?_
            rintro u w' ⟨ι', h', n1, n2, n3, n4, n5, n6, n7⟩
            refine ih (i + 1) ⟨fr', updM σ.mem e.upd, e.nn⟩ σ' _ is' _ w' hd' ⟨ι', h', ?_, ⟨hh.sub.trans n1, fun j hj => ?_, fun b hb hM => ?_⟩, by simp only; omega⟩ he hk
            · exact (n3.put n4 n5 hp').weak fun m hm => by
                simp only at hm ⊢
                rcases hm with hm | hm <;> omega
            · rw [n2 j (by omega), hh.same j hj]
            · rw [n7 b hb hM, hh.view b hb hM]

end
end Go.Proofs.Ytghdpmejgonjmaa.Am

/- Rows of operations whose order is drawn: whatever order is drawn, the state is the one of the text's order. -/
import Derived.Test.YtghdpmejgonjmaaAmLocal
set_option linter.unusedVariables false
set_option linter.unusedSimpArgs false
namespace Go.Proofs.Ytghdpmejgonjmaa.Am
open Go

/-- What stands there behind the steps of a set: the last of them that wrote, else the beginning. -/
def lastS {β : Type} (L : Nat → Bool) (f : Nat → Option β) (init : Option β) : Nat → Option β
  | 0 => init
  | i + 1 => if L i then (match f i with | some x => some x | none => lastS L f init i) else lastS L f init i

theorem lastS_eq {β : Type} {L : Nat → Bool} {f : Nat → Option β} {init : Option β} {j : Nat} (h1 : ∀ i, i < j → f i ≠ none → L i = true) :
    ∀ n, j ≤ n → (∀ k, j ≤ k → k < n → f k ≠ none → L k = false) → lastS L f init n = lastS (fun _ => true) f init j := by
  have base : ∀ i, i ≤ j → lastS L f init i = lastS (fun _ => true) f init i := by
    intro i
    induction i with
    | zero => intro _; rfl
    | succ i ih =>
      intro hi
      simp only [lastS, if_true]
      rw [ih (by omega)]
      cases hf : f i with
      | none => simp
      | some x => rw [h1 i (by omega) (by rw [hf]; simp)]; simp
  intro n
  induction n with
  | zero =>
    intro hj _
    have : j = 0 := by omega
    subst this
    rfl
  | succ n ih =>
    intro hj h2
    rcases Nat.eq_or_lt_of_le hj with hq | hq
    · rw [← hq]; exact base j (Nat.le_refl _)
    · simp only [lastS]
      rw [ih (by omega) fun k hk hk2 hf => h2 k hk (by omega) hf]
      cases hf : f n with
      | none => simp
      | some x => rw [h2 n (by omega) (by omega) (by rw [hf]; simp)]; simp

theorem lastS_congr {β : Type} {L L' : Nat → Bool} {f : Nat → Option β} {init : Option β} : ∀ n, (∀ i, i < n → f i ≠ none → L i = L' i) → lastS L f init n = lastS L' f init n := by
  intro n
  induction n with
  | zero => intro _; rfl
  | succ n ih =>
    intro h
    simp only [lastS]
    rw [ih fun i hi hf => h i (by omega) hf]
    cases hf : f n with
    | none => simp
    | some x => rw [h n (by omega) (by rw [hf]; simp)]

theorem lastS_top {β : Type} {L : Nat → Bool} {f : Nat → Option β} {init : Option β} {j : Nat} {x : β} (hj : L j = true) (hx : f j = some x) :
    ∀ n, j < n → (∀ k, j < k → k < n → f k ≠ none → L k = false) → lastS L f init n = some x := by
  intro n
  induction n with
  | zero => intro h _; omega
  | succ n ih =>
    intro h h2
    simp only [lastS]
    rcases Nat.eq_or_lt_of_le h with hq | hq
    · have : j = n := by omega
      subst this
      rw [hj, hx]
      simp
    · rw [ih (by omega) fun k hk hk2 hf => h2 k hk (by omega) hf]
      cases hf : f n with
      | none => simp
      | some y => rw [h2 n (by omega) (by omega) (by rw [hf]; simp)]; simp

section
variable {P : Program} {n : Nat} {w0 : World} {M0 : Bool → Nat → Prop} {U : Nat → Prop} {ι ι' ι0 : Io} {h h1 h2 h0 : Hp} {fr fr' : List (Nat × Sv)} {mem mem' : Mem} {a : Act} {w w' : World} {p : Nat}
  {c : Cfg} {callF : FuncId → List Vl → List Blk → Option (List Vl × List Blk)} {o : Oper} {nx : Nat} {e : Eff}

/-- The text's order, step by step. -/
structure Rec where
  v : Sv
  upd : Mem
  rd : List Nat

/-- One step. -/
def Stepd (c : Cfg) (callF : FuncId → List Vl → List Blk → Option (List Vl × List Blk)) (nt : Nat) (ops : List Oper) (o : Oper) (σ σ' : St) (r : Rec) : Prop :=
  ((wantO ops o σ.fr = some true ∧ stp c callF o σ.fr σ.mem σ.nx = some { v := r.v, upd := r.upd, nn := σ'.nx, rd := r.rd }) ∨
   (wantO ops o σ.fr = some false ∧ r = { v := .u, upd := [], rd := [] } ∧ σ'.nx = σ.nx)) ∧
  putD nt σ.fr o.dst r.v = some σ'.fr ∧ σ'.mem = updM σ.mem r.upd

theorem runOps_trace {nt : Nat} {ops : List Oper} : ∀ (r : List Oper) (σ σ' : St) (is is' : List Info), runOps c callF nt ops r σ is = some (σ', is') →
    ∃ (T : Nat → St) (R : Nat → Rec), T 0 = σ ∧ T r.length = σ' ∧ (∀ (i : Nat) (o : Oper), r[i]? = some o → Stepd c callF nt ops o (T i) (T (i + 1)) (R i)) ∧
      is'.reverse = is.reverse ++ (List.range r.length).map fun i => ({ rd := (R i).rd, wr := (R i).upd.map (·.1) } : Info) := by
  intro r
  induction r with
  | nil =>
    intro σ σ' is is' h
    simp [runOps] at h
    obtain ⟨rfl, rfl⟩ := h
    exact ⟨fun _ => σ, fun _ => ⟨.u, [], []⟩, rfl, rfl, by simp, by simp⟩
  | cons o r ih =>
    intro σ σ' is is' h
    simp only [runOps] at h
    have fin : ∀ (σ1 : St) (rc : Rec), Stepd c callF nt ops o σ σ1 rc → runOps c callF nt ops r σ1 ({ rd := rc.rd, wr := rc.upd.map (·.1) } :: is) = some (σ', is') →
        ∃ (T : Nat → St) (R : Nat → Rec), T 0 = σ ∧ T (o :: r).length = σ' ∧ (∀ (i : Nat) (o' : Oper), (o :: r)[i]? = some o' → Stepd c callF nt ops o' (T i) (T (i + 1)) (R i)) ∧
          is'.reverse = is.reverse ++ (List.range (o :: r).length).map fun i => ({ rd := (R i).rd, wr := (R i).upd.map (·.1) } : Info) := by
      intro σ1 rc hst hr
      obtain ⟨T, R, t1, t2, t3, t4⟩ := ih σ1 σ' _ is' hr
      refine ⟨fun i => match i with | 0 => σ | i + 1 => T i, fun i => match i with | 0 => rc | i + 1 => R i, rfl, by simpa using t2, ?_, ?_⟩
      · intro i o' hi
        cases i with
        | zero => simp at hi; subst hi; simp only [t1]; exact hst
        | succ i => simp at hi; exact t3 i o' hi
      · rw [t4]
        simp only [List.length_cons, List.range_succ_eq_map, List.map_cons, List.map_map, List.reverse_cons, List.append_assoc, List.singleton_append]
        rfl
    cases hw : wantO ops o σ.fr with
    | none => rw [hw] at h; simp [wantK] at h
    | some b =>
      rw [hw] at h
      cases b with
      | false =>
        simp only [wantK] at h
        cases hp : putD nt σ.fr o.dst .u with
        | none => rw [hp] at h; simp [putK] at h
        | some f =>
          rw [hp] at h
          exact fin ⟨f, σ.mem, σ.nx⟩ ⟨.u, [], []⟩ ⟨.inr ⟨hw, rfl, rfl⟩, hp, rfl⟩ h
      | true =>
        simp only [wantK] at h
        cases hst : stp c callF o σ.fr σ.mem σ.nx with
        | none => rw [hst] at h; simp [didK] at h
        | some e =>
          rw [hst] at h
          simp only [didK] at h
          cases hp : putD nt σ.fr o.dst e.v with
          | none => rw [hp] at h; simp [putK] at h
          | some f =>
            rw [hp] at h
            exact fin ⟨f, updM σ.mem e.upd, e.nn⟩ ⟨e.v, e.upd, e.rd⟩ ⟨.inl ⟨hw, hst⟩, hp, rfl⟩ h

/-! ancestors -/
inductive Reach (ops : List Oper) : Nat → Nat → Prop
  | edge {i j : Nat} {o : Oper} {e : Edge} (ho : ops[j]? = some o) (he : e ∈ o.after) (hb : Region.binds .any e = true) (hi : e.on = i) : Reach ops i j
  | step {i k j : Nat} {o : Oper} {e : Edge} (ho : ops[j]? = some o) (he : e ∈ o.after) (hb : Region.binds .any e = true) (hk : e.on = k) (hr : Reach ops i k) : Reach ops i j

theorem bits_fold (acc : List Nat) (i : Nat) : ∀ (l : List Edge) (m : Nat), (l.foldl (fun m e => m ||| 2 ^ e.on ||| acc.getD e.on 0) m).testBit i = true →
    m.testBit i = true ∨ ∃ e ∈ l, e.on = i ∨ (acc.getD e.on 0).testBit i = true := by
  intro l
  induction l with
  | nil => intro m h; exact .inl h
  | cons e l ih =>
    intro m h
    rcases ih _ h with h | ⟨e', he', h⟩
    · simp only [Nat.testBit_or, Bool.or_eq_true, Nat.testBit_two_pow, decide_eq_true_eq] at h
      rcases h with (h | h) | h
      · exact .inl h
      · exact .inr ⟨e, List.mem_cons_self .., .inl h⟩
      · exact .inr ⟨e, List.mem_cons_self .., .inr h⟩
    · exact .inr ⟨e', List.mem_cons_of_mem _ he', h⟩

theorem ancs_reach (ops : List Oper) : ∀ j i, ((ancs ops).getD j 0).testBit i = true → Reach ops i j := by
  have key : ∀ (r : List Oper) (k : Nat) (acc : List Nat), acc.length = k → ops.drop k = r → (∀ j i, (acc.getD j 0).testBit i = true → Reach ops i j) →
      ∀ j i, ((r.foldl (fun acc o => acc ++ [(o.after.toList.filter (Region.binds .any)).foldl (fun m e => m ||| 2 ^ e.on ||| acc.getD e.on 0) 0]) acc).getD j 0).testBit i = true → Reach ops i j := by
    intro r
    induction r with
    | nil => intro k acc _ _ h; exact h
    | cons o r ih =>
      intro k acc hl hd h
      have ho : ops[k]? = some o := by
        have := List.getElem?_drop (xs := ops) (i := k) (j := 0)
        rw [hd] at this
        simpa using this.symm
      refine ih (k + 1) _ (by simp [hl]) (by rw [← List.drop_drop, hd]; rfl) ?_
      intro j i hi
      rw [List.getD_eq_getElem?_getD, List.getElem?_append] at hi
      split at hi
      · exact h j i (by rw [List.getD_eq_getElem?_getD]; exact hi)
      · rename_i hj
        rcases Nat.eq_or_lt_of_le (Nat.le_of_not_lt hj) with hq | hq
        · rw [← hq] at hi
          simp only [Nat.sub_self, List.getElem?_cons_zero, Option.getD_some] at hi
          have hjk : j = k := by omega
          subst hjk
          rcases bits_fold acc i _ _ hi with h0 | ⟨e, he, hi⟩
          · simp at h0
          · rw [List.mem_filter] at he
            obtain ⟨he, hb⟩ := he
            rcases hi with hi | hi
            · exact .edge ho (by simpa using he) hb hi
            · exact .step ho (by simpa using he) hb rfl (h _ _ hi)
        · rw [List.getElem?_eq_none (by simp; omega)] at hi
          simp at hi
  intro j i hi
  exact key ops 0 [] rfl rfl (by simp) j i hi

theorem Reach.listed {ops : List Oper} {L : Nat → Bool} (hd : ∀ j, L j = true → ∀ o, ops[j]? = some o → ∀ e ∈ o.after, Region.binds .any e = true → L e.on = true) {i j : Nat} (hr : Reach ops i j)
    (hj : ∀ o, ops[j]? = some o → ∀ e ∈ o.after, Region.binds .any e = true → L e.on = true) : L i = true := by
  induction hr with
  | edge ho he hb hi => rw [← hi]; exact hj _ ho _ he hb
  | step ho he hb hk hr ih =>
    have := hj _ ho _ he hb
    rw [hk] at this
    exact ih (hd _ this)

end
end Go.Proofs.Ytghdpmejgonjmaa.Am

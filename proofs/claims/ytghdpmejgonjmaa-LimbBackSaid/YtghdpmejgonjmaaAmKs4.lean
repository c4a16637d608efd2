/- What the typed machine says the abstract machine says: code, loops' heads, functions. -/
import Derived.Test.YtghdpmejgonjmaaAmKs3
set_option linter.unusedVariables false
set_option linter.unusedSimpArgs false
namespace Go.Proofs.Ytghdpmejgonjmaa.Am
open Go

structure StR (σ2 : St2) (σ : St) : Prop where
  fr : FrR σ2.fr σ.fr
  mem : σ.mem = σ2.mem.at
  nx : σ.nx = σ2.nx
def OutR : Out2 → Out → Prop
  | .norm σ2, .norm σ => StR σ2 σ
  | .exit i σ2, .exit j σ => i = j ∧ StR σ2 σ
  | .ret σ2, .ret σ => StR σ2 σ
  | _, _ => False
/-- All loops of a code, but for those within others. -/
def LAll (Q : Nat → Code → Prop) : Nat → Code → Prop
  | b, .seq x y => LAll Q b x ∧ LAll Q b y
  | b, .cond _ x y => LAll Q b x ∧ LAll Q b y
  | _, .block id x => LAll Q id x
  | b, .loop x => Q b x
  | _, _ => True

section
variable {R : Type} {c : Cfg} {callF : FuncId → List Vl → List Blk → Option (List Vl × List Blk)} {CO : FuncId → List V2 → List Blk2 → (List V2 × List Blk2 → Option R) → Option R}
  {LO : Nat → Code → St2 → (Out2 → Option R) → Option R} {σ2 : St2} {σ : St} {nt : Nat} {ops : List Oper}

theorem putK_at {d : Option Nat} {v : Sv2} {fr2 : List (Nat × Sv2)} {fr : List (Nat × Sv)} (hF : FrR fr2 fr) {K : List (Nat × Sv2) → Option R} {r : R} (e : putK2 nt d v fr2 K = some r) :
    ∃ fr2', K fr2' = some r ∧ ∃ fr', putD nt fr d v.at = some fr' ∧ FrR fr2' fr' := by
  cases d with
  | none => exact ⟨_, e, fr, rfl, hF⟩
  | some d =>
    simp only [putK2] at e
    split at e
    · rename_i h; exact ⟨_, e, _, by simp only [putD]; rw [if_pos h], hF.cons d v⟩
    · cases e

theorem did_at (hC : COk CO callF) (hs : StR σ2 σ) (o : Oper) (is : List Info) (F : St → List Info → Option (St × List Info)) {K : St2 → List Info → Option R} {r : R} (e : didK2 c CO nt o σ2 is K = some r) :
    ∃ σ2' is', K σ2' is' = some r ∧ ∃ σ', didK F nt o σ is (stp c callF o σ.fr σ.mem σ.nx) = F σ' is' ∧ StR σ2' σ' := by
  unfold didK2 at e
  obtain ⟨ef, e, h1⟩ := stp_at hC hs.fr o _ _ e
  obtain ⟨fr2', e, fr', h2, h3⟩ := putK_at hs.fr e
  refine ⟨_, _, e, { fr := fr', mem := updM σ.mem ef.at.upd, nx := ef.at.nn }, ?_, ⟨h3, ?_, rfl⟩⟩
  · rw [hs.mem, hs.nx, h1]
    simp only [didK]
    rw [show ef.at.v = ef.v.at from rfl, h2]
    simp only [putK, hs.mem]
    congr 2
    simp [Eff2.at, keys_at]
  · simp [Eff2.at, hs.mem, upd_at]
theorem skip_at (hs : StR σ2 σ) (o : Oper) (is : List Info) (F : St → List Info → Option (St × List Info)) {K : St2 → List Info → Option R} {r : R} (e : skipK2 nt o σ2 is K = some r) :
    ∃ σ2' is', K σ2' is' = some r ∧ ∃ σ', putK F σ.mem σ.nx { rd := [], wr := [] } is (putD nt σ.fr o.dst .u) = F σ' is' ∧ StR σ2' σ' := by
  unfold skipK2 at e
  obtain ⟨fr2', e, fr', h2, h3⟩ := putK_at hs.fr e
  refine ⟨_, _, e, { fr := fr', mem := σ.mem, nx := σ.nx }, ?_, ⟨h3, hs.mem, hs.nx⟩⟩
  rw [show Sv2.at .u = Sv.u from rfl] at h2
  rw [h2]; rfl
theorem know_at (hs : StR σ2 σ) {d : Nat} {b b' : Bool} (hl : lk σ2.fr d = some (.v (.a (.bool b)))) (hb : b = b') : StR (know d b' σ2) σ :=
  ⟨hs.fr.know hl hb, hs.mem, hs.nx⟩

theorem ops_at (hC : COk CO callF) : ∀ (l : List Oper) (σ2 : St2) (σ : St) (is : List Info) (K : St2 → List Info → Option R) (r : R), StR σ2 σ → runOps2 c CO nt ops l σ2 is K = some r →
    ∃ σ2' is', K σ2' is' = some r ∧ ∃ σ', runOps c callF nt ops l σ is = some (σ', is') ∧ StR σ2' σ' := by
  intro l
  induction l with
  | nil => intro σ2 σ is K r hs e; exact ⟨_, _, e, σ, rfl, hs⟩
  | cons o l ih =>
    intro σ2 σ is K r hs e
    simp only [runOps2] at e
    unfold wantK2 at e
    have hrun : runOps c callF nt ops (o :: l) σ is = wantK c callF (runOps c callF nt ops l) nt o σ is (wantO ops o σ.fr) := rfl
    split at e
    · rename_i hg
      obtain ⟨σ2', is', e, σ', h1, h2⟩ := did_at hC hs o is (runOps c callF nt ops l) e
      obtain ⟨σ2'', is'', e, σ'', h3, h4⟩ := ih _ _ _ _ _ h2 e
      refine ⟨_, _, e, σ'', ?_, h4⟩
      rw [hrun, wantO, hg]
      simp only [wantK, h1, h3]
    · rename_i j want hg
      simp only [Option.bind_eq_some_iff] at e
      obtain ⟨d, hd, v, hv, e⟩ := e
      have hv' := hs.fr d v hv
      have hd' : (ops[j]?.bind fun x => x.dst) = some d := Option.bind_eq_some_iff.2 hd
      split at e
      · rename_i b
        split at e
        · rename_i hb
          obtain ⟨σ2', is', e, σ', h1, h2⟩ := did_at hC (know_at hs hv hb) o is (runOps c callF nt ops l) e
          obtain ⟨σ2'', is'', e, σ'', h3, h4⟩ := ih _ _ _ _ _ h2 e
          refine ⟨_, _, e, σ'', ?_, h4⟩
          rw [hrun, wantO, hg]
          simp only [hd', Option.bind_some, hv', Sv2.at, V2.at, A2.at, hb, beq_self_eq_true, wantK, h1, h3]
        · rename_i hb
          obtain ⟨σ2', is', e, σ', h1, h2⟩ := skip_at (know_at hs hv (by cases b <;> cases want <;> simp_all)) o is (runOps c callF nt ops l) e
          obtain ⟨σ2'', is'', e, σ'', h3, h4⟩ := ih _ _ _ _ _ h2 e
          refine ⟨_, _, e, σ'', ?_, h4⟩
          have hb' : (b == want) = false := by simpa using hb
          rw [hrun, wantO, hg]
          simp only [hd', Option.bind_some, hv', Sv2.at, V2.at, A2.at, hb', wantK, h1, h3]
      · rename_i hno
        obtain ⟨σ2', is', e, σ', h1, h2⟩ := skip_at hs o is (runOps c callF nt ops l) e
        obtain ⟨σ2'', is'', e, σ'', h3, h4⟩ := ih _ _ _ _ _ h2 e
        refine ⟨_, _, e, σ'', ?_, h4⟩
        have hw : wantO ops o σ.fr = some false := by
          rw [wantO, hg]
          simp only [hd', Option.bind_some, hv']
          cases v with
          | u => rfl
          | t vs => rfl
          | v y => cases y with
            | g cs => rfl
            | a z => cases z <;> first | rfl | exact absurd rfl (hno _)
        rw [hrun, hw]
        simp only [wantK, h1, h3]

variable {kp : Nat → List Kp} {k p : Nat}
/-- A loop's word is the abstract machine's. -/
def LOk (LO : Nat → Code → St2 → (Out2 → Option R) → Option R) (c : Cfg) (callF : FuncId → List Vl → List Blk → Option (List Vl × List Blk)) (kp : Nat → List Kp) (nt k p : Nat) (b : Nat) (x : Code) : Prop :=
  ∀ σ2 σ, StR σ2 σ → Snd (LO b x σ2) fun o2 => ∃ o, loopN (headN p (kp b)) (runC c callF kp nt k p b x) k σ = some o ∧ OutR o2 o

theorem run_at (hC : COk CO callF) : ∀ (x : Code) (b : Nat) (σ2 : St2) (σ : St), LAll (LOk LO c callF kp nt k p) b x → StR σ2 σ →
    Snd (run2 c CO LO nt b x σ2) fun o2 => ∃ o, runC c callF kp nt k p b x σ = some o ∧ OutR o2 o := by
  intro x
  induction x with
  | skip => intro b σ2 σ hL hs K r e; exact ⟨_, e, _, rfl, hs⟩
  | region id ops draw =>
    intro b σ2 σ hL hs K r e
    simp only [run2] at e
    obtain ⟨σ2', is', e, σ', h1, h2⟩ := ops_at hC _ _ _ _ _ _ hs e
    split at e
    · cases e
    · rename_i hd
      refine ⟨_, e, .norm σ', ?_, h2⟩
      simp only [runC, h1, regK]
      rw [if_neg (by simpa using hd)]
  | seq x y ihx ihy =>
    intro b σ2 σ hL hs K r e
    simp only [run2] at e
    obtain ⟨o2, e, o, h1, h2⟩ := ihx b _ _ hL.1 hs _ _ e
    cases o2 with
    | norm σ2' =>
      cases o <;> simp only [OutR] at h2
      rename_i σ'
      obtain ⟨o2, e, o, h3, h4⟩ := ihy b _ _ hL.2 h2 _ _ e
      exact ⟨o2, e, o, by simp only [runC, h1, seqK, h3], h4⟩
    | exit i σ2' =>
      refine ⟨_, e, o, ?_, h2⟩
      cases o <;> simp only [OutR] at h2
      simp only [runC, h1, seqK]
    | ret σ2' =>
      refine ⟨_, e, o, ?_, h2⟩
      cases o <;> simp only [OutR] at h2
      simp only [runC, h1, seqK]
  | cond o x y ihx ihy =>
    intro b σ2 σ hL hs K r e
    have gen : ((evB2 σ2.fr o).bind fun q => if q = true then run2 c CO LO nt b x σ2 K else run2 c CO LO nt b y σ2 K) = some r →
        ∃ o2, K o2 = some r ∧ ∃ out, runC c callF kp nt k p b (.cond o x y) σ = some out ∧ OutR o2 out := by
      intro e
      simp only [Option.bind_eq_some_iff] at e
      obtain ⟨q, hq, e⟩ := e
      split at e
      · rename_i hb
        subst hb
        obtain ⟨o2, e, o', h3, h4⟩ := ihx b _ _ hL.1 hs _ _ e
        exact ⟨o2, e, o', by simp only [runC, hs.fr.evB hq, cndK, h3], h4⟩
      · rename_i hb
        obtain ⟨o2, e, o', h3, h4⟩ := ihy b _ _ hL.2 hs _ _ e
        exact ⟨o2, e, o', by simp only [runC, hs.fr.evB hq, (show q = false by simpa using hb), cndK, h3], h4⟩
    cases o with
    | tmp t =>
      simp only [run2, Option.bind_eq_some_iff] at e
      obtain ⟨v, hv, e⟩ := e
      have hv' := hs.fr t v hv
      split at e
      · rename_i q
        have hq : evB σ.fr (.tmp t) = some q := by simp [evB, evA, ev, hv', Sv2.at, V2.at, A2.at, svA, asB]
        split at e
        · rename_i hb
          obtain ⟨o2, e, o', h3, h4⟩ := ihx b _ _ hL.1 (know_at hs hv hb) _ _ e
          exact ⟨o2, e, o', by simp only [runC, hq, hb, cndK, h3], h4⟩
        · rename_i hb
          have hb' : q = false := by simpa using hb
          obtain ⟨o2, e, o', h3, h4⟩ := ihy b _ _ hL.2 (know_at hs hv hb') _ _ e
          exact ⟨o2, e, o', by simp only [runC, hq, hb', cndK, h3], h4⟩
      · cases e
    | const v => exact gen (by simpa only [run2] using e)
    | func f => exact gen (by simpa only [run2] using e)
    | global g => exact gen (by simpa only [run2] using e)
  | block id x ih =>
    intro b σ2 σ hL hs K r e
    simp only [run2] at e
    obtain ⟨o2, e, o, h1, h2⟩ := ih id _ _ hL hs _ _ e
    cases o2 with
    | norm σ2' =>
      refine ⟨_, e, o, ?_, h2⟩
      cases o <;> simp only [OutR] at h2
      simp only [runC, h1, blkK]
    | exit i σ2' =>
      cases o <;> simp only [OutR] at h2
      rename_i j σ'
      obtain ⟨rfl, h2⟩ := h2
      simp only [] at e
      split at e
      · rename_i hi
        exact ⟨_, e, .norm σ', by simp only [runC, h1, blkK]; rw [if_pos hi], h2⟩
      · rename_i hi
        exact ⟨_, e, .exit i σ', by simp only [runC, h1, blkK]; rw [if_neg hi], rfl, h2⟩
    | ret σ2' =>
      refine ⟨_, e, o, ?_, h2⟩
      cases o <;> simp only [OutR] at h2
      simp only [runC, h1, blkK]
  | loop x ih => intro b σ2 σ hL hs K r e; exact hL σ2 σ hs K r e
  | exit id => intro b σ2 σ hL hs K r e; exact ⟨_, e, _, rfl, rfl, hs⟩
  | ret => intro b σ2 σ hL hs K r e; exact ⟨_, e, _, rfl, hs⟩
  | _ => intro b σ2 σ hL hs K r e; cases e

theorem own_at (T : TypeId → Option TI) (nx : Nat) (a : A2) : ownA nx a.at = ((ownA2 T nx a).1.at, (ownA2 T nx a).2.1.at, (ownA2 T nx a).2.2) := by
  cases a <;> try rfl
  case snil es ty =>
    simp only [A2.at, ownA, ownA2, Mem2.at, List.map_cons, List.map_nil, oAt, Option.map_some, Blk2.at]
    split <;> rfl
theorem ownL_at (T : TypeId → Option TI) : ∀ (cs : List A2) (nx : Nat), ownL nx (cs.map A2.at) = ((ownL2 T nx cs).1.map A2.at, (ownL2 T nx cs).2.1.at, (ownL2 T nx cs).2.2) := by
  intro cs
  induction cs with
  | nil => intro nx; rfl
  | cons a cs ih =>
    intro nx
    simp only [List.map_cons, ownL, own_at T, ih, ownL2, app_at]
theorem keep_at (hs : StR σ2 σ) : ∀ (ks : List Kp) (q : List (Nat × V2) × Mem2 × Nat), keepL2 c.T σ2 ks = some q → keepL σ ks = some (q.1.map (fun p => (p.1, Sv.v p.2.at)), q.2.1.at, q.2.2) := by
  intro ks
  induction ks with
  | nil => intro q e; cases e; simp [keepL, hs.nx, Mem2.at]
  | cons kk ks ih =>
    intro q e
    cases kk with
    | s t =>
      simp only [keepL2, Option.bind_eq_some_iff] at e
      obtain ⟨q0, h1, e⟩ := e
      simp only [keepL, ih _ h1, Option.bind_some]
      split at e
      · rename_i x hx
        cases e
        simp only [hs.fr _ _ hx, Sv2.at, V2.at, own_at c.T, app_at, List.map_cons]
      · rename_i cs hx
        cases e
        simp only [hs.fr _ _ hx, Sv2.at, V2.at, ownL_at c.T, app_at, List.map_cons]
      · cases e
    | b t =>
      simp only [keepL2, Option.bind_eq_some_iff] at e
      obtain ⟨q0, h1, e⟩ := e
      simp only [keepL, ih _ h1, Option.bind_some]
      split at e
      · rename_i m o hx
        simp only [Option.bind_eq_some_iff] at e
        obtain ⟨b, h2, e⟩ := e
        split at e
        · rename_i el hb
          cases e
          simp only [hs.fr _ _ hx, Sv2.at, V2.at, A2.at, hs.mem, ← upd_at, mget_at, h2, Option.map_some, Option.bind_some, Blk2.at, hb, Bd.rows, List.map_cons, List.map_nil, ownL_at c.T, app_at, cons_at, oAt, all_pr, nil_at]
        · cases e
      · cases e
theorem renS_at {ρ : Nat → Option Nat} : ∀ {l : List (Nat × V2)} {s : List (Nat × Sv2)}, renS2 ρ l = some s → renS ρ (l.map fun p => (p.1, Sv.v p.2.at)) = some (s.map fun p => (p.1, p.2.at)) := by
  intro l
  induction l with
  | nil => intro s e; cases e; rfl
  | cons q l ih =>
    intro s e
    simp only [renS2, Option.bind_eq_some_iff] at e
    obtain ⟨y, h1, r, h2, e⟩ := e
    cases e
    simp only [List.map_cons, renS, renV_at h1, ih h2, Option.bind_some, Sv2.at]
theorem lk_map {β γ : Type} (g : β → γ) (l : List (Nat × β)) (t : Nat) : lk (l.map fun p => (p.1, g p.2)) t = (lk l t).map g := by
  induction l with
  | nil => rfl
  | cons p l ih =>
    simp only [List.map_cons, lk]
    split
    · rfl
    · exact ih
def vOf : Sv → Option Vl
  | .v x => some x
  | _ => none
def headB (p : Nat) (mem : Mem) (fr0 : List (Nat × Sv)) (N : List Nat) : Option St :=
  (renS (idx N) fr0).bind fun fr =>
  (mapO (fun m => (mget mem m).bind (renB (idx N))) N).bind fun bs =>
  if N.take p = List.range p then some { fr := fr, mem := zipU (List.range N.length) bs, nx := N.length } else none
theorem headN_eq (p : Nat) (ks : List Kp) (σ : St) : headN p ks σ = (keepL σ ks).bind fun q => headB p (updM σ.mem q.2.1) q.1 (clo (namesM (updM σ.mem q.2.1)) 64 (List.range p ++ namesV (q.1.filterMap fun s => vOf s.2)) []) := rfl
theorem head_at (hs : StR σ2 σ) {ks : List Kp} {S2 : St2} (e : head2 c.T p ks σ2 = some S2) : ∃ S, headN p ks σ = some S ∧ StR S2 S := by
  unfold head2 at e
  simp only [Option.bind_eq_some_iff] at e
  obtain ⟨q, h1, fr, h2, bs, h3, e⟩ := e
  generalize hN : clo (names2 A2.nm (upd2 σ2.mem q.2.1)) 64 (List.range p ++ namesV2 A2.nm (q.1.map (·.2))) [] = N at h2 h3 e
  split at e
  · rename_i hp
    cases e
    have h3' := mapO_at (p := id) (q := Blk2.at) (g := fun m => (mget (upd2 σ2.mem q.2.1).at m).bind (renB (idx N))) (fun m b h => by
      simp only [Option.bind_eq_some_iff] at h
      obtain ⟨b0, h4, h5⟩ := h
      simp only [id_eq, mget_at, h4, Option.map_some, Option.bind_some]
      exact renB_at h5) h3
    rw [List.map_id] at h3'
    have hfm : ∀ l : List (Nat × V2), List.filterMap (fun s : Nat × Sv => vOf s.2) (l.map fun p => (p.1, Sv.v p.2.at)) = (l.map (·.2)).map V2.at := by
      intro l
      induction l with
      | nil => rfl
      | cons a l ih => rw [List.map_cons, List.filterMap_cons, List.map_cons, List.map_cons, ← ih]; rfl
    refine ⟨{ fr := fr.map fun p => (p.1, p.2.at), mem := zipU (List.range N.length) (bs.map Blk2.at), nx := N.length }, ?_, ⟨?_, ?_, rfl⟩⟩
    · rw [headN_eq, keep_at hs _ _ h1]
      simp only [Option.bind_some, hs.mem, ← upd_at, namesM_at, hfm, namesV_at, hN]
      simp only [headB, renS_at h2, h3', Option.bind_some]
      rw [if_pos hp]
    · intro t v h
      rw [lk_map, h]; rfl
    · exact (zip_at _ _).symm
  · cases e
end
end Go.Proofs.Ytghdpmejgonjmaa.Am

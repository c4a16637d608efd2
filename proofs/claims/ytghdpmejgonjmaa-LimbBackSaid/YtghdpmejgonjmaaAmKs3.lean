/- What the typed machine says the abstract machine says: append, calls, every operation. -/
import Derived.Test.YtghdpmejgonjmaaAmKs2
set_option linter.unusedVariables false
set_option linter.unusedSimpArgs false
namespace Go.Proofs.Ytghdpmejgonjmaa.Am
open Go

/-- What is called says what the abstract machine's call says. -/
def COk {R : Type} (CO : FuncId → List V2 → List Blk2 → (List V2 × List Blk2 → Option R) → Option R) (callF : FuncId → List Vl → List Blk → Option (List Vl × List Blk)) : Prop :=
  ∀ f a b, Snd (CO f a b) fun r => callF f (a.map V2.at) (b.map Blk2.at) = some (r.1.map V2.at, r.2.map Blk2.at)

section
variable {R : Type} {c : Cfg} {callF : FuncId → List Vl → List Blk → Option (List Vl × List Blk)} {CO : FuncId → List V2 → List Blk2 → (List V2 × List Blk2 → Option R) → Option R}
  {fr2 : List (Nat × Sv2)} {fr : List (Nat × Sv)} {mem : Mem2} {nx : Nat}

theorem appK_at (t : TypeId) (s x : A2) (mem : Mem2) (nx : Nat) : Snd (R := R) (appK c t s x mem nx) fun e => stpAppend c t s.at x.at mem.at nx = some e.at := by
  intro K r e
  unfold appK at e
  unfold stpAppend
  split at e
  · rename_i el htd
    simp only [Option.bind_eq_some_iff] at e
    obtain ⟨te, hte, e⟩ := e
    split at e
    · rename_i hst
      obtain ⟨src, rd, e', hsrc⟩ := els_at _ _ _ _ _ e
      clear e
      have e := e'
      clear e'
      have hlen : src.rows.length = src.len := by cases src <;> simp [Src.rows, Src.len]
      simp only [htd, hte, Option.bind_some, hsrc]
      cases s <;> simp only [] at e
      case snil es' ty' =>
        split at e
        · simp only [Option.bind_eq_some_iff] at e
          obtain ⟨d, hd, e⟩ := e
          refine ⟨_, e, ?_⟩
          simp only [A2.at, Option.bind_some, Src.len, Src.rows]
          refine (if_pos ⟨by simp, hst⟩).trans ?_
          simp [Eff2.at, Mem2.at, oAt, Blk2.at, Bd.rows, Sv2.at, V2.at, A2.at]
        · rename_i d l
          split at e
          · rename_i hb
            refine ⟨_, e, ?_⟩
            simp only [A2.at, Option.bind_some, Src.len, Src.rows]
            refine (if_pos ⟨by simpa using hb, hst⟩).trans ?_
            simp [Eff2.at, Mem2.at, oAt, Blk2.at, Bd.rows, Sv2.at, V2.at, A2.at]
          · cases e
      case sm m lo n =>
        simp only [Option.bind_eq_some_iff] at e
        obtain ⟨b, hb, e⟩ := e
        split at e
        · rename_i d l hbd
          split at e
          · rename_i hc
            split at e
            · rename_i hlo
              subst hlo
              split at e
              · rename_i hn
                have hrows : b.at.els = l.map d.at := by simp [Blk2.at, hbd, Bd.rows]
                simp only [A2.at, mget_at, hb, Option.map_some, Option.bind_some, hrows, List.length_map]
                rw [if_pos (show (True ∧ b.at.es = te.size ∧ b.at.ty = el ∧ n ≤ l.length ∧ (!b.at.fz) = true) from ⟨trivial, hc.1, hc.2.1, hn, by have := hc.2.2.1; simp [Blk2.at, this]⟩) ]
                have hpr : b.at.pr = true := hc.2.2.2
                simp only [Option.bind_some, hpr]
                split at e
                · split at e
                  · rename_i hbd2
                    refine ⟨_, e, ?_⟩
                    simp only [Src.len, Src.rows]
                    refine (if_pos ⟨by simpa using hbd2, hst⟩).trans ?_
                    simp [Eff2.at, Mem2.at, oAt, Blk2.at, Bd.rows, Sv2.at, V2.at, A2.at, List.map_take]
                  · cases e
                · rename_i d' l'
                  simp only [Option.bind_eq_some_iff] at e
                  obtain ⟨l2, hl2, e⟩ := e
                  obtain ⟨hdd, rfl⟩ := castL_eq hl2
                  subst hdd
                  split at e
                  · rename_i hbd2
                    refine ⟨_, e, ?_⟩
                    simp only [Src.len, Src.rows]
                    refine (if_pos ⟨by simpa using hbd2, hst⟩).trans ?_
                    simp [Eff2.at, Mem2.at, oAt, Blk2.at, Bd.rows, Sv2.at, V2.at, A2.at, List.map_take]
                  · cases e
              · cases e
            · cases e
          · cases e
        · cases e
      all_goals cases e
    · cases e
  · cases e

theorem snd_of {R α : Type} {m : (α → Option R) → Option R} {Q : α → Prop} (h : Snd m Q) {K : α → Option R} {r : R} (e : m K = some r) : ∃ x, K x = some r ∧ Q x := h K r e

theorem vals_at (f : FuncId) (mem : Mem2) (args : List V2) : Snd (R := R) (fun K => if c.mutA f then K args else mapK (frzVK c mem) args K) fun vals => (if c.mutA f then some (args.map V2.at) else mapO (frzV mem.at) (args.map V2.at)) = some (vals.map V2.at) := by
  intro K r e
  simp only [] at e
  split at e
  · rename_i h; exact ⟨_, e, by rw [if_pos h]⟩
  · rename_i h
    obtain ⟨x, e1, h1⟩ := mapK_at (fun v => frzV_at mem v) args _ _ e
    exact ⟨x, e1, by rw [if_neg h]; exact h1⟩
theorem clo_at (f : FuncId) (mem : Mem2) (l acc : List Nat) : clo (fun m => if c.mutA f then namesM mem.at m else ptrsM mem.at m) 64 l acc = clo (if c.mutA f then names2 A2.nm mem else names2 A2.ptrs mem) 64 l acc := by
  congr 1
  funext m
  split
  · rw [namesM_at]
  · rw [ptrsM_at]
theorem noSl_all (rs : List V2) : (rs.map V2.at).all (fun v => v.cells.all At.noSl) = rs.all fun v => v.cells.all A2.noSl := by
  rw [List.all_map]; congr 1; funext v
  simp only [Function.comp_def, cells_at, List.all_map]
  congr 1; funext a; exact noSl_at a
theorem isEmpty_map' {α β : Type} (f : α → β) (l : List α) : (l.map f).isEmpty = l.isEmpty := by cases l <;> rfl

theorem call_at (hC : COk CO callF) (f : FuncId) (args : List V2) (mem : Mem2) (nx : Nat) : Snd (callK c CO f args mem nx) fun e => stpCall c callF f (args.map V2.at) mem.at nx = some e.at := by
  intro K r e
  unfold callK at e
  obtain ⟨vals, e, h1⟩ := vals_at f mem args _ _ e
  obtain ⟨blks, e, h2⟩ := mapK_at (q := Blk2.at) (p := id) (g := fun m => (mget (Mem2.at _) m).bind fun b => (if c.mutA f then some b else frzB mem.at b).bind (renB (idx _))) (fun m => blk_at _ _ _ _ m) _ _ _ e
  simp only [Option.bind_eq_some_iff] at e
  obtain ⟨vals', h3, e⟩ := e
  obtain ⟨r1, e, h4⟩ := hC _ _ _ _ _ e
  simp only [Option.bind_eq_some_iff] at e
  obtain ⟨rs, h5, bs, h6, e⟩ := e
  refine ⟨_, e, ?_⟩
  unfold stpCall
  rw [h1]
  simp only [Option.bind_some, namesV_at, smnV_at, smnM_at, clo_at]
  rw [List.map_id, upd_at, fz_at] at h2
  rw [h2]
  simp only [Option.bind_some]
  have h3' := mapO_at (fun _ _ => renV_at) h3
  rw [h3']
  simp only [Option.bind_some, h4]
  have hcn : ∀ N : List Nat, cnt nx ((r1.2.map Blk2.at).drop N.length) = cnt nx (r1.2.drop N.length) := fun N => cnt_len _ _ _ (by simp)
  simp only [hcn]
  have h5' := mapO_at (fun _ _ => renV_at) h5
  have h6' := mapO_at (fun _ _ => renB_at) h6
  rw [h5', Option.bind_some, h6', Option.bind_some]
  have hif : ∀ (p : Prop) [Decidable p] (a : Mem2), Mem2.at (if p then [] else a) = if p then [] else a.at := by intro p _ a; split <;> rfl
  simp only [Eff2.at, res_at, List.length_map, isEmpty_map', noSl_all, app_at, zip_at, hif, fz_at]

theorem nil_at : Mem2.at [] = [] := rfl
theorem stp_at (hC : COk CO callF) (hF : FrR fr2 fr) (o : Oper) : Snd (stpK c CO o fr2 mem nx) fun e => stp c callF o fr mem.at nx = some e.at := by
  intro K r e
  obtain ⟨dst, op, type, pos, after, guard⟩ := o
  have mv : ∀ x : Operand, ((ev2 fr2 x).bind fun v =>
      match v with
      | .v (.a (.snil ..)) => match tdOf c.T type with
        | some (.sl e) => (c.T e).bind fun te => val2 (.a (.snil te.size e)) nx K
        | _ => none
      | .u => none
      | v => K { v := v, upd := [], nn := nx, rd := [] }) = some r → ∃ z : Eff2, K z = some r ∧ ((ev fr x).bind fun v =>
    match v with
    | .v (.a (.snil ..)) => match tdOf c.T type with
      | some (.sl e) => (c.T e).bind fun te => val (.a (.snil te.size e)) nx
      | _ => none
    | .u => none
    | v => some { v := v, upd := [], nn := nx, rd := [] }) = some z.at := by
    intro x e
    simp only [Option.bind_eq_some_iff] at e
    obtain ⟨v, h1, e⟩ := e
    rw [hF.ev h1, Option.bind_some]
    split at e
    · split at e
      · rename_i htd
        simp only [Option.bind_eq_some_iff] at e
        obtain ⟨te, h2, e⟩ := e
        exact ⟨_, e, by simp [Sv2.at, V2.at, A2.at, htd, h2, val, Eff2.at, nil_at]⟩
      · cases e
    · cases e
    · rename_i h2 h3
      refine ⟨_, e, ?_⟩
      cases v with
      | u => exact absurd rfl h3
      | t vs => rfl
      | v y =>
        cases y with
        | g cs => rfl
        | a z =>
          cases z with
          | snil es ty => exact absurd rfl (h2 es ty)
          | _ => rfl
  cases op <;> simp only [stpK] at e <;> simp only [stp]
  case move x => exact mv x e
  case assign x => exact mv x e
  case pick k a b =>
    simp only [Option.bind_eq_some_iff] at e
    obtain ⟨t, h1, e⟩ := e
    rw [hF.evB h1, Option.bind_some]
    split at e
    · rename_i ht
      subst ht
      simp only [Option.bind_eq_some_iff] at e
      obtain ⟨x, h2, e⟩ := e
      exact ⟨_, e, by simp [hF.evA h2, val, Eff2.at, Sv2.at, V2.at, nil_at]⟩
    · rename_i ht
      simp only [Option.bind_eq_some_iff] at e
      obtain ⟨x, h2, e⟩ := e
      exact ⟨_, e, by simp [ht, hF.evA h2, val, Eff2.at, Sv2.at, V2.at, nil_at]⟩
  case alloc t =>
    simp only [Option.bind_eq_some_iff] at e
    obtain ⟨ti, h1, z, h2, e⟩ := e
    obtain ⟨q1, q2⟩ := zero_at h2
    split at e
    · rename_i hl
      refine ⟨_, e, ?_⟩
      rw [h1, Option.bind_some, if_neg (by omega)]
      simp [Eff2.at, nil_at, cons_at, oAt, Blk2.at, Bd.rows, Sv2.at, V2.at, A2.at, q1]
    · cases e
  case box t x =>
    simp only [Option.bind_eq_some_iff] at e
    obtain ⟨ti, h1, v, h2, e⟩ := e
    split at e
    · rename_i hl
      refine ⟨_, e, ?_⟩
      rw [h1, Option.bind_some, hF.evV h2, Option.bind_some, cells_at, if_pos (by simpa using hl)]
      rw [all_pr]
      simp [Eff2.at, nil_at, cons_at, oAt, Blk2.at, Bd.rows, Sv2.at, V2.at, A2.at]
    · cases e
  case build t parts =>
    simp only [Option.bind_eq_some_iff] at e
    obtain ⟨ti, h1, e⟩ := e
    rw [h1, Option.bind_some]
    split at e
    · rename_i fs ts hd
      simp only [Option.bind_eq_some_iff] at e
      obtain ⟨z, h2, e⟩ := e
      obtain ⟨q1, q2⟩ := zero_at h2
      split at e
      · rename_i hl
        simp only [Option.bind_eq_some_iff] at e
        obtain ⟨ps, h3, cs, h4, e⟩ := e
        refine ⟨_, e, ?_⟩
        have h4' := fillV_at h4
        rw [q1] at h4'
        simp only [hd]
        rw [if_neg (by omega), parts_at hF h3, Option.bind_some, h4', Option.bind_some]
        simp [val, Eff2.at, Sv2.at, V2.at, nil_at]
      · cases e
    · cases e
  case buildSlice t len parts =>
    split at e
    · rename_i el htd
      simp only [Option.bind_eq_some_iff] at e
      obtain ⟨te, h1, z, h2, ps, h3, els, h4, e⟩ := e
      obtain ⟨q1, q2⟩ := zero_at h2
      split at e
      · rename_i hl
        refine ⟨_, e, ?_⟩
        have h4' := fillE_at h4
        rw [List.map_replicate, q1] at h4'
        simp only [htd]
        rw [h1, Option.bind_some, parts_at hF h3, Option.bind_some, h4', Option.bind_some, if_pos ⟨hl.1, hl.2.1, hl.2.2.1, by omega⟩]
        simp [Eff2.at, nil_at, cons_at, oAt, Blk2.at, packB_rows, Sv2.at, V2.at, A2.at]
        have := allall_pr els
        rw [List.all_map] at this
        simpa [Function.comp_def] using this
      · cases e
    · cases e
  case load t x =>
    simp only [Option.bind_eq_some_iff] at e
    obtain ⟨ti, h1, a, h2, e⟩ := e
    rw [h1, Option.bind_some, hF.evA h2, Option.bind_some]
    split at e
    · rename_i m i o
      simp only [Option.bind_eq_some_iff] at e
      obtain ⟨b, h3, e⟩ := e
      split at e
      · rename_i els hb
        simp only [Option.bind_eq_some_iff] at e
        obtain ⟨el, h4, v, h5, e⟩ := e
        refine ⟨_, e, ?_⟩
        simp [A2.at, mget_at, h3, Blk2.at, hb, Bd.rows, h4, part_at h5, Eff2.at, nil_at, Sv2.at]
      · rename_i d l hb
        simp only [Option.bind_eq_some_iff] at e
        obtain ⟨el, h4, v, h5, e⟩ := e
        refine ⟨_, e, ?_⟩
        have h5' := part_at h5
        rw [cl_at] at h5'
        simp [A2.at, mget_at, h3, Blk2.at, hb, Bd.rows, h4, h5', Eff2.at, nil_at, Sv2.at]
    · rename_i d el o
      simp only [Option.bind_eq_some_iff] at e
      obtain ⟨v, h5, e⟩ := e
      refine ⟨_, e, ?_⟩
      have h5' := part_at h5
      rw [cl_at] at h5'
      simp [A2.at, h5', val, Eff2.at, nil_at, Sv2.at]
    · cases e
  case store t x y =>
    simp only [Option.bind_eq_some_iff] at e
    obtain ⟨ti, h1, v, h2, a, h3, e⟩ := e
    rw [h1, Option.bind_some, hF.evV h2, Option.bind_some, hF.evA h3, Option.bind_some]
    split at e
    · rename_i m i o
      simp only [Option.bind_eq_some_iff] at e
      obtain ⟨b, h4, e⟩ := e
      split at e
      · rename_i els hb
        simp only [Option.bind_eq_some_iff] at e
        obtain ⟨el, h5, e⟩ := e
        split at e
        · rename_i hl
          refine ⟨_, e, ?_⟩
          simp only [A2.at, mget_at, h4, Option.map_some, Option.bind_some, Blk2.at, hb, Bd.rows, List.getElem?_map, h5, cells_at, List.length_map]
          rw [if_pos ⟨hl.1, hl.2.1, by simp [hl.2.2]⟩]
          simp [Eff2.at, nil_at, cons_at, oAt, Blk2.at, Bd.rows, Sv2.at, List.map_set, put_at, Function.comp_def, pr_at]
        · cases e
      · rename_i d l hb
        simp only [Option.bind_eq_some_iff] at e
        obtain ⟨el, h5, e⟩ := e
        split at e
        · rename_i hl
          simp only [Option.bind_eq_some_iff] at e
          obtain ⟨el', h6, e⟩ := e
          refine ⟨_, e, ?_⟩
          have h6' := dec_at h6
          rw [put_at, cl_at] at h6'
          have hlen : o + ti.size ≤ (d.at el).length := by have := hl.2.1; rwa [← List.length_map (f := A2.at), cl_at] at this
          simp only [A2.at, mget_at, h4, Option.map_some, Option.bind_some, Blk2.at, hb, Bd.rows, List.getElem?_map, h5, cells_at, List.length_map]
          rw [if_pos ⟨hl.1, hlen, by simp [hl.2.2.1]⟩]
          simp [Eff2.at, nil_at, cons_at, oAt, Blk2.at, Bd.rows, Sv2.at, List.map_set, h6', Function.comp_def, pr_at]
        · cases e
    · cases e
  case nilCheck x =>
    simp only [Option.bind_eq_some_iff] at e
    obtain ⟨a, h1, e⟩ := e
    rw [hF.evA h1, Option.bind_some]
    split at e
    · exact ⟨_, e, by simp [A2.at, val, Eff2.at, nil_at, Sv2.at, V2.at]⟩
    · exact ⟨_, e, by simp [A2.at, val, Eff2.at, nil_at, Sv2.at, V2.at]⟩
    · cases e
  case binOp op ty x y u =>
    simp only [Option.bind_eq_some_iff] at e
    obtain ⟨a, h1, b, h2, e⟩ := e
    obtain ⟨z, e, h3⟩ := bin_at c.T op ty a b _ _ e
    exact ⟨_, e, by simp [hF.evA h1, hF.evA h2, h3, valA, val, Eff2.at, nil_at, Sv2.at, V2.at]⟩
  case unOp op ty x =>
    simp only [Option.bind_eq_some_iff] at e
    obtain ⟨a, h1, e⟩ := e
    obtain ⟨z, e, h3⟩ := un_at op a _ _ e
    exact ⟨_, e, by simp [hF.evA h1, h3, valA, val, Eff2.at, nil_at, Sv2.at, V2.at]⟩
  case convert src ds x =>
    simp only [Option.bind_eq_some_iff] at e
    obtain ⟨a, h1, e⟩ := e
    rw [hF.evA h1, Option.bind_some]
    split at e
    · rename_i el ht1 ht2
      simp only [ht1, ht2]
      split at e
      · rename_i ht3
        obtain ⟨s, rd, e, h2⟩ := els_at _ _ _ _ _ e
        simp only [ht3, h2, Option.bind_some]
        split at e
        · refine ⟨_, e, ?_⟩
          simp [Src.rows, byteEls, Eff2.at, nil_at, Sv2.at, V2.at, A2.at]
        · rename_i l
          refine ⟨_, e, ?_⟩
          have key : ∀ l : List Int, byteEls (l.map (Cd.at (.int .u8))) = some (l.map fun n : Int => n.toNat.toUInt8) := by
            intro l
            induction l with
            | nil => rfl
            | cons x l ih =>
              simp only [List.map_cons]
              show (byteEls (l.map (Cd.at (.int .u8)))).bind _ = _
              rw [ih]
              rfl
          have key' := key l
          simp only [Src.rows, key', Option.bind_some, Eff2.at, nil_at, Sv2.at, V2.at, A2.at, List.map_nil]
        · cases e
      · cases e
    · rename_i hno
      obtain ⟨z, e, h3⟩ := conv_at c.T src ds a _ _ e
      refine ⟨_, e, ?_⟩
      split
      · rename_i el ht1 ht2; exact absurd ht2 (hno el ht1)
      · simp [h3, valA, val, Eff2.at, nil_at, Sv2.at, V2.at]
  case makeSlice t l k =>
    split at e
    · rename_i el htd
      simp only [Option.bind_eq_some_iff] at e
      obtain ⟨te, h1, z, h2, d, h3, z0, h4, l, h5, k, h6, e⟩ := e
      obtain ⟨q1, q2⟩ := zero_at h2
      split at e
      · rename_i hs
        split at e
        · rename_i hb
          refine ⟨_, e, ?_⟩
          have h4' := dec_at h4
          rw [q1] at h4'
          simp only [htd]
          rw [h1, Option.bind_some, hF.evI h5, Option.bind_some, hF.evI h6, Option.bind_some, if_pos ⟨hb.1, hb.2.1, hb.2.2, hs.1, hs.2.1, by omega⟩]
          simp [Eff2.at, nil_at, cons_at, oAt, Blk2.at, Bd.rows, Sv2.at, V2.at, A2.at, h4']
        · cases e
      · cases e
    · cases e
  case slice t x lo hi mx =>
    split at e
    · cases e
    · rename_i hmx
      rw [if_neg hmx]
      simp only [Option.bind_eq_some_iff] at e
      obtain ⟨td, h1, a, h2, e⟩ := e
      rw [h1, Option.bind_some, hF.evA h2, Option.bind_some]
      split at e
      · rename_i s
        simp only [Option.bind_eq_some_iff] at e
        obtain ⟨l, h3, h, h4, e⟩ := e
        split at e
        · rename_i hb
          refine ⟨_, e, ?_⟩
          simp only [A2.at, hF.bound h3, hF.bound h4, Option.bind_some]
          rw [if_pos hb]
          simp [val, Eff2.at, nil_at, Sv2.at, V2.at, A2.at]
        · cases e
      · rename_i el d els
        simp only [Option.bind_eq_some_iff] at e
        obtain ⟨te, h3, l, h4, h, h5, e⟩ := e
        split at e
        · rename_i hz
          split at e
          · rename_i hb
            refine ⟨_, e, ?_⟩
            simp only [A2.at, h3, hF.bound h4, hF.bound h5, Option.bind_some]
            rw [if_pos ⟨hb.1, hb.2.1, hb.2.2, hz⟩]
            simp only [val, Eff2.at, nil_at, Sv2.at, V2.at, A2.at, List.map_nil, List.map_take, List.map_drop, List.length_take, List.length_drop]
            rw [show min (h.toNat - l.toNat) (els.length - l.toNat) = h.toNat - l.toNat by omega]
          · cases e
        · cases e
      · rename_i el m b n
        simp only [Option.bind_eq_some_iff] at e
        obtain ⟨te, h3, B, h4, e⟩ := e
        split at e
        · rename_i d els hbd
          simp only [Option.bind_eq_some_iff] at e
          obtain ⟨l, h5, h, h6, e⟩ := e
          split at e
          · rename_i hz
            split at e
            · rename_i hb
              refine ⟨_, e, ?_⟩
              simp only [A2.at, h3, mget_at, h4, Option.map_some, hF.bound h5, hF.bound h6, Option.bind_some]
              rw [if_pos ⟨hb.1, hb.2.1, by simpa [Blk2.at, hbd, Bd.rows] using hb.2.2.1, hb.2.2.2, hz.1, hz.2⟩]
              simp [Eff2.at, nil_at, Sv2.at, V2.at, A2.at]
            · cases e
          · cases e
        · rename_i els hbd
          simp only [Option.bind_eq_some_iff] at e
          obtain ⟨l, h5, h, h6, e⟩ := e
          split at e
          · rename_i hz
            split at e
            · rename_i hb
              refine ⟨_, e, ?_⟩
              simp only [A2.at, h3, mget_at, h4, Option.map_some, hF.bound h5, hF.bound h6, Option.bind_some]
              rw [if_pos ⟨hb.1, hb.2.1, by simpa [Blk2.at, hbd, Bd.rows] using hb.2.2.1, hb.2.2.2, hz.1, hz.2⟩]
              simp [Eff2.at, nil_at, Sv2.at, V2.at, A2.at]
            · cases e
          · cases e
      · cases e
  case fieldAddr s x f =>
    split at e
    · rename_i fs ts htd
      simp only [htd]
      simp only [Option.bind_eq_some_iff] at e
      obtain ⟨p, h1, e⟩ := e
      rw [h1, Option.bind_some]
      split at e
      · cases e
      · rename_i h0
        rw [if_neg h0]
        simp only [Option.bind_eq_some_iff] at e
        obtain ⟨a, h2, e⟩ := e
        rw [hF.evA h2, Option.bind_some]
        split at e
        · exact ⟨_, e, by simp [A2.at, val, Eff2.at, nil_at, Sv2.at, V2.at]⟩
        · exact ⟨_, e, by simp [A2.at, val, Eff2.at, nil_at, Sv2.at, V2.at]⟩
        · cases e
    · cases e
  case field s x f =>
    split at e
    · rename_i fs ts htd
      simp only [htd]
      simp only [Option.bind_eq_some_iff] at e
      obtain ⟨p, h1, ft, h2, v, h3, e⟩ := e
      rw [h1, Option.bind_some, h2, Option.bind_some, hF.evV h3, Option.bind_some]
      split at e
      · simp only [Option.bind_eq_some_iff] at e
        obtain ⟨ti, h4, v', h5, e⟩ := e
        refine ⟨_, e, ?_⟩
        simp [V2.at, h4, part_at h5, val, Eff2.at, nil_at, Sv2.at]
      · cases e
    · cases e
  case indexAddr t x i =>
    split at e
    · rename_i el htd
      simp only [Option.bind_eq_some_iff] at e
      obtain ⟨te, h1, i, h2, a, h3, e⟩ := e
      simp only [htd]
      rw [h1, Option.bind_some, hF.evI h2, Option.bind_some, hF.evA h3, Option.bind_some]
      split at e
      · rename_i d els
        split at e
        · rename_i hz
          split at e
          · rename_i h0
            simp only [Option.bind_eq_some_iff] at e
            obtain ⟨y, h4, e⟩ := e
            refine ⟨_, e, ?_⟩
            have hlt : i.toNat < els.length := (List.getElem?_eq_some_iff.1 h4).1
            simp only [A2.at]
            rw [if_pos ⟨h0, by omega, hz⟩]
            simp [h4, val, Eff2.at, nil_at, Sv2.at, V2.at, A2.at]
          · cases e
        · cases e
      · rename_i m b n
        simp only [Option.bind_eq_some_iff] at e
        obtain ⟨B, h4, e⟩ := e
        split at e
        · rename_i hz
          split at e
          · rename_i hb
            refine ⟨_, e, ?_⟩
            simp only [A2.at, mget_at, h4, Option.map_some, Option.bind_some]
            rw [if_pos ⟨hb.1, hb.2, hz⟩]
            simp [Eff2.at, nil_at, Sv2.at, V2.at, A2.at]
          · cases e
        · cases e
      · cases e
    · cases e
  case index t x i =>
    simp only [Option.bind_eq_some_iff] at e
    obtain ⟨td, h1, a, h2, i, h3, e⟩ := e
    rw [h1, Option.bind_some, hF.evA h2, Option.bind_some, hF.evI h3, Option.bind_some]
    split at e
    · rename_i s
      split at e
      · rename_i h0
        simp only [Option.bind_eq_some_iff] at e
        obtain ⟨b, h4, e⟩ := e
        refine ⟨_, e, ?_⟩
        simp only [A2.at]
        rw [if_pos h0, h4]
        simp [val, Eff2.at, nil_at, Sv2.at, V2.at, A2.at]
      · cases e
    · cases e
  case extract x i =>
    simp only [Option.bind_eq_some_iff] at e
    obtain ⟨v, h1, e⟩ := e
    rw [hF.ev h1, Option.bind_some]
    split at e
    · simp only [Option.bind_eq_some_iff] at e
      obtain ⟨y, h2, e⟩ := e
      refine ⟨_, e, ?_⟩
      simp [Sv2.at, h2, val, Eff2.at, nil_at]
    · cases e
  case call k =>
    obtain ⟨callee, args, argTypes⟩ := k
    cases callee with
    | builtin bi =>
      cases bi <;> try simp only [] at e ⊢
      case len =>
        obtain ⟨td, h1, e⟩ := Option.bind_eq_some_iff.1 e
        obtain ⟨a, h2, e⟩ := Option.bind_eq_some_iff.1 e
        obtain ⟨o, h3, h4⟩ := Option.bind_eq_some_iff.1 h2
        try simp only [] at h1 h3
        rw [h1, Option.bind_some, h3, Option.bind_some, hF.evA h4, Option.bind_some]
        split at e
        all_goals first | exact ⟨_, e, by simp [A2.at, val, Eff2.at, nil_at, Sv2.at, V2.at]⟩ | cases e
      case append =>
        obtain ⟨t, h1, e⟩ := Option.bind_eq_some_iff.1 e
        obtain ⟨t', h2, e⟩ := Option.bind_eq_some_iff.1 e
        obtain ⟨s, h3, e⟩ := Option.bind_eq_some_iff.1 e
        obtain ⟨x, h4, e⟩ := Option.bind_eq_some_iff.1 e
        obtain ⟨o3, h3, h3'⟩ := Option.bind_eq_some_iff.1 h3
        obtain ⟨o4, h4, h4'⟩ := Option.bind_eq_some_iff.1 h4
        rw [h1, Option.bind_some, h2, Option.bind_some, h3, Option.bind_some, hF.evA h3', Option.bind_some, h4, Option.bind_some, hF.evA h4', Option.bind_some]
        split at e
        · rename_i ht
          rw [if_pos ht]
          exact appK_at _ _ _ _ _ _ _ e
        · cases e
      all_goals cases e
    | value f =>
      simp only [] at e ⊢
      obtain ⟨a, h1, e⟩ := Option.bind_eq_some_iff.1 e
      rw [hF.evA h1, Option.bind_some]
      split at e
      · rename_i g
        obtain ⟨as, h2, e⟩ := Option.bind_eq_some_iff.1 e
        obtain ⟨z, e, h3⟩ := call_at hC _ _ _ _ _ _ e
        refine ⟨z, e, ?_⟩
        simp only [A2.at]
        have h2' := mapO_at (p := id) (q := V2.at) (f := evV2 fr2) (g := evV fr) (fun x y h => hF.evV h) h2
        rw [List.map_id] at h2'
        rw [h2', Option.bind_some]
        exact h3
      · cases e
    | invoke => cases e
  all_goals cases e
end
end Go.Proofs.Ytghdpmejgonjmaa.Am

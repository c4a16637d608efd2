/- Calls: the operation. -/
import Derived.Test.YtghdpmejgonjmaaAmCall3
set_option linter.unusedVariables false
set_option linter.unusedSimpArgs false
namespace Go.Proofs.Ytghdpmejgonjmaa.Am
open Go

section
variable {P : Program} {n : Nat} {w0 : World} {M0 : Bool → Nat → Prop} {U : Nat → Prop} {ι ι' : Io} {h h1 h2 : Hp} {fr : List (Nat × Sv)} {mem mem1 : Mem} {a : Act} {w w' : World}
  {c : Cfg} {callF : FuncId → List Vl → List Blk → Option (List Vl × List Blk)} {o : Oper} {nx : Nat} {e : Eff}

theorem updM_append (m u v : Mem) : updM m (u ++ v) = updM (updM m u) v := by
  induction u generalizing m with
  | nil => rfl
  | cons p u ih => simp only [List.cons_append, updM, ih]

theorem resV_sound {rs : List Vl} {us : Array Value} (hr : RVs ι h rs us.toList) : RS ι h (resV rs) (packV us) := by
  obtain ⟨h1, h2⟩ := hr
  have hlen : rs.length = us.size := by simpa using h1
  unfold packV resV
  split
  · rename_i x
    have hs : us.size = 1 := by rw [← hlen]; rfl
    rw [dif_pos hs]
    obtain ⟨u, e1, e2⟩ := h2 0 x rfl
    have : us[0]? = some u := by simpa using e1
    rw [Array.getElem?_eq_getElem (by omega)] at this
    cases this
    exact e2
  · rename_i hne
    have hs : us.size ≠ 1 := by
      intro hs
      rw [← hlen] at hs
      match rs, hs with
      | [x], _ => exact hne x rfl
    rw [dif_neg hs]
    exact ⟨us, rfl, by simpa using h1, h2⟩
theorem resV_nms {rs : List Vl} : ∀ m, m ∈ (resV rs).nms ↔ m ∈ namesV rs := by
  intro m
  unfold resV
  split
  · rfl
  · rfl

theorem RA.noSl {x : At} {v : Value} (hn : x.noSl = true) (hm : x.nm = []) (hr : RA ι h x v) : RA ι' h2 x v := by
  cases x <;> simp [At.noSl] at hn
  case ptr => simp [At.nm] at hm
  case sm => simp [At.nm] at hm
  all_goals (have hr : RP h _ _ := hr; cases hr; first | exact .int _ _ | exact .bool _ | exact .str _ | exact .snil _ _ | exact .nilp)
theorem RV.noSl {x : Vl} {v : Value} (hn : x.cells.all At.noSl = true) (hm : namesV [x] = []) (hr : RV ι h x v) : RV ι' h2 x v := by
  cases x with
  | a x => exact RA.noSl (by simpa [Vl.cells] using hn) (by simpa [namesV, Vl.cells] using hm) hr
  | g cs =>
    obtain ⟨A, hA, hl⟩ := hr
    refine ⟨A, hA, hl.1, fun j y hy => ?_⟩
    obtain ⟨u, q1, q2⟩ := hl.2 j y hy
    have hy' := List.mem_of_getElem? hy
    refine ⟨u, q1, RA.noSl (List.all_eq_true.1 hn y hy') ?_ q2⟩
    have : ∀ m, m ∉ y.nm := by
      intro m hm'
      have : m ∈ namesV [Vl.g cs] := by simp only [namesV, Vl.cells, List.flatMap_cons, List.flatMap_nil, List.append_nil, List.mem_flatMap]; exact ⟨y, hy', hm'⟩
      rw [hm] at this
      cases this
    exact List.eq_nil_iff_forall_not_mem.2 this

theorem wp_enter {f : FuncId} {args : Array Value} {next : Act → World → Prop} {Q : Exit → Act → World → Prop} {R : Ending → World → Prop} (hr : (execOp a.eval o).run P w = .ok (.enter f args) w) (hc : Calls P f args w R)
    (hn : ∀ e w', R e w' → ∃ v, e = .returned v ∧ next (a.put o.dst v) w') : o.wp P a w next Q := by
  unfold Oper.wp
  rw [hr]
  refine hc.mono fun e w' he => ?_
  obtain ⟨v, rfl, h2⟩ := hn e w' he
  exact h2

theorem args_sound (hs : Sim n w0 M0 U ι h fr mem a w) : ∀ {os : List Operand} {vs : List Vl}, mapO (Am.evV fr) os = some vs → RVs ι h vs (os.map a.eval) ∧ ∀ m ∈ namesV vs, U m := by
  intro os vs e
  obtain ⟨e1, _⟩ := mapO_some e
  refine ⟨⟨by simp [e1], fun j x hx => ?_⟩, fun m hm => ?_⟩
  · obtain ⟨o', ho, hv⟩ := mapO_some_inv e j x hx
    exact ⟨a.eval o', by simp [ho], (hs.evV hv).1⟩
  · obtain ⟨x, hx, hm⟩ := namesV_mem.1 hm
    obtain ⟨j, hj⟩ := List.getElem?_of_mem hx
    obtain ⟨o', ho, hv⟩ := mapO_some_inv e j x hj
    exact (hs.evV hv).2 m hm

theorem wp_call (hC : CallOk P callF) (hs : Sim n w0 M0 U ι h fr mem a w) (hf : ∀ m, nx ≤ m → m < e.nn → ¬ U m) {fo : Operand} {args : Array Operand} {ats : Array TypeId} (hop : o.op = .call { callee := .value fo, args := args, argTypes := ats })
    (he : stp c callF o fr mem nx = some e) {next : Act → World → Prop} {Q : Exit → Act → World → Prop} (hk : ∀ u w', Nxt n w0 M0 U ι h fr mem nx e a u w' → next (a.put o.dst u) w') : o.wp P a w next Q := by
  simp only [stp, hop, Option.bind_eq_some_iff] at he
  obtain ⟨fa, e1, he⟩ := he
  obtain ⟨hrf, -⟩ := hs.evA e1
  split at he
  · rename_i g
    simp only [Option.bind_eq_some_iff] at he
    obtain ⟨as, e2, he⟩ := he
    obtain ⟨hargs, hargn⟩ := args_sound hs e2
    unfold stpCall at he
    simp only [Option.bind_eq_some_iff] at he
    obtain ⟨vals, e3, blks, e4, vals', e5, ⟨rs0, bs⟩, e6, rs, e7, bsR, e8, he⟩ := he
    generalize hN : clo (fun m => if c.mutA g = true then namesM mem m else ptrsM mem m) 64 (namesV vals) [] = N at *
    generalize hF : (if c.mutA g = true then [] else smnV as ++ N.flatMap (smnM mem)) = F at *
    have hNd : N.Nodup := by rw [← hN]; exact clo_nodup _ _ _ _ List.nodup_nil
    obtain ⟨h1, s1, s2, s3, s4, s5⟩ := Sim.freezeL F hs (Fzn.refl mem)
    have hvF : c.mutA g = false → Vw ι mem w h1 (smnV as) ∧ Vw ι mem w h1 (N.flatMap (smnM mem)) := by
      intro hq
      rw [← hF] at s2
      simp only [hq] at s2
      exact ⟨fun m hm => s2 m (List.mem_append_left _ hm), fun m hm => s2 m (List.mem_append_right _ hm)⟩
    -- the arguments
    have hvals : RVs ι h1 vals (args.toList.map a.eval) := by
      split at e3
      · cases e3; exact hargs.mono s1 fun _ _ => rfl
      · rename_i hq
        exact (frzVs_sound hs s1 (hvF (by simpa using hq)).1 hargs e3).1
    obtain ⟨hmm, hbl, hbf⟩ := pack_sound hs s4 s5 s1 hNd (cv := c.mutA g) (fun hq => (hvF hq).2) e4
    have hvals' := hvals.ren (ι' := fun j => (N[j]?).bind ι) e5 (fun m m' hq => by simp [idx_spec hq])
    have hvn : ∀ m ∈ namesV vals', m < blks.length := by
      intro m hm
      obtain ⟨m', _, hq⟩ := mapO_renV_nm e5 m hm
      have := idx_spec hq
      rw [hbl]
      rcases Nat.lt_or_ge m N.length with h' | h'
      · exact h'
      · rw [List.getElem?_eq_none (by omega)] at this; cases this
    obtain ⟨⟨fn, hfn, hnm, hbd⟩, hcall⟩ := hC g vals' blks rs0 bs e6
    have hrun : (execOp a.eval o).run P w = .ok (.enter g (args.map a.eval)) w := by
      have hfv : a.eval fo = .func (.func g) #[] #[] := by
        have hrf : RP h _ _ := hrf
        generalize a.eval fo = q at hrf
        cases hrf
        rfl
      have h1 : ¬ fn.name = "runtime.NumGoroutine" := by simpa using hnm
      have h2 : ¬ fn.body = none := by cases hx : fn.body <;> simp_all
      simp [execOp, hop, resolve, hfv, Deferred.ofValue, invoke, callFunc, hfn, h1, h2]
    refine wp_enter hrun (hcall w _ h1 (args.map a.eval) (by simpa using hvals') hvn hmm) ?_
    rintro en w' ⟨us, ι', h2, rfl, hp⟩
    refine ⟨_, rfl, hk _ w' ?_⟩
    split at he
    · -- nothing that only reads is handed back
      rename_i hq
      rw [Bool.and_eq_true] at hq
      obtain ⟨q1, q2⟩ := hq
      have hbs : bs = [] := by simpa using q1
      subst hbs
      have hbl0 : blks = [] := by have := hp.len; exact List.eq_nil_of_length_eq_zero (by simpa using this)
      have hN0 : N = [] := List.eq_nil_of_length_eq_zero (by rw [← hbl, hbl0]; rfl)
      subst hN0
      subst hbl0
      cases he
      have hno : namesV rs0 = [] := List.eq_nil_iff_forall_not_mem.2 fun m hm => by have := hp.rn m hm; simp at this
      have hrn : namesV rs = [] := List.eq_nil_iff_forall_not_mem.2 fun m hm => by
        obtain ⟨m', hm', _⟩ := mapO_renV_nm e7 m hm
        rw [hno] at hm'
        cases hm'
      have hRs : RVs ι h rs0 us.toList := by
        refine ⟨hp.rv.1, fun j x hx => ?_⟩
        obtain ⟨u, g1, g2⟩ := hp.rv.2 j x hx
        have hx' := List.mem_of_getElem? hx
        refine ⟨u, g1, RV.noSl (List.all_eq_true.1 q2 x hx') (List.eq_nil_iff_forall_not_mem.2 fun m hm => ?_) g2⟩
        have := hp.rn m (namesV_mem.2 ⟨x, hx', hm⟩)
        simp at this
      have hRs' : RVs ι h rs us.toList := hRs.ren e7 (fun m m' hq => by simp [cnt] at hq)
      have hlent : ∀ b, ¬ Lent (fun j => (([] : List Nat)[j]?).bind ι) [] b := by
        rintro b ⟨i, B, L, g1, _⟩
        simp at g1
      have hg : w.grownBy w' none := ⟨hp.os, hp.tape, hp.output, hp.grow, fun b hb _ => hp.frame b hb (hlent b)⟩
      have hbR : bsR = [] := by simp [mapO] at e8; exact e8
      subst hbR
      refine ⟨ι, h, Sub.refl h, fun _ _ => rfl, ?_, resV_sound hRs', ?_, by simp, fun _ _ _ => rfl⟩
      · simp [zipU, cnt, updM]
        exact (hs.grown hg fun g hg => by cases hg).weak fun m hm => .inl hm
      · intro m hm
        rw [resV_nms, hrn] at hm
        cases hm
    · cases he
      obtain ⟨ι2, t1, t2, t3, t4⟩ := s4.after hNd hbl hbf hp hf e8
      refine ⟨ι2, h2, s1.trans hp.sub, t1, ?_, ?_, ?_, by simp, ?_⟩
      · simp only
        rw [updM_append]
        exact t3
      · exact resV_sound (hp.rv.ren e7 fun m m' hq => t2 m m' hq)
      · intro m hm
        rw [resV_nms] at hm
        obtain ⟨m', _, hq⟩ := mapO_renV_nm e7 m hm
        exact t4 m' m hq
      · intro b hb hM
        have hnl : ¬ Lent (fun j => (N[j]?).bind ι) blks b := by
          rintro ⟨i, B, L, g1, g2, g3, rfl⟩
          obtain ⟨m, B1, k1, k2, k3⟩ := hbf i B g1
          simp only [k1, Option.bind_some] at g3
          rcases s4.hown m B1 L k2 (by rw [← k3]; exact g2) g3 with h' | h'
          · omega
          · exact hM h'
        rw [hp.view b (Nat.lt_of_lt_of_le hb hs.hgrow) hnl]
        by_cases hx : ∃ m ∈ F, ∃ B L, mget mem m = some B ∧ ι m = some L ∧ L.b = b
        · obtain ⟨m, hm, B, L, k1, k2, rfl⟩ := hx
          rw [s2 m hm B L k1 k2]
          cases hz : B.fz with
          | false =>
            rcases hs.hown m B L k1 hz k2 with h' | h'
            · omega
            · exact absurd h' hM
          | true => exact (hs.hfrz m B L k1 hz k2).symm
        · exact s3 b fun m hm B L k1 k2 hq => hx ⟨m, hm, B, L, k1, k2, hq⟩
  · cases he

end
end Go.Proofs.Ytghdpmejgonjmaa.Am

/- What an operation looks at: nothing but its operands and the blocks that it names. -/
import Derived.Test.YtghdpmejgonjmaaAmRun
set_option linter.unusedVariables false
set_option linter.unusedSimpArgs false
namespace Go.Proofs.Ytghdpmejgonjmaa.Am
open Go

theorem clo_congr {ns ns' : Nat → List Nat} : ∀ (k : Nat) (ms acc : List Nat), (∀ m ∈ clo ns k ms acc, ns' m = ns m) → clo ns' k ms acc = clo ns k ms acc := by
  have pre : ∀ (k : Nat) (ms acc : List Nat) (m : Nat), m ∈ acc → m ∈ clo ns k ms acc := by
    intro k
    induction k with
    | zero => intro ms acc m hm; exact hm
    | succ k ih =>
      intro ms acc m hm
      cases ms with
      | nil => exact hm
      | cons x ms =>
        simp only [clo]
        split
        · exact ih _ _ m hm
        · exact ih _ _ m (List.mem_append_left _ hm)
  intro k
  induction k with
  | zero => intro ms acc _; rfl
  | succ k ih =>
    intro ms acc h
    cases ms with
    | nil => rfl
    | cons x ms =>
      simp only [clo] at h ⊢
      split
      · rename_i hc
        rw [if_pos hc] at h
        exact ih _ _ h
      · rename_i hc
        rw [if_neg hc] at h
        have hx : ns' x = ns x := h x (pre _ _ _ _ (by simp))
        rw [hx]
        exact ih _ _ h

theorem mapO_congr {α β : Type} {f g : α → Option β} {l : List α} (h : ∀ x ∈ l, f x = g x) : mapO f l = mapO g l := by
  induction l with
  | nil => rfl
  | cons x l ih =>
    simp only [mapO]
    rw [h x (List.mem_cons_self ..), ih fun y hy => h y (List.mem_cons_of_mem _ hy)]

section
variable {mem mem' : Mem} {fr fr' : List (Nat × Sv)}

def Eqm (mem mem' : Mem) (F : List Nat) : Prop := ∀ m ∈ F, mget mem' m = mget mem m

theorem frzA_congr {x : At} (h : Eqm mem mem' x.smn) : frzA mem' x = frzA mem x := by
  cases x <;> first | rfl | skip
  simp only [frzA]
  rw [h _ (by simp [At.smn])]
theorem frzV_congr {x : Vl} (h : Eqm mem mem' (x.cells.flatMap At.smn)) : frzV mem' x = frzV mem x := by
  cases x with
  | a x => simp only [frzV]; rw [frzA_congr (by simpa [Vl.cells] using h)]
  | g cs =>
    simp only [frzV]
    rw [mapO_congr (l := cs) fun x hx => frzA_congr fun m hm => h m (List.mem_flatMap.2 ⟨x, hx, hm⟩)]
theorem frzVs_congr {xs : List Vl} (h : Eqm mem mem' (smnV xs)) : mapO (frzV mem') xs = mapO (frzV mem) xs :=
  mapO_congr fun x hx => frzV_congr fun m hm => h m (List.mem_flatMap.2 ⟨x, hx, hm⟩)
theorem frzB_congr {b : Blk} (h : b.pr = false → Eqm mem mem' (b.els.flatMap fun e => e.flatMap At.smn)) : frzB mem' b = frzB mem b := by
  unfold frzB
  split
  · rfl
  · rename_i hp
    rw [mapO_congr fun e he => mapO_congr fun x hx => frzA_congr fun m hm => h (by simpa using hp) m (List.mem_flatMap.2 ⟨e, he, List.mem_flatMap.2 ⟨x, hx, hm⟩⟩)]
theorem fzUpd_congr {F : List Nat} (h : Eqm mem mem' F) : fzUpd mem' F = fzUpd mem F := by
  induction F with
  | nil => rfl
  | cons m F ih =>
    simp only [fzUpd]
    rw [h m (List.mem_cons_self ..), ih fun x hx => h x (List.mem_cons_of_mem _ hx)]
theorem elsOf_congr {es : Nat} {x : At} {r : Nat × List (List At) × Bool × List Nat} (e : elsOf mem es x = some r) (h : Eqm mem mem' r.2.2.2) : elsOf mem' es x = some r := by
  cases x <;> first | exact e | skip
  rename_i m lo k
  simp only [elsOf, Option.bind_eq_some_iff] at e ⊢
  obtain ⟨B, e1, e2⟩ := e
  split at e2
  · rename_i hc
    cases e2
    exact ⟨B, by rw [h m (by simp), e1], by rw [if_pos hc]⟩
  · cases e2
theorem mget_updM_congr {F : List Nat} {m : Nat} (u : Mem) (hm : mget mem' m = mget mem m) : mget (updM mem' u) m = mget (updM mem u) m := by
  induction u generalizing mem mem' with
  | nil => exact hm
  | cons p u ih =>
    obtain ⟨k, b⟩ := p
    simp only [updM]
    refine ih ?_
    rw [mget_set1, mget_set1, hm]

theorem ev_congr {o : Operand} (h : ∀ t, o = .tmp t → lk fr' t = lk fr t) : ev fr' o = ev fr o := by
  cases o <;> first | rfl | exact h _ rfl
theorem evA_congr {o : Operand} (h : ∀ t, o = .tmp t → lk fr' t = lk fr t) : evA fr' o = evA fr o := by unfold evA; rw [ev_congr h]
theorem evV_congr {o : Operand} (h : ∀ t, o = .tmp t → lk fr' t = lk fr t) : evV fr' o = evV fr o := by unfold evV; rw [ev_congr h]
theorem evB_congr {o : Operand} (h : ∀ t, o = .tmp t → lk fr' t = lk fr t) : evB fr' o = evB fr o := by unfold evB; rw [evA_congr h]
theorem evI_congr {o : Operand} (h : ∀ t, o = .tmp t → lk fr' t = lk fr t) : evI fr' o = evI fr o := by unfold evI; rw [evA_congr h]
theorem boundO_congr {d : Nat} {o : Option Operand} (h : ∀ t, o = some (.tmp t) → lk fr' t = lk fr t) : boundO fr' d o = boundO fr d o := by
  cases o with
  | none => rfl
  | some o => exact evI_congr fun t ht => h t (by rw [ht])
theorem partsV_congr {ps : List (Nat × Operand)} (h : ∀ i t, (i, Operand.tmp t) ∈ ps → lk fr' t = lk fr t) : partsV fr' ps = partsV fr ps :=
  mapO_congr fun p hp => by
    obtain ⟨i, x⟩ := p
    simp only
    rw [evV_congr fun t ht => h i t (by rw [← ht]; exact hp)]

variable {c : Cfg} {callF : FuncId → List Vl → List Blk → Option (List Vl × List Blk)} {o : Oper} {nx : Nat} {e : Eff}

theorem Fzn.upd (F : List Nat) : ∀ {mem1 : Mem}, Fzn mem mem1 → Fzn mem (updM mem1 (fzUpd mem F)) := by
  induction F with
  | nil => intro mem1 h; exact h
  | cons m F ih =>
    intro mem1 h
    cases hB : mget mem m with
    | none => simp only [fzUpd, hB]; exact ih h
    | some B =>
      simp only [fzUpd, hB, updM]
      refine ih fun x => ?_
      rw [mget_set1]
      by_cases hx : m = x
      · rw [if_pos hx]; exact .inr ⟨B, by rw [← hx, hB], rfl⟩
      · rw [if_neg hx]; exact h x

theorem stpCall_congr {g : FuncId} {args : List Vl} (he : stpCall c callF g args mem nx = some e) (hm : Eqm mem mem' e.rd) : stpCall c callF g args mem' nx = some e := by
  unfold stpCall at he ⊢
  simp only [Option.bind_eq_some_iff] at he ⊢
  obtain ⟨vals, e3, blks, e4, vals', e5, ⟨rs0, bs⟩, e6, rs, e7, bsR, e8, he⟩ := he
  generalize hN : clo (fun m => if c.mutA g = true then namesM mem m else ptrsM mem m) 64 (namesV vals) [] = N at *
  generalize hF : (if c.mutA g = true then [] else smnV args ++ N.flatMap (smnM mem)) = F at *
  have hrd : Eqm mem mem' (N ++ F) := by
    cases he
    exact hm
  have hNm : Eqm mem mem' N := fun m h => hrd m (List.mem_append_left _ h)
  have hFm : Eqm mem mem' F := fun m h => hrd m (List.mem_append_right _ h)
  have hN' : clo (fun m => if c.mutA g = true then namesM mem' m else ptrsM mem' m) 64 (namesV vals) [] = N := by
    rw [← hN]
    refine clo_congr _ _ _ fun m h => ?_
    rw [hN] at h
    simp only [namesM, ptrsM, hNm m h]
  have hsm : N.flatMap (smnM mem') = N.flatMap (smnM mem) := by
    have : ∀ (l : List Nat), (∀ m ∈ l, m ∈ N) → l.flatMap (smnM mem') = l.flatMap (smnM mem) := by
      intro l
      induction l with
      | nil => intro _; rfl
      | cons x l ih =>
        intro h
        simp only [List.flatMap_cons]
        rw [ih fun m hm => h m (List.mem_cons_of_mem _ hm)]
        congr 1
        simp only [smnM, hNm x (h x (List.mem_cons_self ..))]
    exact this N fun _ h => h
  have hF' : (if c.mutA g = true then [] else smnV args ++ N.flatMap (smnM mem')) = F := by rw [hsm, hF]
  refine ⟨vals, ?_, blks, ?_, vals', ?_, (rs0, bs), e6, rs, ?_, bsR, ?_, ?_⟩
  · split
    · rename_i hq; rw [if_pos hq] at e3; exact e3
    · rename_i hq
      rw [if_neg hq] at e3
      rw [frzVs_congr]
      · exact e3
      · intro m h
        refine hFm m ?_
        rw [← hF, if_neg hq]
        exact List.mem_append_left _ h
  · rw [hN', hF']
    rw [← e4]
    refine mapO_congr fun m h => ?_
    rw [mget_updM_congr (F := []) _ (hNm m h), fzUpd_congr hFm]
    cases hb : mget (updM mem (fzUpd mem F)) m with
    | none => rfl
    | some b =>
      simp only [Option.bind_some]
      split
      · rfl
      · rename_i hq
        rw [frzB_congr]
        intro hp
        intro m' hm'
        refine hFm m' ?_
        rw [← hF, if_neg hq]
        refine List.mem_append_right _ (List.mem_flatMap.2 ⟨m, h, ?_⟩)
        have hz : Fzn mem (updM mem (fzUpd mem F)) := Fzn.upd F (Fzn.refl mem)
        obtain ⟨B0, f1, f2, _, _, f5, _⟩ := hz.of hb
        unfold smnM
        rw [f1]
        simp only [← f5, hp]
        rw [← f2]
        simpa using hm'
  · rw [hN']; exact e5
  · rw [hN']; exact e7
  · rw [hN']; exact e8
  · rw [hN', hF', fzUpd_congr hFm]; exact he

theorem stpAppend_congr {t : TypeId} {s x : At} (he : stpAppend c t s x mem nx = some e) (hm : Eqm mem mem' e.rd) : stpAppend c t s x mem' nx = some e := by
  unfold stpAppend at he ⊢
  split at he
  · rename_i et ht
    simp only [Option.bind_eq_some_iff] at he ⊢
    obtain ⟨te, e1, src, e2, base, e3, he⟩ := he
    split at he
    · rename_i hc
      cases he
      refine ⟨te, e1, src, elsOf_congr e2 fun m h => hm m (List.mem_append_right _ h), base, ?_, by rw [if_pos hc]⟩
      split at e3
      · exact e3
      · rename_i m lo k
        simp only [Option.bind_eq_some_iff] at e3 ⊢
        obtain ⟨B, e4, e3⟩ := e3
        split at e3
        · rename_i hq
          cases e3
          exact ⟨B, by rw [hm m (List.mem_append_left _ (by simp)), e4], by rw [if_pos hq]⟩
        · cases e3
      · cases e3
    · cases he
  · cases he

theorem stp_congr (he : stp c callF o fr mem nx = some e) (hf : ∀ t, Operand.tmp t ∈ o.op.operands.toList → lk fr' t = lk fr t) (hm : Eqm mem mem' e.rd) : stp c callF o fr' mem' nx = some e := by
  have oE : ∀ x, x ∈ o.op.operands.toList → ev fr' x = ev fr x := fun x hx => ev_congr fun t ht => hf t (ht ▸ hx)
  have oA : ∀ x, x ∈ o.op.operands.toList → evA fr' x = evA fr x := fun x hx => evA_congr fun t ht => hf t (ht ▸ hx)
  have oV : ∀ x, x ∈ o.op.operands.toList → evV fr' x = evV fr x := fun x hx => evV_congr fun t ht => hf t (ht ▸ hx)
  have oB : ∀ x, x ∈ o.op.operands.toList → evB fr' x = evB fr x := fun x hx => evB_congr fun t ht => hf t (ht ▸ hx)
  have oI : ∀ x, x ∈ o.op.operands.toList → evI fr' x = evI fr x := fun x hx => evI_congr fun t ht => hf t (ht ▸ hx)
  cases hop : o.op <;> simp only [hop, Op.operands] at oE oA oV oB oI hf <;> simp only [stp, hop] at he ⊢
  case move x => rw [oE x (by simp)]; exact he
  case assign x => rw [oE x (by simp)]; exact he
  case pick k x y => rw [oB k (by simp), oA x (by simp), oA y (by simp)]; exact he
  case alloc t => exact he
  case box t x => rw [oV x (by simp)]; exact he
  case build t ps =>
    have : mapO (fun p : Nat × Operand => (evV fr' p.2).bind fun v => some (p.1, v)) ps.toList = mapO (fun p : Nat × Operand => (evV fr p.2).bind fun v => some (p.1, v)) ps.toList :=
      partsV_congr fun i t h => hf t (by simp; exact ⟨i, by simpa using h⟩)
    rw [this]
    exact he
  case buildSlice t l ps =>
    have : mapO (fun p : Nat × Operand => (evV fr' p.2).bind fun v => some (p.1, v)) ps.toList = mapO (fun p : Nat × Operand => (evV fr p.2).bind fun v => some (p.1, v)) ps.toList :=
      partsV_congr fun i t h => hf t (by simp; exact ⟨i, by simpa using h⟩)
    rw [this]
    exact he
  case load t x =>
    rw [oA x (by simp)]
    simp only [Option.bind_eq_some_iff] at he ⊢
    obtain ⟨ti, e1, y, e2, he⟩ := he
    refine ⟨ti, e1, y, e2, ?_⟩
    split at he
    · simp only [Option.bind_eq_some_iff] at he ⊢
      obtain ⟨B, e3, el, e4, v, e5, he⟩ := he
      cases he
      exact ⟨B, by rw [hm _ (by simp), e3], el, e4, v, e5, rfl⟩
    · exact he
    · cases he
  case store t x y =>
    rw [oA x (by simp), oV y (by simp)]
    simp only [Option.bind_eq_some_iff] at he ⊢
    obtain ⟨ti, e1, v, e2, z, e3, he⟩ := he
    refine ⟨ti, e1, v, e2, z, e3, ?_⟩
    split at he
    · simp only [Option.bind_eq_some_iff] at he ⊢
      obtain ⟨B, e4, el, e5, he⟩ := he
      split at he
      · rename_i hc
        cases he
        exact ⟨B, by rw [hm _ (by simp), e4], el, e5, by rw [if_pos hc]⟩
      · cases he
    · cases he
  case nilCheck x => rw [oA x (by simp)]; exact he
  case binOp op t x y t2 => rw [oA x (by simp), oA y (by simp)]; exact he
  case unOp op t x => rw [oA x (by simp)]; exact he
  case convert s d x =>
    rw [oA x (by simp)]
    simp only [Option.bind_eq_some_iff] at he ⊢
    obtain ⟨y, e1, he⟩ := he
    refine ⟨y, e1, ?_⟩
    split at he
    · split at he
      · simp only [Option.bind_eq_some_iff] at he ⊢
        obtain ⟨q, e2, bs, e3, he⟩ := he
        cases he
        exact ⟨q, elsOf_congr e2 hm, bs, e3, rfl⟩
      · cases he
    · exact he
  case makeSlice t l k => rw [oI l (by simp), oI k (by simp)]; exact he
  case slice t x lo hi mx =>
    rw [oA x (by simp)]
    have hb1 : ∀ d, boundO fr' d lo = boundO fr d lo := fun d => boundO_congr fun t ht => hf t (by simp [ht])
    have hb2 : ∀ d, boundO fr' d hi = boundO fr d hi := fun d => boundO_congr fun t ht => hf t (by simp [ht])
    simp only [hb1, hb2]
    split at he
    · cases he
    · rename_i hmx
      rw [if_neg hmx]
      simp only [Option.bind_eq_some_iff] at he ⊢
      obtain ⟨td, e1, y, e2, he⟩ := he
      refine ⟨td, e1, y, e2, ?_⟩
      split at he
      · exact he
      · exact he
      · simp only [Option.bind_eq_some_iff] at he ⊢
        obtain ⟨te, e3, B, e4, l, b1, r, b2, he⟩ := he
        split at he
        · rename_i hc
          cases he
          exact ⟨te, e3, B, by rw [hm _ (by simp), e4], l, b1, r, b2, by rw [if_pos hc]⟩
        · cases he
      · cases he
  case fieldAddr s x f => rw [oA x (by simp)]; exact he
  case field s x f => rw [oV x (by simp)]; exact he
  case indexAddr t x i =>
    rw [oA x (by simp), oI i (by simp)]
    split at he
    · simp only [Option.bind_eq_some_iff] at he ⊢
      obtain ⟨te, e1, iv, e2, y, e3, he⟩ := he
      refine ⟨te, e1, iv, e2, y, e3, ?_⟩
      split at he
      · exact he
      · simp only [Option.bind_eq_some_iff] at he ⊢
        obtain ⟨B, e4, he⟩ := he
        split at he
        · rename_i hc
          cases he
          exact ⟨B, by rw [hm _ (by simp), e4], by rw [if_pos hc]⟩
        · cases he
      · cases he
    · cases he
  case index t x i => rw [oA x (by simp), oI i (by simp)]; exact he
  case extract x i => rw [oE x (by simp)]; exact he
  case call k =>
    obtain ⟨callee, args, ats⟩ := k
    have hargs : ∀ x, x ∈ args.toList → x ∈ (Call.operands ⟨callee, args, ats⟩).toList := by
      intro x hx
      simp only [Call.operands, Array.toList_append, List.mem_append]
      exact .inr hx
    have harg : ∀ (i : Nat) (x : Operand), args[i]? = some x → x ∈ args.toList := by
      intro i x hx
      exact List.mem_of_getElem? (i := i) (by simpa using hx)
    have hb : ∀ i : Nat, ((args[i]?).bind fun o => evA fr' o) = (args[i]?).bind fun o => evA fr o := by
      intro i
      cases hx : args[i]? with
      | none => rfl
      | some x => exact oA x (hargs x (harg i x hx))
    cases callee with
    | value f =>
      simp only at he ⊢
      have hfm : f ∈ (Call.operands ⟨.value f, args, ats⟩).toList := by simp [Call.operands]
      rw [oA f hfm]
      simp only [Option.bind_eq_some_iff] at he ⊢
      obtain ⟨fa, e1, he⟩ := he
      refine ⟨fa, e1, ?_⟩
      split at he
      · simp only [Option.bind_eq_some_iff] at he ⊢
        obtain ⟨as, e2, he⟩ := he
        refine ⟨as, ?_, stpCall_congr he hm⟩
        rw [← e2]
        exact mapO_congr fun x hx => oV x (hargs x hx)
      · cases he
    | invoke r m => cases he
    | builtin b =>
      cases b <;> simp only at he ⊢ <;> first | (cases he; done) | skip
      case len => rw [hb 0]; exact he
      case append =>
        rw [hb 0, hb 1]
        simp only [Option.bind_eq_some_iff] at he ⊢
        obtain ⟨t, e1, t', e2, s, e3, x, e4, he⟩ := he
        refine ⟨t, e1, t', e2, s, e3, x, e4, ?_⟩
        split at he
        · rename_i hq
          rw [if_pos hq]
          exact stpAppend_congr he hm
        · cases he
  all_goals cases he

end
end Go.Proofs.Ytghdpmejgonjmaa.Am

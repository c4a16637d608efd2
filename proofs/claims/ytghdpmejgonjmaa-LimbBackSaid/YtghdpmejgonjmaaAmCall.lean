/- Calls: names anew, blocks handed over, blocks that only read. -/
import Derived.Test.YtghdpmejgonjmaaAmOps7
set_option linter.unusedVariables false
set_option linter.unusedSimpArgs false
namespace Go.Proofs.Ytghdpmejgonjmaa.Am
open Go

theorem idx_spec : ∀ {N : List Nat} {m j : Nat}, idx N m = some j → N[j]? = some m := by
  intro N
  induction N with
  | nil => intro m j e; cases e
  | cons k N ih =>
    intro m j e
    simp only [idx] at e
    split at e
    · rename_i hk; cases e; subst hk; rfl
    · simp only [Option.bind_eq_some_iff] at e
      obtain ⟨i, e1, e2⟩ := e
      cases e2
      simpa using ih e1

theorem clo_nodup (ns : Nat → List Nat) : ∀ (k : Nat) (ms acc : List Nat), acc.Nodup → (clo ns k ms acc).Nodup := by
  intro k
  induction k with
  | zero => intro ms acc h; exact h
  | succ k ih =>
    intro ms acc h
    cases ms with
    | nil => exact h
    | cons m ms =>
      simp only [clo]
      split
      · exact ih _ _ h
      · rename_i hc
        refine ih _ _ ?_
        rw [List.nodup_append]
        refine ⟨h, by simp, ?_⟩
        intro x hx y hy hxy
        simp at hy
        subst hy
        subst hxy
        exact hc (by simpa using hx)

section
variable {ι ι' : Io} {h : Hp} {ρ : Nat → Option Nat}

theorem RA.ren {x y : At} {v : Value} (hr : RA ι h x v) (e : renA ρ x = some y) (hρ : ∀ m m', ρ m = some m' → ι' m' = ι m) : RA ι' h y v := by
  cases x with
  | ptr m i o =>
    simp only [renA, Option.bind_eq_some_iff] at e
    obtain ⟨m', e1, e2⟩ := e
    cases e2
    obtain ⟨L, hL, hv⟩ := hr
    exact ⟨L, by rw [hρ m m' e1]; exact hL, hv⟩
  | sm m lo n =>
    simp only [renA, Option.bind_eq_some_iff] at e
    obtain ⟨m', e1, e2⟩ := e
    cases e2
    rcases hr with ⟨L, c, hL, r⟩ | ⟨hL, r⟩
    · exact .inl ⟨L, c, by rw [hρ m m' e1]; exact hL, r⟩
    · exact .inr ⟨by rw [hρ m m' e1]; exact hL, r⟩
  | _ => cases e; exact hr
theorem renA_nm {x y : At} (e : renA ρ x = some y) : ∀ m' ∈ y.nm, ∃ m ∈ x.nm, ρ m = some m' := by
  cases x with
  | ptr m i o =>
    simp only [renA, Option.bind_eq_some_iff] at e
    obtain ⟨m', e1, e2⟩ := e
    cases e2
    intro q hq
    simp [At.nm] at hq
    subst hq
    exact ⟨m, by simp [At.nm], e1⟩
  | sm m lo n =>
    simp only [renA, Option.bind_eq_some_iff] at e
    obtain ⟨m', e1, e2⟩ := e
    cases e2
    intro q hq
    simp [At.nm] at hq
    subst hq
    exact ⟨m, by simp [At.nm], e1⟩
  | _ => cases e; intro q hq; simp [At.nm] at hq
theorem renA_pr {x y : At} (e : renA ρ x = some y) : y.pr = x.pr := by
  cases x with
  | ptr m i o =>
    simp only [renA, Option.bind_eq_some_iff] at e
    obtain ⟨m', e1, e2⟩ := e
    cases e2
    rfl
  | sm m lo n =>
    simp only [renA, Option.bind_eq_some_iff] at e
    obtain ⟨m', e1, e2⟩ := e
    cases e2
    rfl
  | _ => cases e; rfl
theorem RL.ren {cs ds : List At} {us : List Value} (hr : RL ι h cs us) (e : mapO (renA ρ) cs = some ds) (hρ : ∀ m m', ρ m = some m' → ι' m' = ι m) : RL ι' h ds us := by
  obtain ⟨e1, _⟩ := mapO_some e
  refine ⟨by rw [e1]; exact hr.1, fun j y hy => ?_⟩
  obtain ⟨x, hx, hxy⟩ := mapO_some_inv e j y hy
  obtain ⟨u, hu, hr'⟩ := hr.2 j x hx
  exact ⟨u, hu, hr'.ren hxy hρ⟩
theorem RV.ren {x y : Vl} {v : Value} (hr : RV ι h x v) (e : renV ρ x = some y) (hρ : ∀ m m', ρ m = some m' → ι' m' = ι m) : RV ι' h y v := by
  cases x with
  | a x =>
    simp only [renV, Option.bind_eq_some_iff] at e
    obtain ⟨y', e1, e2⟩ := e
    cases e2
    exact RA.ren hr e1 hρ
  | g cs =>
    simp only [renV, Option.bind_eq_some_iff] at e
    obtain ⟨ds, e1, e2⟩ := e
    cases e2
    obtain ⟨A, hv, hl⟩ := hr
    exact ⟨A, hv, hl.ren e1 hρ⟩
theorem renV_nm {x y : Vl} (e : renV ρ x = some y) : ∀ m' ∈ namesV [y], ∃ m ∈ namesV [x], ρ m = some m' := by
  cases x with
  | a x =>
    simp only [renV, Option.bind_eq_some_iff] at e
    obtain ⟨y', e1, e2⟩ := e
    cases e2
    intro q hq
    simpa [namesV, Vl.cells] using renA_nm e1 q (by simpa [namesV, Vl.cells] using hq)
  | g cs =>
    simp only [renV, Option.bind_eq_some_iff] at e
    obtain ⟨ds, e1, e2⟩ := e
    cases e2
    intro q hq
    simp only [namesV, Vl.cells, List.flatMap_cons, List.flatMap_nil, List.append_nil, List.mem_flatMap] at hq ⊢
    obtain ⟨y, hy, hq⟩ := hq
    obtain ⟨j, hj⟩ := List.getElem?_of_mem hy
    obtain ⟨x, hx, hxy⟩ := mapO_some_inv e1 j y hj
    obtain ⟨m, hm, hρ⟩ := renA_nm hxy q hq
    exact ⟨m, ⟨x, List.mem_of_getElem? hx, hm⟩, hρ⟩
theorem RVs.ren {xs ys : List Vl} {vs : List Value} (hr : RVs ι h xs vs) (e : mapO (renV ρ) xs = some ys) (hρ : ∀ m m', ρ m = some m' → ι' m' = ι m) : RVs ι' h ys vs := by
  obtain ⟨e1, _⟩ := mapO_some e
  refine ⟨by rw [e1]; exact hr.1, fun j y hy => ?_⟩
  obtain ⟨x, hx, hxy⟩ := mapO_some_inv e j y hy
  obtain ⟨u, hu, hr'⟩ := hr.2 j x hx
  exact ⟨u, hu, hr'.ren hxy hρ⟩
theorem namesV_mem {xs : List Vl} {m : Nat} : m ∈ namesV xs ↔ ∃ x ∈ xs, m ∈ namesV [x] := by
  simp [namesV]
theorem mapO_renV_nm {xs ys : List Vl} (e : mapO (renV ρ) xs = some ys) : ∀ m' ∈ namesV ys, ∃ m ∈ namesV xs, ρ m = some m' := by
  intro q hq
  rw [namesV_mem] at hq
  obtain ⟨y, hy, hq⟩ := hq
  obtain ⟨j, hj⟩ := List.getElem?_of_mem hy
  obtain ⟨x, hx, hxy⟩ := mapO_some_inv e j y hj
  obtain ⟨m, hm, hρ⟩ := renV_nm hxy q hq
  exact ⟨m, namesV_mem.2 ⟨x, List.mem_of_getElem? hx, hm⟩, hρ⟩
theorem RBs.ren {C : Array Value} {es : Nat} {els fls : List (List At)} (hr : RBs ι h C es els) (e : mapO (mapO (renA ρ)) els = some fls) (hρ : ∀ m m', ρ m = some m' → ι' m' = ι m) : RBs ι' h C es fls := by
  intro i el hi
  obtain ⟨el', hi', he'⟩ := mapO_some_inv e i el hi
  obtain ⟨q1, q2⟩ := hr i el' hi'
  refine ⟨by rw [(mapO_some he').1]; exact q1, fun j y hy => ?_⟩
  obtain ⟨x, hx, hxy⟩ := mapO_some_inv he' j y hy
  obtain ⟨u, hu, hr'⟩ := q2 j x hx
  exact ⟨u, hu, hr'.ren hxy hρ⟩
/-- What is the same in a block whose names are new ones. -/
theorem renB_spec {b b' : Blk} (e : renB ρ b = some b') (hp : b.pr = true → ∀ e ∈ b.els, ∀ x ∈ e, x.pr = true) :
    b'.es = b.es ∧ b'.ty = b.ty ∧ b'.pr = b.pr ∧ b'.fz = b.fz ∧ (b'.els = [] ↔ b.els = []) ∧ (∀ m' ∈ b'.nms, ∃ m ∈ b.nms, ρ m = some m') ∧ (b'.pr = true → ∀ e ∈ b'.els, ∀ x ∈ e, x.pr = true) ∧
    (∀ {ι ι' : Io} {h : Hp} {C : Array Value}, RBs ι h C b.es b.els → (∀ m m', ρ m = some m' → ι' m' = ι m) → RBs ι' h C b'.es b'.els) := by
  unfold renB at e
  split at e
  · rename_i hq
    cases e
    refine ⟨rfl, rfl, rfl, rfl, Iff.rfl, ?_, hp, ?_⟩
    · intro m hm
      simp only [Blk.nms, List.mem_flatMap] at hm
      obtain ⟨e, he, x, hx, hm⟩ := hm
      have := hp hq e he x hx
      cases x <;> simp [At.pr, At.nm] at this hm
    · intro ι ι' h C hr hρ i el hi
      obtain ⟨q1, q2⟩ := hr i el hi
      refine ⟨q1, fun j x hx => ?_⟩
      obtain ⟨u, q3, q4⟩ := q2 j x hx
      exact ⟨u, q3, RA.ofRP (RA.toRP (hp hq el (List.mem_of_getElem? hi) x (List.mem_of_getElem? hx)) q4)⟩
  · rename_i hq
    simp only [Option.bind_eq_some_iff] at e
    obtain ⟨els, e1, e2⟩ := e
    cases e2
    refine ⟨rfl, rfl, rfl, rfl, ?_, ?_, ?_, fun hr hρ => hr.ren e1 hρ⟩
    · have := (mapO_some e1).1
      constructor
      · intro h0
        have h0 : els = [] := h0
        rw [h0] at this
        exact List.eq_nil_of_length_eq_zero this.symm
      · intro h0
        rw [h0] at this
        exact List.eq_nil_of_length_eq_zero this
    · intro m' hm'
      simp only [Blk.nms, List.mem_flatMap] at hm'
      obtain ⟨e, he, y, hy, hm'⟩ := hm'
      obtain ⟨i, hi⟩ := List.getElem?_of_mem he
      obtain ⟨e', hi', he'⟩ := mapO_some_inv e1 i e hi
      obtain ⟨j, hj⟩ := List.getElem?_of_mem hy
      obtain ⟨x, hx, hxy⟩ := mapO_some_inv he' j y hj
      obtain ⟨m, hm, hρ⟩ := renA_nm hxy m' hm'
      exact ⟨m, by simp only [Blk.nms, List.mem_flatMap]; exact ⟨e', List.mem_of_getElem? hi', x, List.mem_of_getElem? hx, hm⟩, hρ⟩
    · intro hp'
      exact absurd hp' hq
end

/-- Blocks that a call is handed, or hands back, by their places. -/
structure Mm (ι : Io) (h : Hp) (w : World) (bs : List Blk) : Prop where
  rb : ∀ (i : Nat) (B : Blk), bs[i]? = some B → RB ι h w i B
  nm : ∀ (i : Nat) (B : Blk), bs[i]? = some B → ∀ m ∈ B.nms, m < bs.length
  inj : ∀ (i j : Nat) (B B' : Blk) (L L' : Loc), bs[i]? = some B → bs[j]? = some B' → ι i = some L → ι j = some L' → L.b = L'.b → i = j
  sub : ∀ b o, h b = some o → w.heap[b]? = some o
  mut' : ∀ (i : Nat) (B : Blk) (L : Loc), bs[i]? = some B → B.fz = false → ι i = some L → h L.b = none
  frz : ∀ (i : Nat) (B : Blk) (L : Loc), bs[i]? = some B → B.fz = true → ι i = some L → h L.b = w.heap[L.b]?
  dom : ∀ (i : Nat) (B : Blk) (L : Loc), bs[i]? = some B → ι i = some L → L.b < w.heap.size
  pr : ∀ (i : Nat) (B : Blk), bs[i]? = some B → B.pr = true → ∀ e ∈ B.els, ∀ x ∈ e, x.pr = true

/-- A block that a call may write. -/
def Lent (ι : Io) (bs : List Blk) (b : Nat) : Prop := ∃ (i : Nat) (B : Blk) (L : Loc), bs[i]? = some B ∧ B.fz = false ∧ ι i = some L ∧ L.b = b

/-- What a call leaves. -/
structure Post (ι : Io) (h : Hp) (w : World) (blks : List Blk) (rs : List Vl) (bs : List Blk) (us : List Value) (w' : World) (ι' : Io) (h' : Hp) : Prop where
  rv : RVs ι' h' rs us
  rn : ∀ m ∈ namesV rs, m < bs.length
  sub : Sub h h'
  len : blks.length ≤ bs.length
  same : ∀ i, i < blks.length → ι' i = ι i
  mm : Mm ι' h' w' bs
  own : ∀ (i : Nat) (B : Blk) (L : Loc), bs[i]? = some B → B.fz = false → ι' i = some L → w.heap.size ≤ L.b ∨ Lent ι blks L.b
  own2 : ∀ (i : Nat) (B : Blk) (L : Loc), bs[i]? = some B → ι' i = some L → w.heap.size ≤ L.b ∨ ∃ (j : Nat) (B0 : Blk) (L0 : Loc), blks[j]? = some B0 ∧ ι j = some L0 ∧ L0.b = L.b
  frame : ∀ b, b < w.heap.size → ¬ Lent ι blks b → w'.heap[b]? = w.heap[b]?
  view : ∀ b, b < w.heap.size → ¬ Lent ι blks b → h' b = h b
  grow : w.heap.size ≤ w'.heap.size
  os : w'.os = w.os
  tape : w'.tape = w.tape
  output : w'.output = w.output

def packV (us : Array Value) : Value := if h : us.size = 1 then us[0] else .tuple us

def Enters (P : Program) (f : FuncId) : Prop := ∃ fn, P.funcs[f]? = some fn ∧ (fn.name == "runtime.NumGoroutine") = false ∧ fn.body.isNone = false

def CallOk (P : Program) (callF : FuncId → List Vl → List Blk → Option (List Vl × List Blk)) : Prop :=
  ∀ f args blks rs bs, callF f args blks = some (rs, bs) → Enters P f ∧ ∀ (w : World) (ι : Io) (h : Hp) (vals : Array Value),
    RVs ι h args vals.toList → (∀ m ∈ namesV args, m < blks.length) → Mm ι h w blks →
    Calls P f vals w fun e w' => ∃ (us : Array Value) (ι' : Io) (h' : Hp), e = .returned (packV us) ∧ Post ι h w blks rs bs us.toList w' ι' h'

end Go.Proofs.Ytghdpmejgonjmaa.Am

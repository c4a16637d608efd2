/- Each plain operation of the program does what the abstract machine says: the operations themselves. -/
import Derived.Test.YtghdpmejgonjmaaAmOps
set_option linter.unusedVariables false
set_option linter.unusedSimpArgs false
namespace Go.Proofs.Ytghdpmejgonjmaa.Am
open Go

def Plain (P : Program) (n : Nat) (w0 : World) (M0 : Bool → Nat → Prop) (U : Nat → Prop) (ι : Io) (h : Hp) (fr : List (Nat × Sv)) (mem : Mem) (a : Act) (w : World) (nx : Nat) (o : Oper) (e : Eff) : Prop :=
  (∃ u w', (execOp a.eval o).run P w = .ok (.value u) w' ∧ Nxt n w0 M0 U ι h fr mem nx e a u w') ∨
  (∃ w', (execOp a.eval o).run P w = .ok .skip w' ∧ Nxt n w0 M0 U ι h fr mem nx e a undef w')

section
variable {P : Program} {n : Nat} {w0 : World} {M0 : Bool → Nat → Prop} {U : Nat → Prop} {ι : Io} {h : Hp} {fr : List (Nat × Sv)} {mem : Mem} {a : Act} {w : World}
  {c : Cfg} {callF : FuncId → List Vl → List Blk → Option (List Vl × List Blk)} {o : Oper} {nx : Nat} {e : Eff}

theorem tdOf_ok (hT : TyOk P c.T) {t : TypeId} {d : TD} (e : tdOf c.T t = some d) : ∃ D, P.underlying t = some D ∧ TDOk P d D ∧ ∃ i, c.T t = some i ∧ i.d = d := by
  simp only [tdOf, Option.bind_eq_some_iff] at e
  obtain ⟨i, e1, e2⟩ := e
  cases e2
  obtain ⟨D, h1, h2, _⟩ := (hT t i e1).desc
  exact ⟨D, h1, h2, i, e1, rfl⟩

theorem mv_sound (hs : Sim n w0 M0 U ι h fr mem a w) {x : Operand}
    (he : ((ev fr x).bind fun v =>
      match v with
      | .v (.a (.snil ..)) => match tdOf c.T o.type with
        | some (.sl e) => (c.T e).bind fun te => val (.a (.snil te.size e)) nx
        | _ => none
      | .u => none
      | v => some { v := v, upd := [], nn := nx, rd := [] }) = some e) :
    Nxt n w0 M0 U ι h fr mem nx e a (a.eval x) w := by
  simp only [Option.bind_eq_some_iff] at he
  obtain ⟨v, e1, he⟩ := he
  obtain ⟨hr, hn⟩ := hs.ev e1
  split at he
  · split at he
    · simp only [Option.bind_eq_some_iff] at he
      obtain ⟨te, _, he⟩ := he
      refine Nxt.valP hs he ?_
      have hq : a.eval x = .slice none 0 0 := by
        have hr' : RP h _ _ := hr
        generalize a.eval x = q at hr'
        cases hr'
        rfl
      rw [hq]
      exact .snil _ _
    · cases he
  · cases he
  · cases he
    exact Nxt.val hs hr hn

theorem pl_move (hs : Sim n w0 M0 U ι h fr mem a w) {x : Operand} (hop : o.op = .move x) (he : stp c callF o fr mem nx = some e) : Plain P n w0 M0 U ι h fr mem a w nx o e := by
  simp only [stp, hop] at he
  exact .inl ⟨_, w, by simp [execOp, hop], mv_sound hs he⟩
theorem pl_assign (hs : Sim n w0 M0 U ι h fr mem a w) {x : Operand} (hop : o.op = .assign x) (he : stp c callF o fr mem nx = some e) : Plain P n w0 M0 U ι h fr mem a w nx o e := by
  simp only [stp, hop] at he
  exact .inl ⟨_, w, by simp [execOp, hop], mv_sound hs he⟩

theorem nx_at (hs : Sim n w0 M0 U ι h fr mem a w) {x : At} {u : Value} (hr : RA ι h x u) (hn : ∀ m ∈ x.nm, U m) {e : Eff} (he : val (.a x) nx = some e) : Nxt n w0 M0 U ι h fr mem nx e a u w :=
  Nxt.valV hs he hr (by simpa [namesV, Vl.cells] using hn)

theorem pl_pick (hs : Sim n w0 M0 U ι h fr mem a w) {k x y : Operand} (hop : o.op = .pick k x y) (he : stp c callF o fr mem nx = some e) : Plain P n w0 M0 U ι h fr mem a w nx o e := by
  simp only [stp, hop, Option.bind_eq_some_iff] at he
  obtain ⟨t, e1, he⟩ := he
  have hk := hs.evB e1
  split at he
  · rename_i ht
    simp only [Option.bind_eq_some_iff] at he
    obtain ⟨z, e2, he⟩ := he
    exact .inl ⟨a.eval x, w, by simp [execOp, hop, hk, asBool, ht], nx_at hs (hs.evA e2).1 (hs.evA e2).2 he⟩
  · rename_i ht
    simp only [Option.bind_eq_some_iff] at he
    obtain ⟨z, e2, he⟩ := he
    exact .inl ⟨a.eval y, w, by simp [execOp, hop, hk, asBool, ht], nx_at hs (hs.evA e2).1 (hs.evA e2).2 he⟩

theorem Nxt.made (hs : Sim n w0 M0 U ι h fr mem a w) (hf : ∀ m, nx ≤ m → m < nx + 1 → ¬ U m) {B : Blk} {C : Array Value} (hr : RBs ι h C B.es B.els) (hfz : B.fz = false)
    (hn : ∀ m' ∈ B.nms, U m') (hp : B.pr = true → ∀ e ∈ B.els, ∀ x ∈ e, x.pr = true) {v : Sv} {u : Value} {rd : List Nat}
    (hv : RS (ι.set nx ⟨w.heap.size, C.size, B.es⟩) h v u) (hvn : ∀ m ∈ v.nms, m = nx) :
    Nxt n w0 M0 U ι h fr mem nx { v := v, upd := [(nx, some B)], nn := nx + 1, rd := rd } a u (w.alloc (.cells C B.ty)) :=
  ⟨ι.set nx ⟨w.heap.size, C.size, B.es⟩, h, Sub.refl h, fun m hm => by unfold Io.set; rw [if_neg]; rintro rfl; exact hm ⟨Nat.le_refl _, Nat.lt_succ_self _⟩,
    (hs.alloc nx (hf nx (Nat.le_refl _) (by omega)) B C hr hfz hn hp).weak fun m hm => by
      rcases hm with hm | rfl
      · exact .inl hm
      · exact .inr ⟨Nat.le_refl _, Nat.lt_succ_self _⟩,
    hv, fun m hm => .inr (by rw [hvn m hm]; exact ⟨Nat.le_refl _, Nat.lt_succ_self _⟩), Nat.le_succ _, fun _ _ _ => rfl⟩

theorem RBs.one {cs : List At} {us : List Value} (hr : RL ι h cs us) : RBs ι h us.toArray cs.length [cs] := by
  intro i e' he'
  cases i with
  | zero =>
    simp at he'
    subst he'
    refine ⟨rfl, fun j x hx => ?_⟩
    obtain ⟨u, e1, e2⟩ := hr.2 j x hx
    exact ⟨u, by simpa using e1, e2⟩
  | succ i => simp at he'

theorem pl_alloc (hT : TyOk P c.T) (hs : Sim n w0 M0 U ι h fr mem a w) (hf : ∀ m, nx ≤ m → m < e.nn → ¬ U m) {t : TypeId} (hop : o.op = .alloc t) (he : stp c callF o fr mem nx = some e) :
    Plain P n w0 M0 U ι h fr mem a w nx o e := by
  simp only [stp, hop, Option.bind_eq_some_iff] at he
  obtain ⟨ti, e1, he⟩ := he
  split at he
  · cases he
  · rename_i hz
    have hz : ti.zero.length = ti.size := by simpa using hz
    cases he
    obtain ⟨i, z, hi, hzv, hzs, hzr, hzp⟩ := (hT t ti e1).zero hz
    have hR : RL ι h ti.zero z.cells.toList := ⟨by simp [hzs, hz], fun j x hx => by
      obtain ⟨u, e2, e3⟩ := hzr h j x hx
      exact ⟨u, by simpa using e2, RA.ofRP e3⟩⟩
    have hB := RBs.one hR
    rw [hz] at hB
    refine .inl ⟨.pointer (some ⟨w.heap.size, 0, none⟩), w.alloc (.cells z.cells t), ?_, ?_⟩
    · simp [execOp, hop, Instr.alloc, run_zeroValue' hi hzv, newVar, newRow]
    · refine Nxt.made (B := { els := [ti.zero], es := ti.size, ty := t, pr := true, fz := false }) hs hf (by simpa using hB) rfl ?_ ?_ ?_ ?_
      · intro m hm
        simp only [Blk.nms, List.flatMap_cons, List.flatMap_nil, List.append_nil, List.mem_flatMap] at hm
        obtain ⟨x, hx, hm⟩ := hm
        have := hzp x hx
        cases x <;> simp [At.pr, At.nm] at this hm
      · intro _ e' he' x hx
        simp at he'
        subst he'
        exact hzp x hx
      · exact ⟨_, by simp [Io.set]; rfl, by simp⟩
      · intro m hm; simpa [Sv.nms, namesV, Vl.cells, At.nm] using hm

theorem pl_box (hT : TyOk P c.T) (hs : Sim n w0 M0 U ι h fr mem a w) (hf : ∀ m, nx ≤ m → m < e.nn → ¬ U m) {t : TypeId} {x : Operand} (hop : o.op = .box t x) (he : stp c callF o fr mem nx = some e) :
    Plain P n w0 M0 U ι h fr mem a w nx o e := by
  simp only [stp, hop, Option.bind_eq_some_iff] at he
  obtain ⟨ti, e1, v, e2, he⟩ := he
  split at he
  · rename_i hz
    cases he
    obtain ⟨hr, hn⟩ := hs.evV e2
    have hR := RV.cells hr
    have hB := RBs.one hR
    rw [hz] at hB
    refine .inl ⟨.pointer (some ⟨w.heap.size, 0, none⟩), w.alloc (.cells (a.eval x).cells t), ?_, ?_⟩
    · simp [execOp, hop, Instr.box, newVar, newRow]
    · refine Nxt.made (B := { els := [v.cells], es := ti.size, ty := t, pr := v.cells.all At.pr, fz := false }) hs hf (by simpa using hB) rfl ?_ ?_ ?_ ?_
      · intro m hm
        exact hn m (by simpa [Blk.nms, namesV] using hm)
      · intro hp e' he' y hy
        simp at he'
        subst he'
        have hp : v.cells.all At.pr = true := hp
        exact List.all_eq_true.1 hp y hy
      · exact ⟨_, by simp [Io.set]; rfl, by simp⟩
      · intro m hm; simpa [Sv.nms, namesV, Vl.cells, At.nm] using hm
  · cases he

theorem pl_load (hT : TyOk P c.T) (hs : Sim n w0 M0 U ι h fr mem a w) {t : TypeId} {x : Operand} (hop : o.op = .load t x) (he : stp c callF o fr mem nx = some e) :
    Plain P n w0 M0 U ι h fr mem a w nx o e := by
  simp only [stp, hop, Option.bind_eq_some_iff] at he
  obtain ⟨ti, e1, y, e2, he⟩ := he
  obtain ⟨hr, hn⟩ := hs.evA e2
  split at he
  · rename_i m i o'
    simp only [Option.bind_eq_some_iff] at he
    obtain ⟨B, e3, el, e4, v, e5, he⟩ := he
    cases he
    obtain ⟨L, hL, hx⟩ := hr
    have hb := hs.hmem m B e3
    unfold RB at hb
    rw [hL] at hb
    obtain ⟨C, h1, h2, h3, h4⟩ := hb
    obtain ⟨u, r1, r2, r3⟩ := part_sound (hT t ti e1) e5 (off := i * B.es) h1 (h4 i el e4).2
    refine .inl ⟨u, w, ?_, Nxt.val hs r2 ?_⟩
    · simp [execOp, hop, Instr.loadAt, Instr.sureAddr, hx, h3, r1]
    · intro m' hm'
      obtain ⟨z, hz, hm'⟩ := r3 m' hm'
      refine (hs.hnb m B e3).2 m' ?_
      simp only [Blk.nms, List.mem_flatMap]
      exact ⟨el, List.mem_of_getElem? e4, z, hz, hm'⟩
  · rename_i el o'
    simp only [Option.bind_eq_some_iff] at he
    obtain ⟨v, e5, he⟩ := he
    have hr : RP h _ _ := hr
    generalize hq : a.eval x = q at hr
    cases hr with
    | pp _ _ b off C t' z us hb hu hr =>
      obtain ⟨u, r1, r2, r3⟩ := part_sound (ι := ι) (hT t ti e1) e5 (off := off) (hs.hsub _ _ hb) (fun j y hy => ⟨us j, hu j y hy, RA.ofRP (hr j y hy)⟩)
      refine .inl ⟨u, w, ?_, Nxt.valV hs he r2 ?_⟩
      · simp [execOp, hop, Instr.loadAt, Instr.sureAddr, hq, r1]
      · intro m' hm'
        obtain ⟨y, hy, hm'⟩ := r3 m' hm'
        obtain ⟨j, hj⟩ := List.getElem?_of_mem hy
        rw [RP.nm (hr j y hj)] at hm'
        cases hm'
  · cases he

theorem pl_nilCheck (hs : Sim n w0 M0 U ι h fr mem a w) {x : Operand} (hop : o.op = .nilCheck x) (he : stp c callF o fr mem nx = some e) : Plain P n w0 M0 U ι h fr mem a w nx o e := by
  simp only [stp, hop, Option.bind_eq_some_iff] at he
  obtain ⟨y, e2, he⟩ := he
  obtain ⟨hr, hn⟩ := hs.evA e2
  split at he
  · have hr' := hr
    obtain ⟨L, hL, hx⟩ := hr'
    refine .inl ⟨_, w, ?_, nx_at hs hr hn he⟩
    simp [execOp, hop, hx]
  · have hr' : RP h _ _ := hr
    have hx : ∃ A, a.eval x = .pointer (some A) := by
      generalize a.eval x = q at hr'
      cases hr'
      exact ⟨_, rfl⟩
    obtain ⟨A, hx⟩ := hx
    refine .inl ⟨_, w, ?_, nx_at hs hr hn he⟩
    simp [execOp, hop, hx]
  · cases he

end
end Go.Proofs.Ytghdpmejgonjmaa.Am

/- Each plain operation of the program does what the abstract machine says. -/
import Derived.Test.YtghdpmejgonjmaaAmSim
set_option linter.unusedVariables false
set_option linter.unusedSimpArgs false
namespace Go.Proofs.Ytghdpmejgonjmaa.Am
open Go

def isAggD : TypeDesc → Bool
  | .struct _ => true
  | .array _ _ => true
  | _ => false
def TDOk (P : Program) : TD → TypeDesc → Prop
  | .int k, d => d = .int k
  | .bool, d => d = .bool
  | .str, d => d = .string
  | .ptr, d => ∃ e, d = .pointer e
  | .sl e, d => d = .slice e
  | .st fs ts, d => ∃ F : Array Field, d = .struct F ∧ fs.length = F.size ∧ (∀ (j : Nat) (p : Nat × Nat), fs[j]? = some p → ∃ f, F[j]? = some f ∧ f.offset = p.1 ∧ ∃ ti, P.info? f.type = some ti ∧ ti.size = p.2) ∧ (F.toList.map fun f => f.type) = ts
  | .arr n e, d => d = .array n e
  | .oth, _ => True
structure TOk (P : Program) (t : TypeId) (i : TI) : Prop where
  info : ∃ ti, P.info? t = some ti ∧ ti.size = i.size ∧ ti.bytes = i.bytes
  desc : ∃ d, P.underlying t = some d ∧ TDOk P i.d d ∧ isAggD d = i.agg
  zero : i.zero.length = i.size → ∃ ti z, P.info? t = some ti ∧ ti.zero = some z ∧ z.cells.size = i.size ∧ (∀ (h : Hp) (j : Nat) (x : At), i.zero[j]? = some x → ∃ u, z.cells[j]? = some u ∧ RP h x u) ∧ ∀ x ∈ i.zero, x.pr = true
def TyOk (P : Program) (T : TypeId → Option TI) : Prop := ∀ t i, T t = some i → TOk P t i

section
variable {P : Program} {n : Nat} {w0 : World} {M0 : Bool → Nat → Prop} {U : Nat → Prop} {ι : Io} {h : Hp} {fr : List (Nat × Sv)} {mem : Mem} {a : Act} {w : World} {T : TypeId → Option TI}

theorem run_underlying {t : TypeId} {d : TypeDesc} (hd : P.underlying t = some d) (w : World) : (underlying t).run P w = .ok d w := by simp [underlying, hd]
theorem run_typeInfo {t : TypeId} {i : TypeInfo} (hi : P.info? t = some i) (w : World) : (typeInfo t).run P w = .ok i w := by simp [typeInfo, hi]
theorem run_sizeOf {t : TypeId} {i : TypeInfo} (hi : P.info? t = some i) (w : World) : (sizeOf t).run P w = .ok i.size w := by simp [sizeOf, run_typeInfo hi]
theorem run_isAgg {t : TypeId} {d : TypeDesc} (hd : P.underlying t = some d) (w : World) : (isAgg t).run P w = .ok (isAggD d) w := by
  simp only [isAgg, Sem.run_bind, run_underlying hd, Result.andThen_ok]
  cases d <;> rfl
theorem run_zeroValue' {t : TypeId} {i : TypeInfo} {z : Value} (hi : P.info? t = some i) (hz : i.zero = some z) (w : World) : (zeroValue t).run P w = .ok z w := by simp [zeroValue, run_typeInfo hi, hz]

theorem RP.bool_inv {h : Hp} {b : Bool} {v : Value} (hr : RP h (.bool b) v) : v = .bool b := by cases hr; rfl
theorem RP.int_inv {h : Hp} {k : IntKind} {i : Int} {v : Value} (hr : RP h (.int k i) v) : ∃ k', v = .int k' i := by cases hr; exact ⟨_, rfl⟩
theorem RP.int_inv' {h : Hp} {k : IntKind} {i : Int} {v : Value} (hr : RP h (.int k i) v) : v = .int k i := by cases hr; rfl
theorem RP.str_inv {h : Hp} {s : ByteArray} {v : Value} (hr : RP h (.str s) v) : v = .string s := by cases hr; rfl
theorem RP.nm {h : Hp} {x : At} {v : Value} (hr : RP h x v) : x.nm = [] := by cases hr <;> rfl
theorem const_sound {v : Value} {x : At} (e : constA v = some x) : RP h x v := by
  unfold constA at e
  split at e <;> first | (cases e; constructor) | cases e
theorem Sim.ev (hs : Sim n w0 M0 U ι h fr mem a w) {o : Operand} {v : Sv} (e : Am.ev fr o = some v) : RS ι h v (a.eval o) ∧ ∀ m ∈ v.nms, U m := by
  cases o with
  | tmp t =>
    obtain ⟨u, e1, e2⟩ := hs.hfr t v e
    refine ⟨?_, hs.hnm t v e⟩
    simp only [Act.eval, Array.getD_eq_getD_getElem?, e1, Option.getD_some]
    exact e2
  | const c =>
    simp only [Am.ev, Option.bind_eq_some_iff] at e
    obtain ⟨x, e1, e2⟩ := e
    cases e2
    have hr := const_sound (h := h) e1
    refine ⟨RA.ofRP hr, fun m hm => ?_⟩
    cases hr <;> simp [Sv.nms, namesV, Vl.cells, At.nm] at hm
  | func f =>
    simp only [Am.ev, Option.some.injEq] at e
    subst e
    exact ⟨RP.fn f, by simp [Sv.nms, namesV, Vl.cells, At.nm]⟩
  | global g => cases e
theorem Sim.evV (hs : Sim n w0 M0 U ι h fr mem a w) {o : Operand} {v : Vl} (e : Am.evV fr o = some v) : RV ι h v (a.eval o) ∧ ∀ m ∈ namesV [v], U m := by
  simp only [Am.evV, Option.bind_eq_some_iff] at e
  obtain ⟨s, e1, e2⟩ := e
  cases s <;> simp [svV] at e2
  subst e2
  exact hs.ev e1
theorem Sim.evA (hs : Sim n w0 M0 U ι h fr mem a w) {o : Operand} {x : At} (e : Am.evA fr o = some x) : RA ι h x (a.eval o) ∧ ∀ m ∈ x.nm, U m := by
  simp only [Am.evA, Option.bind_eq_some_iff] at e
  obtain ⟨s, e1, e2⟩ := e
  unfold svA at e2
  split at e2
  · cases e2
    obtain ⟨h1, h2⟩ := hs.ev e1
    exact ⟨h1, fun m hm => h2 m (by simpa [Sv.nms, namesV, Vl.cells] using hm)⟩
  · cases e2
theorem Sim.evB (hs : Sim n w0 M0 U ι h fr mem a w) {o : Operand} {b : Bool} (e : Am.evB fr o = some b) : a.eval o = .bool b := by
  simp only [Am.evB, Option.bind_eq_some_iff] at e
  obtain ⟨x, e1, e2⟩ := e
  cases x <;> simp [asB] at e2
  subst e2
  exact RP.bool_inv (hs.evA e1).1
theorem Sim.evI (hs : Sim n w0 M0 U ι h fr mem a w) {o : Operand} {i : Int} (e : Am.evI fr o = some i) : ∃ k, a.eval o = .int k i := by
  simp only [Am.evI, Option.bind_eq_some_iff] at e
  obtain ⟨x, e1, e2⟩ := e
  cases x <;> simp [asI] at e2
  subst e2
  exact RP.int_inv (hs.evA e1).1

/-- What one operation leaves. -/
def Nxt (n : Nat) (w0 : World) (M0 : Bool → Nat → Prop) (U : Nat → Prop) (ι : Io) (h : Hp) (fr : List (Nat × Sv)) (mem : Mem) (nx : Nat) (e : Eff) (a : Act) (u : Value) (w' : World) : Prop :=
  ∃ ι' h', Sub h h' ∧ (∀ m, ¬ (nx ≤ m ∧ m < e.nn) → ι' m = ι m) ∧ Sim n w0 M0 (fun m => U m ∨ (nx ≤ m ∧ m < e.nn)) ι' h' fr (updM mem e.upd) a w' ∧ RS ι' h' e.v u ∧
    (∀ m ∈ e.v.nms, U m ∨ (nx ≤ m ∧ m < e.nn)) ∧ nx ≤ e.nn ∧ ∀ b, b < w0.heap.size → ¬ M0 false b → h' b = h b

/-- The world stays. -/
theorem Nxt.val (hs : Sim n w0 M0 U ι h fr mem a w) {nx : Nat} {v : Sv} {u : Value} {rd : List Nat} (hr : RS ι h v u) (hn : ∀ m ∈ v.nms, U m) :
    Nxt n w0 M0 U ι h fr mem nx { v := v, upd := [], nn := nx, rd := rd } a u w :=
  ⟨ι, h, Sub.refl h, fun _ _ => rfl, hs.weak fun m hm => .inl hm, hr, fun m hm => .inl (hn m hm), Nat.le_refl _, fun _ _ _ => rfl⟩
theorem Nxt.valV (hs : Sim n w0 M0 U ι h fr mem a w) {nx : Nat} {v : Vl} {u : Value} {e : Eff} (he : Am.val v nx = some e) (hr : RV ι h v u) (hn : ∀ m ∈ namesV [v], U m) :
    Nxt n w0 M0 U ι h fr mem nx e a u w := by
  simp only [Am.val, Option.some.injEq] at he
  subst he
  exact Nxt.val hs hr hn
theorem Nxt.valP (hs : Sim n w0 M0 U ι h fr mem a w) {nx : Nat} {x : At} {u : Value} {e : Eff} (he : Am.val (.a x) nx = some e) (hr : RP h x u) :
    Nxt n w0 M0 U ι h fr mem nx e a u w :=
  Nxt.valV hs he (RA.ofRP hr) (by
    intro m hm
    simp only [namesV, Vl.cells, List.flatMap_cons, List.flatMap_nil, List.append_nil, RP.nm hr] at hm
    cases hm)

theorem wp_val {o : Oper} {u : Value} {w' : World} {next : Act → World → Prop} {Q : Exit → Act → World → Prop} (hr : (execOp a.eval o).run P w = .ok (.value u) w') (hn : next (a.put o.dst u) w') : o.wp P a w next Q := by
  unfold Oper.wp
  rw [hr]
  exact hn
theorem wp_skip' {o : Oper} {w' : World} {next : Act → World → Prop} {Q : Exit → Act → World → Prop} (hr : (execOp a.eval o).run P w = .ok .skip w') (hn : next (a.put o.dst undef) w') : o.wp P a w next Q := by
  unfold Oper.wp
  rw [hr]
  exact hn

/-! ### reading cells -/
theorem RBs.range {C : Array Value} {es : Nat} {els : List (List At)} (hr : RBs ι h C es els) {i : Nat} {e : List At} (he : els[i]? = some e) {o k : Nat} (hk : o + k ≤ e.length) :
    ∃ us : List Value, us.length = k ∧ (∀ j, j < k → C[i * es + o + j]? = us[j]?) ∧ RL ι h ((e.drop o).take k) us := by
  obtain ⟨_, hc⟩ := hr i e he
  have hin : ∀ j, j < k → ∃ u, C[i * es + o + j]? = some u ∧ ∃ x, e[o + j]? = some x ∧ RA ι h x u := by
    intro j hj
    have hx : e[o + j]? = some e[o + j] := List.getElem?_eq_getElem (by omega)
    obtain ⟨u, e1, e2⟩ := hc (o + j) _ hx
    exact ⟨u, by rw [← e1]; congr 1; omega, _, hx, e2⟩
  have hlen : ((C.toList.drop (i * es + o)).take k).length = k := by
    rcases Nat.eq_zero_or_pos k with h0 | h0
    · subst h0; simp
    · obtain ⟨u, e1, _⟩ := hin (k - 1) (by omega)
      have := (Array.getElem?_eq_some_iff.1 e1).1
      simp
      omega
  refine ⟨(C.toList.drop (i * es + o)).take k, hlen, fun j hj => ?_, ⟨?_, fun j x e1 => ?_⟩⟩
  · rw [List.getElem?_take, if_pos hj, List.getElem?_drop, Array.getElem?_toList]
  · rw [hlen]; simp; omega
  · rw [List.getElem?_take] at e1
    split at e1
    · rename_i hj
      rw [List.getElem?_drop] at e1
      obtain ⟨u, e2, x', e3, e4⟩ := hin j hj
      rw [e1] at e3
      cases e3
      exact ⟨u, by rw [List.getElem?_take, if_pos hj, List.getElem?_drop, Array.getElem?_toList]; exact e2, e4⟩
    · cases e1

theorem cell_of {b : Nat} {C : Array Value} {t : TypeId} {z : Nat × Nat} (hb : w.heap[b]? = some (.cells C t z)) (o : Nat) : w.cell? ⟨b, o, none⟩ = C[o]? := by
  simp [World.cell?, hb]

/-- A variable read: its cells are known. -/
theorem run_loadVar_known {ti : TI} {t : TypeId} (hT : TOk P t ti) {b o : Nat} {C : Array Value} {t' : TypeId} {z : Nat × Nat} (hb : w.heap[b]? = some (.cells C t' z))
    {us : List Value} (hu : ∀ j, j < us.length → C[o + j]? = us[j]?) {cs : List At} (hl : RL ι h cs us) :
    (ti.agg = true → us.length = ti.size → (loadVar t ⟨b, o, none⟩).run P w = .ok (.agg us.toArray) w) ∧
    (ti.agg = false → ∀ u, us[0]? = some u → (loadVar t ⟨b, o, none⟩).run P w = .ok u w) := by
  obtain ⟨d, hd, _, hag⟩ := hT.desc
  obtain ⟨i, hi, hsz, _⟩ := hT.info
  constructor
  · intro hag' hlen
    have hc : (loadCells ⟨b, o, none⟩ us.length).run P w = .ok us.toArray w := by
      refine run_loadCells_list w _ us fun j v e => ?_
      rw [Addr.add_mid, cell_of hb, hu j, e]
      rcases Nat.lt_or_ge j us.length with h' | h'
      · exact h'
      · rw [List.getElem?_eq_none (by omega)] at e; cases e
    rw [hlen] at hc
    simp [loadVar, run_isAgg hd, hag, hag', run_sizeOf hi, hsz, hc]
  · intro hag' u hu0
    have h0 := hu 0 (by
      rcases Nat.lt_or_ge 0 us.length with h' | h'
      · exact h'
      · rw [List.getElem?_eq_none (by omega)] at hu0; cases hu0)
    rw [hu0] at h0
    have hcell : w.cell? ⟨b, o, none⟩ = some u := by rw [cell_of hb]; exact h0
    simp [loadVar, run_isAgg hd, hag, hag', hcell]

theorem part_sound {ti : TI} {t : TypeId} (hT : TOk P t ti) {e : List At} {o : Nat} {v : Vl} (hv : partV ti e o = some v) {b off : Nat} {C : Array Value} {t' : TypeId} {z : Nat × Nat}
    (hb : w.heap[b]? = some (.cells C t' z)) (hc : ∀ (j : Nat) (x : At), e[j]? = some x → ∃ u, C[off + j]? = some u ∧ RA ι h x u) :
    ∃ u, (loadVar t ⟨b, off + o, none⟩).run P w = .ok u w ∧ RV ι h v u ∧ ∀ m ∈ namesV [v], ∃ x ∈ e, m ∈ x.nm := by
  unfold partV at hv
  split at hv
  · rename_i hag
    split at hv
    · rename_i hle
      cases hv
      have hr : RBs ι h (C.extract off C.size) e.length [e] := by
        intro i e' he'
        cases i with
        | zero =>
          simp at he'
          subst he'
          refine ⟨rfl, fun j x hx => ?_⟩
          obtain ⟨u, e1, e2⟩ := hc j x hx
          refine ⟨u, ?_, e2⟩
          rw [Array.getElem?_extract]
          have := (Array.getElem?_eq_some_iff.1 e1).1
          rw [if_pos (by simp; omega)]
          simpa using e1
        | succ i => simp at he'
      obtain ⟨us, hl, hu, hR⟩ := hr.range (i := 0) (e := e) rfl hle
      have hu' : ∀ j, j < us.length → C[off + o + j]? = us[j]? := by
        intro j hj
        have := hu j (by omega)
        rw [← this, Array.getElem?_extract]
        simp only [Nat.zero_mul, Nat.zero_add]
        have hj2 : us[j]? = some us[j] := List.getElem?_eq_getElem hj
        rw [hj2] at this
        have := (Array.getElem?_eq_some_iff.1 this).1
        simp at this
        rw [if_pos (by simp; omega)]
        congr 1
        omega
      refine ⟨_, (run_loadVar_known hT hb hu' hR).1 hag hl, ⟨_, rfl, by simpa using hR⟩, fun m hm => ?_⟩
      simp only [namesV, Vl.cells, List.flatMap_cons, List.flatMap_nil, List.append_nil, List.mem_flatMap] at hm
      obtain ⟨x, hx, hm⟩ := hm
      exact ⟨x, List.mem_of_mem_drop (List.mem_of_mem_take hx), hm⟩
    · cases hv
  · rename_i hag
    simp only [Option.bind_eq_some_iff] at hv
    obtain ⟨x, hx, hv⟩ := hv
    cases hv
    obtain ⟨u, e1, e2⟩ := hc o x hx
    have hR : RL ι h [x] [u] := RL.cons e2 RL.nil
    refine ⟨u, (run_loadVar_known hT hb (us := [u]) (fun j hj => ?_) hR).2 (by simpa using hag) u rfl, e2, fun m hm => ?_⟩
    · simp at hj; subst hj; simpa using e1
    · simp [namesV, Vl.cells] at hm
      exact ⟨x, List.mem_of_getElem? hx, hm⟩

end
end Go.Proofs.Ytghdpmejgonjmaa.Am

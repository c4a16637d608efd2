/- What the typed machine says the abstract machine says: operations. -/
import Derived.Test.YtghdpmejgonjmaaAmKs1
set_option linter.unusedVariables false
set_option linter.unusedSimpArgs false
namespace Go.Proofs.Ytghdpmejgonjmaa.Am
open Go

/-- The one frame's words are the other's. -/
def FrR (fr2 : List (Nat × Sv2)) (fr : List (Nat × Sv)) : Prop := ∀ t v, lk fr2 t = some v → lk fr t = some v.at

section
variable {fr2 : List (Nat × Sv2)} {fr : List (Nat × Sv)}
theorem const_at {v : Value} {x : A2} (h : const2 v = some x) : constA v = some x.at := by
  unfold const2 at h
  split at h <;> first | (cases h; rfl) | cases h
theorem FrR.ev (hF : FrR fr2 fr) {o : Operand} {v : Sv2} (h : ev2 fr2 o = some v) : Go.Proofs.Ytghdpmejgonjmaa.Am.ev fr o = some v.at := by
  cases o with
  | tmp t => exact hF t v h
  | const v =>
    simp only [ev2, Option.bind_eq_some_iff] at h
    obtain ⟨x, h1, h⟩ := h
    cases h
    simp [Am.ev, const_at h1, Sv2.at, V2.at]
  | func f => cases h; rfl
  | global g => cases h
theorem svA_at {v : Sv2} {x : A2} (h : svA2 v = some x) : svA v.at = some x.at := by
  unfold svA2 at h
  split at h
  · cases h; rfl
  · cases h
theorem svV_at {v : Sv2} {x : V2} (h : svV2 v = some x) : svV v.at = some x.at := by
  unfold svV2 at h
  split at h
  · cases h; rfl
  · cases h
theorem FrR.evA (hF : FrR fr2 fr) {o : Operand} {x : A2} (h : evA2 fr2 o = some x) : Am.evA fr o = some x.at := by
  simp only [evA2, Option.bind_eq_some_iff] at h
  obtain ⟨v, h1, h⟩ := h
  simp [Am.evA, hF.ev h1, svA_at h]
theorem FrR.evV (hF : FrR fr2 fr) {o : Operand} {x : V2} (h : evV2 fr2 o = some x) : Am.evV fr o = some x.at := by
  simp only [evV2, Option.bind_eq_some_iff] at h
  obtain ⟨v, h1, h⟩ := h
  simp [Am.evV, hF.ev h1, svV_at h]
theorem FrR.evB (hF : FrR fr2 fr) {o : Operand} {b : Bool} (h : evB2 fr2 o = some b) : Am.evB fr o = some b := by
  simp only [evB2, Option.bind_eq_some_iff] at h
  obtain ⟨x, h1, h⟩ := h
  cases x <;> simp only [asB2] at h
  all_goals first | (cases h; simp [Am.evB, hF.evA h1, A2.at, asB]) | cases h
theorem FrR.evI (hF : FrR fr2 fr) {o : Operand} {i : Int} (h : evI2 fr2 o = some i) : Am.evI fr o = some i := by
  simp only [evI2, Option.bind_eq_some_iff] at h
  obtain ⟨x, h1, h⟩ := h
  cases x <;> simp only [asI2] at h
  all_goals first | (cases h; simp [Am.evI, hF.evA h1, A2.at, asI]) | cases h
theorem FrR.bound (hF : FrR fr2 fr) {d : Nat} {o : Option Operand} {i : Int} (h : bound2 fr2 d o = some i) : boundO fr d o = some i := by
  cases o with
  | none => exact h
  | some o => exact hF.evI h
theorem FrR.cons (hF : FrR fr2 fr) (d : Nat) (v : Sv2) : FrR ((d, v) :: fr2) ((d, v.at) :: fr) := by
  intro t x h
  simp only [lk] at h ⊢
  split at h
  · rename_i e; rw [if_pos e]; cases h; rfl
  · rename_i e; rw [if_neg e]; exact hF t x h
theorem FrR.know (hF : FrR fr2 fr) {d : Nat} {b b' : Bool} (hl : lk fr2 d = some (.v (.a (.bool b)))) (hb : b = b') : FrR ((d, .v (.a (.bool b'))) :: fr2) fr := by
  subst hb
  intro t x h
  simp only [lk] at h
  split at h
  · rename_i e; subst e; cases h; exact hF _ _ hl
  · exact hF t x h

theorem at2_at {x : At} {y : A2} (h : at2 x = some y) : y.at = x := by
  unfold at2 at h
  split at h <;> first | (cases h; rfl) | cases h
theorem zero_at {ti : TI} {z : List A2} (h : zero2 ti = some z) : z.map A2.at = ti.zero ∧ z.length = ti.zero.length := by
  have key : ∀ (l : List At) (z : List A2), mapO at2 l = some z → z.map A2.at = l := by
    intro l
    induction l with
    | nil => intro z h; cases h; rfl
    | cons x l ih =>
      intro z h
      simp only [mapO, Option.bind_eq_some_iff] at h
      obtain ⟨y, h1, ys, h2, h⟩ := h
      cases h
      rw [List.map_cons, at2_at h1, ih _ h2]
  have := key _ _ h
  exact ⟨this, by rw [← this, List.length_map]⟩
theorem part_at {ti : TI} {e : List A2} {o : Nat} {v : V2} (h : part2 ti e o = some v) : partV ti (e.map A2.at) o = some v.at := by
  unfold part2 at h
  unfold partV
  split at h
  · rename_i ha
    split at h
    · rename_i hl
      cases h
      rw [if_pos ha, if_pos (by simpa using hl)]
      simp [V2.at, List.map_take, List.map_drop]
    · cases h
  · rename_i ha
    simp only [Option.bind_eq_some_iff] at h
    obtain ⟨x, h1, h⟩ := h
    cases h
    rw [if_neg ha]
    simp [h1, V2.at]
theorem put_at (cs : List A2) (o : Nat) (xs : List A2) : (put2 cs o xs).map A2.at = putAt (cs.map A2.at) o (xs.map A2.at) := by
  simp [put2, putAt, List.map_take, List.map_drop]
theorem fillV_at {ds : List (Nat × Nat)} : ∀ {ps : List (Nat × V2)} {cs r : List A2}, fillV2 ds cs ps = some r → fillV ds (cs.map A2.at) (ps.map fun p => (p.1, p.2.at)) = some (r.map A2.at) := by
  intro ps
  induction ps with
  | nil => intro cs r h; cases h; rfl
  | cons p ps ih =>
    intro cs r h
    simp only [fillV2, Option.bind_eq_some_iff] at h
    obtain ⟨q, h1, h⟩ := h
    split at h
    · rename_i hl
      simp only [List.map_cons, fillV, h1, Option.bind_some, cells_at, List.length_map]
      rw [if_pos hl, ← put_at]
      exact ih h
    · cases h
theorem fillE_at {es : Nat} : ∀ {ps : List (Nat × V2)} {cs r : List (List A2)}, fillE2 es cs ps = some r → fillE es (cs.map fun e => e.map A2.at) (ps.map fun p => (p.1, p.2.at)) = some (r.map fun e => e.map A2.at) := by
  intro ps
  induction ps with
  | nil => intro cs r h; cases h; rfl
  | cons p ps ih =>
    intro cs r h
    simp only [fillE2] at h
    split at h
    · rename_i hl
      simp only [List.map_cons, fillE, cells_at, List.length_map]
      rw [if_pos hl, ← List.map_set]
      exact ih h
    · cases h
theorem parts_at (hF : FrR fr2 fr) {l : List (Nat × Operand)} {ps : List (Nat × V2)} (h : mapO (evP2 fr2) l = some ps) :
    mapO (fun p : Nat × Operand => (Am.evV fr p.2).bind fun v => some (p.1, v)) l = some (ps.map fun p => (p.1, p.2.at)) := by
  have := mapO_at (p := id) (q := fun p : Nat × V2 => (p.1, p.2.at)) (f := evP2 fr2) (g := fun p : Nat × Operand => (Am.evV fr p.2).bind fun v => some (p.1, v)) (fun x y h => by
    simp only [evP2, Option.bind_eq_some_iff] at h
    obtain ⟨v, h1, h⟩ := h
    cases h
    simp [hF.evV h1]) h
  simpa using this
theorem all_pr (xs : List A2) : (xs.map A2.at).all At.pr = xs.all A2.pr := by
  rw [List.all_map]; congr 1; funext a; exact pr_at a
theorem allall_pr (els : List (List A2)) : (els.map fun e => e.map A2.at).all (fun e => e.all At.pr) = els.all fun e => e.all A2.pr := by
  rw [List.all_map]; congr 1; funext a; exact all_pr a
end

section
variable {R : Type} {c : Cfg} {callF : FuncId → List Vl → List Blk → Option (List Vl × List Blk)} {CO : FuncId → List V2 → List Blk2 → (List V2 × List Blk2 → Option R) → Option R}
  {fr2 : List (Nat × Sv2)} {fr : List (Nat × Sv)} {mem : Mem2} {nx : Nat}

theorem bin_at (T : TypeId → Option TI) (op : BinOp) (ty : TypeId) (a b : A2) : Snd (R := R) (bin2 T op ty a b) fun y => binA T op ty a.at b.at = some y.at := by
  intro K r e
  have ptr : ∀ (x y : A2), (if isPtr x then
      match tdOf T ty with
      | some .ptr =>
        match op with
        | .eql => (ptrEq x y).bind fun b => K (.bool b)
        | .neq => (ptrEq x y).bind fun b => K (.bool (!b))
        | _ => none
      | _ => none
      else none) = some r → ∃ z, K z = some r ∧ binA T op ty x.at y.at = some z.at := by
    intro x y e
    split at e
    · rename_i hp
      cases x <;> simp only [isPtr] at hp <;> first | cases hp | skip
      all_goals
        cases htd : tdOf T ty with
        | none => simp only [htd] at e; cases e
        | some td =>
          cases td <;> simp only [htd] at e <;> first | cases e | skip
          cases op <;> simp only [] at e <;> first | cases e | skip
          all_goals
            cases y <;> simp only [ptrEq, Option.bind_none, Option.bind_some] at e <;> first | cases e | skip
            all_goals exact ⟨_, e, by simp [A2.at, binA, htd]⟩
    · cases e
  cases a with
  | int k x =>
    cases b with
    | int k' y =>
      cases op <;> simp only [bin2] at e
      case shl =>
        split at e
        · cases e
        · rename_i h; exact ⟨_, e, by simp [A2.at, binA, h]⟩
      case shr =>
        split at e
        · cases e
        · rename_i h; exact ⟨_, e, by simp [A2.at, binA, h]⟩
      all_goals
        split at e
        · rename_i hk
          subst hk
          simp only [binI2] at e
          first
            | exact ⟨_, e, by simp [A2.at, binA, binI]⟩
            | (split at e
               · cases e
               · rename_i h; exact ⟨_, e, by simp [A2.at, binA, binI, h]⟩)
            | cases e
        · cases e
    | _ => exact ptr _ _ e
  | str x =>
    cases b with
    | str y =>
      cases op <;> simp only [bin2] at e
      case add =>
        split at e
        · cases e
        · rename_i h; exact ⟨_, e, by simp only [A2.at, binA]; rw [if_neg h]⟩
      case eql => exact ⟨_, e, rfl⟩
      case neq => exact ⟨_, e, rfl⟩
      all_goals cases e
    | _ => exact ptr _ _ e
  | bool x =>
    cases b with
    | bool y =>
      simp only [bin2] at e
      split at e
      · rename_i h1; exact ⟨_, e, by simp [A2.at, binA, h1]⟩
      · rename_i h1; exact ⟨_, e, by simp [A2.at, binA, h1]⟩
      · cases e
    | _ => exact ptr _ _ e
  | _ => exact ptr _ _ e

theorem un_at (op : UnOp) (a : A2) : Snd (R := R) (un2 op a) fun y => unA op a.at = some y.at := by
  intro K r e
  cases a <;> cases op <;> simp only [un2] at e <;> first | exact ⟨_, e, rfl⟩ | cases e
theorem conv_at (T : TypeId → Option TI) (src dst : TypeId) (a : A2) : Snd (R := R) (conv2 T src dst a) fun y => convA T src dst a.at = some y.at := by
  intro K r e
  unfold conv2 at e
  split at e
  · split at e
    · rename_i h1 h2; exact ⟨_, e, by simp [A2.at, convA, h1, h2]⟩
    · cases e
  · rename_i s
    split at e
    · rename_i h1 h2; exact ⟨_, e, by simp [A2.at, convA, h1, h2]⟩
    · rename_i h1 h2
      split at e
      · rename_i h3
        refine ⟨_, e, ?_⟩
        simp only [A2.at, convA, h1, h2, h3]
        have e1 : (s.data.toList.map fun b => (b.toNat : Int)).length = s.size := by rw [List.length_map, Array.length_toList]; rfl
        have e2 : (s.data.toList.map fun b => (b.toNat : Int)).map (Cd.at (.int .u8)) = s.data.toList.map fun b => [At.int .u8 b.toNat] := by rw [List.map_map]; rfl
        rw [e1, e2]
        rfl
      · cases e
    · cases e
  · cases e

theorem els_at (mem : Mem2) (es : Nat) (a : A2) (K : Src → List Nat → Option R) (r : R) (e : elsK mem es a K = some r) :
    ∃ s rd, K s rd = some r ∧ elsOf mem.at es a.at = some (s.len, s.rows, true, rd) := by
  cases a <;> simp only [elsK] at e
  case sl c l =>
    split at e
    · rename_i h; exact ⟨_, _, e, by simp [A2.at, elsOf, h, Src.len, Src.rows]⟩
    · cases e
  case snil es' ty => exact ⟨_, _, e, rfl⟩
  case sm m lo n =>
    simp only [Option.bind_eq_some_iff] at e
    obtain ⟨b, e1, e⟩ := e
    split at e
    · rename_i c l hb
      split at e
      · rename_i h1
        split at e
        · rename_i h2
          split at e
          · rename_i h3
            refine ⟨_, _, e, ?_⟩
            have hrows : b.at.els = l.map c.at := by simp [Blk2.at, hb, Bd.rows]
            simp only [A2.at, elsOf, mget_at, e1, Option.map_some, Option.bind_some, hrows, Src.len, Src.rows, List.length_map]
            rw [if_pos ⟨h1, h3⟩]
            simp only [List.length_take, List.length_drop, List.map_take, List.map_drop, Option.some.injEq, Prod.mk.injEq, and_true, true_and]
            refine ⟨by omega, ?_⟩
            exact h2
          · cases e
        · cases e
      · cases e
    · cases e
  all_goals cases e
end
end Go.Proofs.Ytghdpmejgonjmaa.Am

/- What the typed machine says the abstract machine says: operations. -/
import Derived.Test.YtlnailgfialgnaaGreatDoorMA2
import Derived.KernelRfl
import Derived.Lib.Bytealg
import Derived.Test.YtlnailgfialgnaaGreatDoorProg
import Derived.Sort.Grow
import Derived.Test.YtlnailgfialgnaaGreatDoorChecked
import Derived.Shelf.Small.Strs
import Derived.Shelf.Strings.Search3
import Derived.Shelf.Strings.Count

set_option linter.unusedVariables false
set_option linter.unusedSimpArgs false
namespace Go.Proofs.YtlnailgfialgnaaGreatDoor.Am
open Go

/-- The one frame's words are the other's. -/
def FrR (fr2 : List (Nat × Sv2)) (fr : List (Nat × Sv)) : Prop := ∀ t v, lk fr2 t = some v → lk fr t = some v.at

section
variable {fr2 : List (Nat × Sv2)} {fr : List (Nat × Sv)}
theorem const_at {v : Value} {x : A2} (h : const2 v = some x) : constA v = some x.at := by
  unfold const2 at h
  split at h <;> first | (cases h; rfl) | cases h
theorem FrR.ev (hF : FrR fr2 fr) {o : Operand} {v : Sv2} (h : ev2 fr2 o = some v) : Go.Proofs.YtlnailgfialgnaaGreatDoor.Am.ev fr o = some v.at := by
  cases o with
  | tmp t => exact hF t v h
  | const v =>
    simp only [ev2, Option.bind_eq_some_iff] at h
    obtain ⟨x, h1, h⟩ := h
    cases h
    simp [Am.ev, const_at h1, Sv2.at, V2.at]
  | func f => cases h; rfl
  | global g => cases h
theorem svA_at {v : Sv2} {x : A2} (h : svA2 v = some x) : svA v.at = some x.at := by
  unfold svA2 at h
  split at h
  · cases h; rfl
  · cases h
theorem svV_at {v : Sv2} {x : V2} (h : svV2 v = some x) : svV v.at = some x.at := by
  unfold svV2 at h
  split at h
  · cases h; rfl
  · cases h
theorem FrR.evA (hF : FrR fr2 fr) {o : Operand} {x : A2} (h : evA2 fr2 o = some x) : Am.evA fr o = some x.at := by
  simp only [evA2, Option.bind_eq_some_iff] at h
  obtain ⟨v, h1, h⟩ := h
  simp [Am.evA, hF.ev h1, svA_at h]
theorem FrR.evV (hF : FrR fr2 fr) {o : Operand} {x : V2} (h : evV2 fr2 o = some x) : Am.evV fr o = some x.at := by
  simp only [evV2, Option.bind_eq_some_iff] at h
  obtain ⟨v, h1, h⟩ := h
  simp [Am.evV, hF.ev h1, svV_at h]
theorem FrR.evB (hF : FrR fr2 fr) {o : Operand} {b : Bool} (h : evB2 fr2 o = some b) : Am.evB fr o = some b := by
  simp only [evB2, Option.bind_eq_some_iff] at h
  obtain ⟨x, h1, h⟩ := h
  cases x <;> simp only [asB2] at h
  all_goals first | (cases h; simp [Am.evB, hF.evA h1, A2.at, asB]) | cases h
theorem FrR.evI (hF : FrR fr2 fr) {o : Operand} {i : Int} (h : evI2 fr2 o = some i) : Am.evI fr o = some i := by
  simp only [evI2, Option.bind_eq_some_iff] at h
  obtain ⟨x, h1, h⟩ := h
  cases x <;> simp only [asI2] at h
  all_goals first | (cases h; simp [Am.evI, hF.evA h1, A2.at, asI]) | cases h
theorem FrR.bound (hF : FrR fr2 fr) {d : Nat} {o : Option Operand} {i : Int} (h : bound2 fr2 d o = some i) : boundO fr d o = some i := by
  cases o with
  | none => exact h
  | some o => exact hF.evI h
theorem FrR.cons (hF : FrR fr2 fr) (d : Nat) (v : Sv2) : FrR ((d, v) :: fr2) ((d, v.at) :: fr) := by
  intro t x h
  simp only [lk] at h ⊢
  split at h
  · rename_i e; rw [if_pos e]; cases h; rfl
  · rename_i e; rw [if_neg e]; exact hF t x h
theorem FrR.know (hF : FrR fr2 fr) {d : Nat} {b b' : Bool} (hl : lk fr2 d = some (.v (.a (.bool b)))) (hb : b = b') : FrR ((d, .v (.a (.bool b'))) :: fr2) fr := by
  subst hb
  intro t x h
  simp only [lk] at h
  split at h
  · rename_i e; subst e; cases h; exact hF _ _ hl
  · exact hF t x h

theorem at2_at {x : At} {y : A2} (h : at2 x = some y) : y.at = x := by
  unfold at2 at h
  split at h <;> first | (cases h; rfl) | cases h
theorem zero_at {ti : TI} {z : List A2} (h : zero2 ti = some z) : z.map A2.at = ti.zero ∧ z.length = ti.zero.length := by
  have key : ∀ (l : List At) (z : List A2), mapO at2 l = some z → z.map A2.at = l := by
    intro l
    induction l with
    | nil => intro z h; cases h; rfl
    | cons x l ih =>
      intro z h
      simp only [mapO, Option.bind_eq_some_iff] at h
      obtain ⟨y, h1, ys, h2, h⟩ := h
      cases h
      rw [List.map_cons, at2_at h1, ih _ h2]
  have := key _ _ h
  exact ⟨this, by rw [← this, List.length_map]⟩
theorem fz0_at {T : TypeId → Option TI} {ti : TI} {z1 z : List A2} (h : zero2 ti = some z1) (h2 : mapO (fz0K T) z1 = some z) : z.map A2.at = zf ti ∧ z.length = ti.zero.length := by
  obtain ⟨q1, q2⟩ := zero_at h
  have := mapO_at (f := fz0K T) (g := fun x => some (frz0 x)) (p := A2.at) (q := A2.at) (fun x y e => by
    cases x <;> simp only [fz0K, Option.bind_eq_some_iff] at e
    case snil es ty =>
      obtain ⟨d, _, e⟩ := e
      split at e
      · rename_i hd; cases e; simp [A2.at, frz0, hd]
      · cases e
    all_goals (cases e; rfl)) h2
  have key : ∀ l : List At, mapO (fun x => some (frz0 x)) l = some (l.map frz0) := by
    intro l
    induction l with
    | nil => rfl
    | cons x l ih => simp [mapO, ih]
  rw [key, q1] at this
  have hz : z.map A2.at = zf ti := by simpa [zf] using this.symm
  exact ⟨hz, by simpa [zf] using congrArg List.length hz⟩
theorem part_at {ti : TI} {e : List A2} {o : Nat} {v : V2} (h : part2 ti e o = some v) : partV ti (e.map A2.at) o = some v.at := by
  unfold part2 at h
  unfold partV
  split at h
  · rename_i ha
    split at h
    · rename_i hl
      cases h
      rw [if_pos ha, if_pos (by simpa using hl)]
      simp [V2.at, List.map_take, List.map_drop]
    · cases h
  · rename_i ha
    simp only [Option.bind_eq_some_iff] at h
    obtain ⟨x, h1, h⟩ := h
    cases h
    rw [if_neg ha]
    simp [h1, V2.at]
theorem put_at (cs : List A2) (o : Nat) (xs : List A2) : (put2 cs o xs).map A2.at = putAt (cs.map A2.at) o (xs.map A2.at) := by
  simp [put2, putAt, List.map_take, List.map_drop]
theorem fillV_at {ds : List (Nat × Nat)} : ∀ {ps : List (Nat × V2)} {cs r : List A2}, fillV2 ds cs ps = some r → fillV ds (cs.map A2.at) (ps.map fun p => (p.1, p.2.at)) = some (r.map A2.at) := by
  intro ps
  induction ps with
  | nil => intro cs r h; cases h; rfl
  | cons p ps ih =>
    intro cs r h
    simp only [fillV2, Option.bind_eq_some_iff] at h
    obtain ⟨q, h1, h⟩ := h
    split at h
    · rename_i hl
      simp only [List.map_cons, fillV, h1, Option.bind_some, cells_at, List.length_map]
      rw [if_pos hl, ← put_at]
      exact ih h
    · cases h
theorem fillE_at {es : Nat} : ∀ {ps : List (Nat × V2)} {cs r : List (List A2)}, fillE2 es cs ps = some r → fillE es (cs.map fun e => e.map A2.at) (ps.map fun p => (p.1, p.2.at)) = some (r.map fun e => e.map A2.at) := by
  intro ps
  induction ps with
  | nil => intro cs r h; cases h; rfl
  | cons p ps ih =>
    intro cs r h
    simp only [fillE2] at h
    split at h
    · rename_i hl
      simp only [List.map_cons, fillE, cells_at, List.length_map]
      rw [if_pos hl, ← List.map_set]
      exact ih h
    · cases h
theorem parts_at (hF : FrR fr2 fr) {l : List (Nat × Operand)} {ps : List (Nat × V2)} (h : mapO (evP2 fr2) l = some ps) :
    mapO (fun p : Nat × Operand => (Am.evV fr p.2).bind fun v => some (p.1, v)) l = some (ps.map fun p => (p.1, p.2.at)) := by
  have := mapO_at (p := id) (q := fun p : Nat × V2 => (p.1, p.2.at)) (f := evP2 fr2) (g := fun p : Nat × Operand => (Am.evV fr p.2).bind fun v => some (p.1, v)) (fun x y h => by
    simp only [evP2, Option.bind_eq_some_iff] at h
    obtain ⟨v, h1, h⟩ := h
    cases h
    simp [hF.evV h1]) h
  simpa using this
theorem fixN_at {ti : TI} {z : List A2} (hz : zero2 ti = some z) (v : V2) : fixN ti.zero v.at = (fixN2 z v).at := by
  obtain ⟨q1, _⟩ := zero_at hz
  rw [← q1]
  cases v with
  | g cs => rfl
  | a x =>
    cases x with
    | snil es ty =>
      simp only [V2.at, A2.at, fixN, fixN2]
      match z with
      | [] => rfl
      | [y] => cases y <;> rfl
      | y :: y2 :: r => cases y <;> rfl
    | _ => rfl
theorem partsN_at (hF : FrR fr2 fr) {ti : TI} {z : List A2} (hz : zero2 ti = some z) {l : List (Nat × Operand)} {ps : List (Nat × V2)} (h : mapO (evP2 fr2) l = some ps) :
    mapO (fun p : Nat × Operand => (Am.evV fr p.2).bind fun v => some (p.1, fixN ti.zero v)) l = some ((ps.map fun p => (p.1, fixN2 z p.2)).map fun p => (p.1, p.2.at)) := by
  have := mapO_at (p := id) (q := fun p : Nat × V2 => (p.1, (fixN2 z p.2).at)) (f := evP2 fr2) (g := fun p : Nat × Operand => (Am.evV fr p.2).bind fun v => some (p.1, fixN ti.zero v)) (fun x y h => by
    simp only [evP2, Option.bind_eq_some_iff] at h
    obtain ⟨v, h1, h⟩ := h
    cases h
    simp [hF.evV h1, fixN_at hz]) h
  rw [List.map_map]
  simpa [Function.comp_def] using this
theorem all_pr (xs : List A2) : (xs.map A2.at).all At.pr = xs.all A2.pr := by
  rw [List.all_map]; congr 1; funext a; exact pr_at a
theorem allall_pr (els : List (List A2)) : (els.map fun e => e.map A2.at).all (fun e => e.all At.pr) = els.all fun e => e.all A2.pr := by
  rw [List.all_map]; congr 1; funext a; exact all_pr a
end

section
variable {R : Type} {c : Cfg} {callF : FuncId → List Vl → List Blk → Option (List Vl × List Blk)} {CO : FuncId → List V2 → List Blk2 → (List V2 × List Blk2 → Option R) → Option R}
  {fr2 : List (Nat × Sv2)} {fr : List (Nat × Sv)} {mem : Mem2} {nx : Nat}

theorem bin_at (T : TypeId → Option TI) (op : BinOp) (ty : TypeId) (a b : A2) : Snd (R := R) (bin2 T op ty a b) fun y => binA T op ty a.at b.at = some y.at := by
  intro K r e
  have ptr : ∀ (x y : A2), (if isPtr x then
      match tdOf T ty with
      | some .ptr =>
        match op with
        | .eql => (ptrEq x y).bind fun b => K (.bool b)
        | .neq => (ptrEq x y).bind fun b => K (.bool (!b))
        | _ => none
      | _ => none
      else none) = some r → ∃ z, K z = some r ∧ binA T op ty x.at y.at = some z.at := by
    intro x y e
    split at e
    · rename_i hp
      cases x <;> simp only [isPtr] at hp <;> first | cases hp | skip
      all_goals
        cases htd : tdOf T ty with
        | none => simp only [htd] at e; cases e
        | some td =>
          cases td <;> simp only [htd] at e <;> first | cases e | skip
          cases op <;> simp only [] at e <;> first | cases e | skip
          all_goals
            cases y <;> simp only [ptrEq, Option.bind_none, Option.bind_some] at e <;> first | cases e | skip
            all_goals exact ⟨_, e, by simp [A2.at, binA, htd]⟩
    · cases e
  cases a with
  | int k x =>
    cases b with
    | int k' y =>
      cases op <;> simp only [bin2] at e
      case shl =>
        split at e
        · cases e
        · rename_i h; exact ⟨_, e, by simp [A2.at, binA, h]⟩
      case shr =>
        split at e
        · cases e
        · rename_i h; exact ⟨_, e, by simp [A2.at, binA, h]⟩
      all_goals
        split at e
        · rename_i hk
          subst hk
          simp only [binI2] at e
          first
            | exact ⟨_, e, by simp [A2.at, binA, binI]⟩
            | (split at e
               · cases e
               · rename_i h; exact ⟨_, e, by simp [A2.at, binA, binI, h]⟩)
            | cases e
        · cases e
    | _ => exact ptr _ _ e
  | str x =>
    cases b with
    | str y =>
      cases op <;> simp only [bin2] at e
      case add =>
        split at e
        · cases e
        · rename_i h; exact ⟨_, e, by simp only [A2.at, binA]; rw [if_neg h]⟩
      case eql => exact ⟨_, e, rfl⟩
      case neq => exact ⟨_, e, rfl⟩
      all_goals cases e
    | _ => exact ptr _ _ e
  | bool x =>
    cases b with
    | bool y =>
      simp only [bin2] at e
      split at e
      · rename_i h1; exact ⟨_, e, by simp [A2.at, binA, h1]⟩
      · rename_i h1; exact ⟨_, e, by simp [A2.at, binA, h1]⟩
      · cases e
    | _ => exact ptr _ _ e
  | _ => exact ptr _ _ e

theorem un_at (op : UnOp) (a : A2) : Snd (R := R) (un2 op a) fun y => unA op a.at = some y.at := by
  intro K r e
  cases a <;> cases op <;> simp only [un2] at e <;> first | exact ⟨_, e, rfl⟩ | cases e
theorem conv_at (T : TypeId → Option TI) (src dst : TypeId) (a : A2) : Snd (R := R) (conv2 T src dst a) fun y => convA T src dst a.at = some y.at := by
  intro K r e
  unfold conv2 at e
  split at e
  · split at e
    · rename_i h1 h2; exact ⟨_, e, by simp [A2.at, convA, h1, h2]⟩
    · cases e
  · rename_i s
    split at e
    · rename_i h1 h2; exact ⟨_, e, by simp [A2.at, convA, h1, h2]⟩
    · rename_i h1 h2
      split at e
      · rename_i h3
        refine ⟨_, e, ?_⟩
        simp only [A2.at, convA, h1, h2, h3]
        have e1 : (s.data.toList.map fun b => (b.toNat : Int)).length = s.size := by rw [List.length_map, Array.length_toList]; rfl
        have e2 : (s.data.toList.map fun b => (b.toNat : Int)).map (Cd.at (.int .u8)) = s.data.toList.map fun b => [At.int .u8 b.toNat] := by rw [List.map_map]; rfl
        rw [e1, e2]
        rfl
      · cases e
    · cases e
  · cases e

theorem els_at (mem : Mem2) (es : Nat) (a : A2) (K : Src → List Nat → Option R) (r : R) (e : elsK mem es a K = some r) :
    ∃ s rd, K s rd = some r ∧ elsOf mem.at es a.at = some (s.len, s.rows, true, rd) := by
  cases a <;> simp only [elsK] at e
  case sl c l =>
    split at e
    · rename_i h; exact ⟨_, _, e, by simp [A2.at, elsOf, h, Src.len, Src.rows]⟩
    · cases e
  case snil es' ty => exact ⟨_, _, e, rfl⟩
  case sm m lo n =>
    simp only [Option.bind_eq_some_iff] at e
    obtain ⟨b, e1, e⟩ := e
    split at e
    · rename_i c l hb
      split at e
      · rename_i h1
        split at e
        · rename_i h2
          split at e
          · rename_i h3
            refine ⟨_, _, e, ?_⟩
            have hrows : b.at.els = l.map c.at := by simp [Blk2.at, hb, Bd.rows, Bd.ents]
            simp only [A2.at, elsOf, mget_at, e1, Option.map_some, Option.bind_some, hrows, Src.len, Src.rows, List.length_map]
            rw [if_pos ⟨h1, h3⟩]
            simp only [List.length_take, List.length_drop, List.map_take, List.map_drop, Option.some.injEq, Prod.mk.injEq, and_true, true_and]
            refine ⟨by omega, ?_⟩
            exact h2
          · cases e
        · cases e
      · cases e
    · cases e
  all_goals cases e
end
end Go.Proofs.YtlnailgfialgnaaGreatDoor.Am

/- What the typed machine says the abstract machine says: append, calls, every operation. -/
set_option linter.unusedVariables false
set_option linter.unusedSimpArgs false
namespace Go.Proofs.YtlnailgfialgnaaGreatDoor.Am
open Go

/-- What is called says what the abstract machine's call says. -/
def COk {R : Type} (CO : FuncId → List V2 → List Blk2 → (List V2 × List Blk2 → Option R) → Option R) (callF : FuncId → List Vl → List Blk → Option (List Vl × List Blk)) : Prop :=
  ∀ f a b, Snd (CO f a b) fun r => callF f (a.map V2.at) (b.map Blk2.at) = some (r.1.map V2.at, r.2.map Blk2.at)

section
variable {R : Type} {c : Cfg} {callF : FuncId → List Vl → List Blk → Option (List Vl × List Blk)} {CO : FuncId → List V2 → List Blk2 → (List V2 × List Blk2 → Option R) → Option R}
  {fr2 : List (Nat × Sv2)} {fr : List (Nat × Sv)} {mem : Mem2} {nx : Nat}

theorem appK_at (t : TypeId) (s x : A2) (mem : Mem2) (nx : Nat) : Snd (R := R) (appK c t s x mem nx) fun e => stpAppend c t s.at x.at mem.at nx = some e.at := by
  intro K r e
  unfold appK at e
  unfold stpAppend
  split at e
  · rename_i el htd
    simp only [Option.bind_eq_some_iff] at e
    obtain ⟨te, hte, e⟩ := e
    split at e
    · rename_i hst
      obtain ⟨src, rd, e', hsrc⟩ := els_at _ _ _ _ _ e
      clear e
      have e := e'
      clear e'
      have hlen : src.rows.length = src.len := by cases src <;> simp [Src.rows, Src.len]
      simp only [htd, hte, Option.bind_some, hsrc]
      cases s <;> simp only [] at e
      case snil es' ty' =>
        split at e
        · simp only [Option.bind_eq_some_iff] at e
          obtain ⟨d, hd, e⟩ := e
          refine ⟨_, e, ?_⟩
          simp only [A2.at, Option.bind_some, Src.len, Src.rows]
          refine (if_pos ⟨by simp, hst⟩).trans ?_
          simp [Eff2.at, Mem2.at, oAt, Blk2.at, Bd.rows, Bd.ents, Sv2.at, V2.at, A2.at]
        · rename_i d l
          split at e
          · rename_i hb
            refine ⟨_, e, ?_⟩
            simp only [A2.at, Option.bind_some, Src.len, Src.rows]
            refine (if_pos ⟨by simpa using hb, hst⟩).trans ?_
            simp [Eff2.at, Mem2.at, oAt, Blk2.at, Bd.rows, Bd.ents, Sv2.at, V2.at, A2.at]
          · cases e
      case sm m lo n =>
        simp only [Option.bind_eq_some_iff] at e
        obtain ⟨b, hb, e⟩ := e
        split at e
        · rename_i d l hbd
          split at e
          · rename_i hc
            split at e
            · rename_i hlo
              subst hlo
              split at e
              · rename_i hn
                have hrows : b.at.els = l.map d.at := by simp [Blk2.at, hbd, Bd.rows, Bd.ents]
                simp only [A2.at, mget_at, hb, Option.map_some, Option.bind_some, hrows, List.length_map]
                rw [if_pos (show (True ∧ b.at.es = te.size ∧ b.at.ty = el ∧ n ≤ l.length ∧ (!b.at.fz) = true) from ⟨trivial, hc.1, hc.2.1, hn, by have := hc.2.2.1; simp [Blk2.at, this]⟩) ]
                have hpr : b.at.pr = true := hc.2.2.2
                simp only [Option.bind_some, hpr]
                split at e
                · split at e
                  · rename_i hbd2
                    refine ⟨_, e, ?_⟩
                    simp only [Src.len, Src.rows]
                    refine (if_pos ⟨by simpa using hbd2, hst⟩).trans ?_
                    simp [Eff2.at, Mem2.at, oAt, Blk2.at, Bd.rows, Bd.ents, Sv2.at, V2.at, A2.at, List.map_take]
                  · cases e
                · rename_i d' l'
                  simp only [Option.bind_eq_some_iff] at e
                  obtain ⟨l2, hl2, e⟩ := e
                  obtain ⟨hdd, rfl⟩ := castL_eq hl2
                  subst hdd
                  split at e
                  · rename_i hbd2
                    refine ⟨_, e, ?_⟩
                    simp only [Src.len, Src.rows]
                    refine (if_pos ⟨by simpa using hbd2, hst⟩).trans ?_
                    simp [Eff2.at, Mem2.at, oAt, Blk2.at, Bd.rows, Bd.ents, Sv2.at, V2.at, A2.at, List.map_take]
                  · cases e
              · cases e
            · cases e
          · cases e
        · cases e
      all_goals cases e
    · cases e
  · cases e

theorem vals_at (f : FuncId) (mem : Mem2) (args : List V2) : Snd (R := R) (fun K => if c.mutA f then K args else mapK (frzVK c mem) args K) fun vals => (if c.mutA f then some (args.map V2.at) else mapO (frzV mem.at) (args.map V2.at)) = some (vals.map V2.at) := by
  intro K r e
  simp only [] at e
  split at e
  · rename_i h; exact ⟨_, e, by rw [if_pos h]⟩
  · rename_i h
    obtain ⟨x, e1, h1⟩ := mapK_at (fun v => frzV_at mem v) args _ _ e
    exact ⟨x, e1, by rw [if_neg h]; exact h1⟩
theorem clo_at (f : FuncId) (mem : Mem2) (l acc : List Nat) : clo (fun m => if c.mutA f then namesM mem.at m else ptrsM mem.at m) 64 l acc = clo (if c.mutA f then names2 A2.nm mem else names2 A2.ptrs mem) 64 l acc := by
  congr 1
  funext m
  split
  · rw [namesM_at]
  · rw [ptrsM_at]
theorem noSl_all (rs : List V2) : (rs.map V2.at).all (fun v => v.cells.all At.noSl) = rs.all fun v => v.cells.all A2.noSl := by
  rw [List.all_map]; congr 1; funext v
  simp only [Function.comp_def, cells_at, List.all_map]
  congr 1; funext a; exact noSl_at a
theorem isEmpty_map' {α β : Type} (f : α → β) (l : List α) : (l.map f).isEmpty = l.isEmpty := by cases l <;> rfl

theorem call_at (hC : COk CO callF) (f : FuncId) (args : List V2) (mem : Mem2) (nx : Nat) : Snd (callK c CO f args mem nx) fun e => stpCall c callF f (args.map V2.at) mem.at nx = some e.at := by
  intro K r e
  unfold callK at e
  obtain ⟨vals, e, h1⟩ := vals_at f mem args _ _ e
  obtain ⟨blks, e, h2⟩ := mapK_at (q := Blk2.at) (p := id) (g := fun m => (mget (Mem2.at _) m).bind fun b => (if c.mutA f then some b else frzB mem.at b).bind (renB (idx _))) (fun m => blk_at _ _ _ _ m) _ _ _ e
  simp only [Option.bind_eq_some_iff] at e
  obtain ⟨vals', h3, e⟩ := e
  obtain ⟨r1, e, h4⟩ := hC _ _ _ _ _ e
  simp only [Option.bind_eq_some_iff] at e
  obtain ⟨rs, h5, bs, h6, e⟩ := e
  refine ⟨_, e, ?_⟩
  unfold stpCall
  rw [h1]
  simp only [Option.bind_some, namesV_at, smnV_at, smnM_at, clo_at]
  rw [List.map_id, upd_at, fz_at] at h2
  rw [h2]
  simp only [Option.bind_some]
  have h3' := mapO_at (fun _ _ => renV_at) h3
  rw [h3']
  simp only [Option.bind_some, h4]
  have hcn : ∀ N : List Nat, cnt nx ((r1.2.map Blk2.at).drop N.length) = cnt nx (r1.2.drop N.length) := fun N => cnt_len _ _ _ (by simp)
  simp only [hcn]
  have h5' := mapO_at (fun _ _ => renV_at) h5
  have h6' := mapO_at (fun _ _ => renB_at) h6
  rw [h5', Option.bind_some, h6', Option.bind_some]
  have hif : ∀ (p : Prop) [Decidable p] (a : Mem2), Mem2.at (if p then [] else a) = if p then [] else a.at := by intro p _ a; split <;> rfl
  simp only [Eff2.at, res_at, List.length_map, isEmpty_map', noSl_all, app_at, zip_at, hif, fz_at]

theorem nil_at : Mem2.at [] = [] := rfl
theorem smnE_at (els : List (List A2)) : smnE (els.map fun e => e.map A2.at) = smnE2 els := by
  simp only [smnE, smnE2, List.flatMap_map]
  congr 1; funext e
  congr 1; funext a; exact smn_at a
theorem kEq_at {d : TD} {kc : Cd} (h : kcOk d kc = true) (x y : kc.D) : keyEq ((kc.at x).headD .nilp) ((kc.at y).headD .nilp) = kEq kc x y := by
  cases d <;> cases kc <;> simp [kcOk] at h <;> simp [Cd.at, keyEq, kEq]
theorem kOk_at {d : TD} {kc : Cd} (h : kcOk d kc = true) (x : kc.D) : keyOk d ((kc.at x).headD .nilp) = true := by
  cases d <;> cases kc <;> simp [kcOk] at h <;> simp [Cd.at, keyOk, h]
theorem findG_at {d : TD} {kc vc : Cd} (h : kcOk d kc = true) (x : kc.D) : ∀ l : List (kc.D × vc.D), findM (Bd.map kc vc l).ents ((kc.at x).headD .nilp) = (findG kc vc l x).map fun q => (q.1, (vc.at q.2).headD .nilp)
  | [] => rfl
  | p :: l => by
    have ih := findG_at h x l
    simp only [Bd.ents] at ih
    simp only [Bd.ents, List.map_cons, findM, findG, kEq_at h, ih]
    split
    · rfl
    · cases findG kc vc l x <;> rfl
theorem mapS_at {d : TD} {kc vc : Cd} (h : kcOk d kc = true) (x : kc.D) (v : vc.D) (l : List (kc.D × vc.D)) : (Bd.map kc vc (mapS kc vc l x v)).ents = setM (Bd.map kc vc l).ents ((kc.at x).headD .nilp) ((vc.at v).headD .nilp) := by
  unfold setM mapS
  rw [findG_at h]
  cases findG kc vc l x with
  | none => simp [Bd.ents]
  | some q => simp [Bd.ents, List.map_set]
theorem dhead_at {c : Cd} {a : A2} {x : c.D} (h : c.dec [a] = some x) : (c.at x).headD .nilp = a.at := by
  rw [← dec_at h]; rfl
theorem mall_at {d : TD} {kc vc : Cd} (h : kcOk d kc = true) (l : List (kc.D × vc.D)) : (Bd.map kc vc l).ents.all (fun p => keyOk d p.1) = true := by
  rw [List.all_eq_true]
  intro p hp
  simp only [Bd.ents, List.mem_map] at hp
  obtain ⟨q, _, rfl⟩ := hp
  exact kOk_at h _
theorem mapM2 {T : TypeId → Option TI} {t : TypeId} {mem : Mem2} {m : Nat} {b : Blk2} {kc vc : Cd} {l : List (kc.D × vc.D)} {d : TD} {kt et : Nat} {ka : At} (htd : tdOf T t = some (.mp kt et)) (h2 : tdOf T kt = some d) (h1 : mget2 mem m = some b) (hbd : b.bd = .map kc vc l)
    (hc : kcOk d kc = true) (hk : keyOk d ka = true) : mapM T t mem.at (.mp m) ka = some (et, m, b.at) := by
  have hall := mall_at (vc := vc) hc l
  rw [← hbd] at hall
  unfold mapM
  simp only [htd, h2, Option.bind_some, mget_at, h1, Option.map_some]
  rw [if_pos ⟨hk, hall⟩]
theorem mput_at (t : TypeId) (a key v : A2) (mem : Mem2) (nx : Nat) : Snd (R := R) (mputK c t a key v mem nx) fun e => ((mapM c.T t mem.at a.at key.at).bind fun q =>
    if v.at.pr = true ∧ (!q.2.2.fz) = true then some { v := .u, upd := [(q.2.1, some { q.2.2 with mp := setM q.2.2.mp key.at v.at })], nn := nx, rd := [q.2.1] } else none) = some e.at := by
  intro K r e
  unfold mputK at e
  split at e
  · rename_i m
    simp only [Option.bind_eq_some_iff] at e
    obtain ⟨b, h1, e⟩ := e
    split at e
    · rename_i kc vc l hbd
      split at e
      · rename_i kt et htd
        simp only [Option.bind_eq_some_iff] at e
        obtain ⟨d, h2, e⟩ := e
        split at e
        · rename_i hc
          simp only [Option.bind_eq_some_iff] at e
          obtain ⟨kx, h3, vx, h4, e⟩ := e
          refine ⟨_, e, ?_⟩
          have hk := dhead_at h3
          have hv := dhead_at h4
          have hpr : v.at.pr = true := by
            have hd := dec_at h4
            exact (cd_names vc vx v.at (by rw [← hd]; simp)).2.2.2
          have hm : mapM c.T t mem.at (A2.mp m).at key.at = some (et, m, b.at) := mapM2 htd h2 h1 hbd hc.1 (by rw [← hk]; exact kOk_at hc.1 _)
          rw [hm, Option.bind_some, if_pos ⟨hpr, by simp [Blk2.at, hc.2]⟩]
          have hs := mapS_at hc.1 kx vx l
          rw [hk, hv] at hs
          simp [Eff2.at, nil_at, cons_at, oAt, Blk2.at, hbd, Bd.rows, Sv2.at, hs]
        · cases e
      · cases e
    · cases e
  · cases e
theorem mlook_at (t : TypeId) (a key : A2) (ok : Bool) (mem : Mem2) (nx : Nat) : Snd (R := R) (mlookK c t a key ok mem nx) fun e => ((mapM c.T t mem.at a.at key.at).bind fun q => (c.T q.1).bind fun te =>
    if ok = false ∧ te.agg = false ∧ te.size = 1 ∧ te.zero.length = te.size then
      (match findM q.2.2.mp key.at with | some r => some r.2 | none => te.zero[0]?).bind fun v => some { v := .v (.a v), upd := [], nn := nx, rd := [q.2.1] }
    else none) = some e.at := by
  intro K r e
  unfold mlookK at e
  split at e
  · rename_i m
    simp only [Option.bind_eq_some_iff] at e
    obtain ⟨b, h1, e⟩ := e
    split at e
    · rename_i kc vc l hbd
      split at e
      · rename_i kt et htd
        simp only [Option.bind_eq_some_iff] at e
        obtain ⟨d, h2, e⟩ := e
        split at e
        · rename_i hc
          simp only [Option.bind_eq_some_iff] at e
          obtain ⟨kx, h3, te, h4, e⟩ := e
          split at e
          · rename_i hz
            simp only [Option.bind_eq_some_iff] at e
            obtain ⟨z, h5, z0, h6, e⟩ := e
            refine ⟨_, e, ?_⟩
            have hk := dhead_at h3
            obtain ⟨q1, q2⟩ := zero_at h5
            have q3 := dec_at h6
            rw [q1] at q3
            have hm : mapM c.T t mem.at (A2.mp m).at key.at = some (et, m, b.at) := mapM2 htd h2 h1 hbd hc (by rw [← hk]; exact kOk_at hc _)
            have hcl : ∀ y : vc.D, ((vc.cl y).headD .nilp).at = (vc.at y).headD .nilp := by
              intro y
              rw [← cl_at]
              cases vc.cl y <;> rfl
            have hcl2 : ∀ y : vc.D, ((vc.cl y).head?.getD .nilp).at = (vc.at y).head?.getD .nilp := by
              intro y
              rw [← cl_at]
              cases vc.cl y <;> rfl
            have hf := findG_at (vc := vc) hc kx l
            rw [hk, ← hbd] at hf
            simp only [hm, h4, Option.bind_some]
            rw [if_pos hz]
            have hmp : b.at.mp = b.bd.ents := rfl
            simp only [hmp, hf]
            have hz0 : te.zero[0]? = some ((vc.at z0).headD .nilp) := by
              rw [q3]
              have hl : (vc.at z0).length = 1 := by rw [← q3, hz.2.2.2, hz.2.2.1]
              match vc.at z0, hl with
              | [y], _ => rfl
            unfold mapG
            cases findG kc vc l kx with
            | none => simp [hz0, Eff2.at, nil_at, Sv2.at, V2.at, hcl2]
            | some q => simp [Eff2.at, nil_at, Sv2.at, V2.at, hcl2]
          · cases e
        · cases e
      · cases e
    · cases e
  · cases e
theorem cap1_at {x : A2} {p : Sigma Cd.D} (h : capOf x = some p) : [x.at] = p.1.at p.2 ∧ x.at.pr = true ∧ ∀ mem, capA mem x.at = some (x.at, []) := by
  cases x <;> simp only [capOf] at h <;> first | (cases h; exact ⟨rfl, rfl, fun _ => rfl⟩) | cases h
theorem capK_at {mem : Mem2} {x : A2} {p : Sigma Cd.D × List Nat} (h : capK mem x = some p) : ∃ y, capA mem.at x.at = some (y, p.2) ∧ [y] = p.1.1.at p.1.2 := by
  cases x with
  | ptr m i o =>
    simp only [capK, Option.bind_eq_some_iff] at h
    obtain ⟨b, h1, h⟩ := h
    split at h
    · rename_i hp
      split at h
      · rename_i ho
        split at h
        · rename_i els hbd
          simp only [Option.bind_eq_some_iff] at h
          obtain ⟨e, h2, h⟩ := h
          split at h
          · rename_i x
            simp only [Option.bind_eq_some_iff] at h
            obtain ⟨q, h3, h⟩ := h
            cases h
            obtain ⟨k1, k2, k3⟩ := cap1_at h3
            have h1' : mget mem.at m = some b.at := by rw [mget_at, h1]; rfl
            have he : b.at.els[i]? = some [x.at] := by
              simp [Blk2.at, hbd, Bd.rows, Bd.ents, h2]
            refine ⟨.pp [x.at] o, ?_, ?_⟩
            · simp only [A2.at, capA, h1', Option.bind_some]
              rw [if_pos (show b.at.pr = true from hp), he]
              rfl
            · simp only [Cd.at, ho, k1]
          · cases h
        · cases h
      · cases h
    · cases h
  | _ =>
    simp only [capK, Option.bind_eq_some_iff] at h
    obtain ⟨q, h1, h⟩ := h
    cases h
    obtain ⟨k1, k2, k3⟩ := cap1_at h1
    exact ⟨_, k3 _, k1⟩
theorem capKs_at {mem : Mem2} : ∀ {xs : List A2} {ps : List (Sigma Cd.D × List Nat)}, mapO (capK mem) xs = some ps →
    ∃ ys, mapO (capA mem.at) (xs.map A2.at) = some ys ∧ ys.map (·.1) = (ps.map (·.1)).flatMap (fun p => p.1.at p.2) ∧ ys.flatMap (·.2) = ps.flatMap (·.2) := by
  intro xs
  induction xs with
  | nil => intro ps h; cases h; exact ⟨[], rfl, rfl, rfl⟩
  | cons x xs ih =>
    intro ps h
    simp only [mapO, Option.bind_eq_some_iff] at h
    obtain ⟨p, h1, ps', h2, h⟩ := h
    cases h
    obtain ⟨ys, i1, i2, i3⟩ := ih h2
    obtain ⟨y, k1, k2⟩ := capK_at h1
    refine ⟨(y, p.2) :: ys, ?_, ?_, ?_⟩
    · simp only [List.map_cons, mapO, k1, i1, Option.bind_some]
    · simp only [List.map_cons, List.flatMap_cons, ← k2, i2]; rfl
    · simp only [List.flatMap_cons, i3]
theorem arF_at (mem : Mem2) (m : Nat) (v : V2) : Snd (R := R) (arFK c mem m v) fun q => arF mem.at m v.at = some (q.1.at, q.2) := by
  intro K r e
  simp only [arFK, Option.bind_eq_some_iff] at e
  obtain ⟨b, h1, e⟩ := e
  have h1' : mget mem.at m = some b.at := by rw [mget_at, h1]; rfl
  simp only [arF, h1', Option.bind_some]
  split at e
  · rename_i hb
    obtain ⟨v', e, h2⟩ := frzV_at mem v _ _ e
    refine ⟨_, e, ?_⟩
    rw [if_pos (by exact hb), h2, Option.bind_some]
    have : smnV [v.at] = namesV2 A2.smn [v] := smnV_at [v]
    rw [this]
  · rename_i hb
    exact ⟨_, e, by rw [if_neg (by exact hb)]⟩
theorem clear_at (t : TypeId) (a : A2) (mem : Mem2) (nx : Nat) : Snd (R := R) (clearK c t a mem nx) fun e => stpClear c t a.at mem.at nx = some e.at := by
  intro K r e
  unfold clearK at e
  unfold stpClear
  split at e
  · rename_i el htd
    simp only [Option.bind_eq_some_iff] at e
    obtain ⟨te, h1, z1, h2, z, h2', e⟩ := e
    obtain ⟨q1, q2⟩ := fz0_at h2 h2'
    simp only [htd, h1, Option.bind_some]
    split at e
    · exact ⟨_, e, by simp [A2.at, Eff2.at, Mem2.at, Sv2.at]⟩
    · rename_i m lo n
      simp only [Option.bind_eq_some_iff] at e
      obtain ⟨b, h3, e⟩ := e
      split at e
      · rename_i d l hb
        split at e
        · rename_i hc
          simp only [Option.bind_eq_some_iff] at e
          obtain ⟨z0, h4, e⟩ := e
          split at e
          · rename_i hl
            refine ⟨_, e, ?_⟩
            have h4' := dec_at h4
            rw [q1] at h4'
            simp only [A2.at, mget_at, h3, Option.map_some, Option.bind_some, Blk2.at, hb, Bd.rows, Bd.ents, List.length_map]
            rw [if_pos ⟨hl, hc.1, by simp [hc.2.1], by omega, hc.2.2.2⟩]
            simp [Eff2.at, Mem2.at, oAt, Blk2.at, Bd.rows, Bd.ents, Sv2.at, h4', List.map_take, List.map_drop]
          · cases e
        · cases e
      · cases e
    · cases e
  · cases e
theorem FrR.gSome {fr2 : List (Nat × Sv2)} {fr : List (Nat × Sv)} (hF : FrR fr2 fr) {o : Operand} {cs : List A2} (h : gOf2 fr2 o = some cs) : gOf fr o = some (cs.map A2.at) := by
  unfold gOf2 at h
  split at h
  · rename_i hh; cases h; unfold gOf; rw [hF.ev hh]; rfl
  · cases h
theorem FrR.gNone {fr2 : List (Nat × Sv2)} {fr : List (Nat × Sv)} (hF : FrR fr2 fr) {o : Operand} {x : A2} (h : evA2 fr2 o = some x) : gOf fr o = none := by
  have := hF.evA h
  simp only [Am.evA, Option.bind_eq_some_iff] at this
  obtain ⟨v, h1, h2⟩ := this
  unfold gOf
  rw [h1]
  unfold Am.svA at h2
  split at h2
  · rfl
  · cases h2
theorem eqK_at {R : Type} : ∀ (cs ds : List A2) (K : Bool → Option R) (r : R), eqOk cs ds = true → eqK cs ds K = some r → ∃ b, eqA (cs.map A2.at) (ds.map A2.at) = some b ∧ K b = some r
  | [], ds, K, r, h, e => by
    cases ds with
    | nil => exact ⟨true, rfl, e⟩
    | cons d ds => simp [eqOk] at h
  | c :: cs, [], K, r, h, e => by cases c <;> simp [eqOk] at h
  | c :: cs, d :: ds, K, r, h, e => by
    unfold eqOk at h
    split at h
    · rename_i h1 h2; cases h1
    · rename_i k x r1 k2 y r2 h1 h2
      cases h1; cases h2
      split at h
      · rename_i hk
        have hk := of_decide_eq_true hk
        subst hk
        have tot : ∃ b, eqA (cs.map A2.at) (ds.map A2.at) = some b := by
          clear e
          revert h
          generalize cs = l
          generalize ds = m
          intro h
          induction l generalizing m with
          | nil =>
            cases m with
            | nil => exact ⟨true, rfl⟩
            | cons b m => simp [eqOk] at h
          | cons a l ih =>
            cases m with
            | nil => cases a <;> simp [eqOk] at h
            | cons b m =>
              unfold eqOk at h
              split at h
              · rename_i h1 h2; cases h1
              · rename_i k' x' r1 k2' y' r2 h1 h2
                cases h1; cases h2
                split at h
                · rename_i hk'
                  have hk' := of_decide_eq_true hk'
                  subst hk'
                  obtain ⟨b, hb⟩ := ih _ h
                  exact ⟨(x' == y' && b), by simp [A2.at, eqA, hb]⟩
                · cases h
              · cases h
        unfold eqK at e
        by_cases hxy : x = y
        · subst hxy
          rw [if_pos (by simp)] at e
          obtain ⟨b, b1, b2⟩ := eqK_at cs ds K r h e
          exact ⟨b, by simp [A2.at, eqA, b1], b2⟩
        · rw [if_neg (by simpa using hxy)] at e
          obtain ⟨b, hb⟩ := tot
          refine ⟨false, ?_, e⟩
          have : (x == y) = false := by simpa using hxy
          simp [A2.at, eqA, hb, this]
      · cases h
    · cases h
theorem eqG_at {R : Type} (op : BinOp) (ti : TI) (cs : List A2) (v : V2) (nx : Nat) (K : Eff2 → Option R) {r : R} (e : eqGK op ti cs v nx K = some r) : ∃ z : Eff2, K z = some r ∧ eqG op ti (cs.map A2.at) v.at nx = some z.at := by
  unfold eqGK at e
  split at e
  · rename_i fs ts ds hd
    split at e
    · rename_i hc
      split at e
      · rename_i ho
        obtain ⟨b, b1, b2⟩ := eqK_at _ _ _ _ ho e
        unfold eqG
        simp only [hd, V2.at]
        rw [if_pos ⟨hc.1, by simpa using hc.2⟩, b1, Option.bind_some]
        split at b2
        · exact ⟨_, b2, by simp [val, Eff2.at, nil_at, Sv2.at, V2.at, A2.at]⟩
        · exact ⟨_, b2, by simp [val, Eff2.at, nil_at, Sv2.at, V2.at, A2.at]⟩
        · cases b2
      · cases e
    · cases e
  · cases e
theorem idx_at {R : Type} : ∀ (i : Int) (cs : List A2) (K : A2 → Option R) {r : R}, idxK i cs K = some r → ∃ x, 0 ≤ i ∧ i < cs.length ∧ (cs.map A2.at)[i.toNat]? = some x.at ∧ K x = some r
  | i, [], K, r, e => by cases e
  | i, c :: cs, K, r, e => by
    unfold idxK at e
    split at e
    · rename_i h
      subst h
      exact ⟨c, by omega, by simp only [List.length_cons]; omega, by simp, e⟩
    · rename_i h
      obtain ⟨x, h1, h2, h3, h4⟩ := idx_at (i - 1) cs K e
      refine ⟨x, by omega, by simp only [List.length_cons]; omega, ?_, h4⟩
      have : i.toNat = (i - 1).toNat + 1 := by omega
      rw [this]
      simpa using h3
theorem stp_at (hC : COk CO callF) (hF : FrR fr2 fr) (o : Oper) : Snd (stpK c CO o fr2 mem nx) fun e => stp c callF o fr mem.at nx = some e.at := by
  intro K r e
  obtain ⟨dst, op, type, pos, after, guard⟩ := o
  have mv : ∀ x : Operand, ((ev2 fr2 x).bind fun v =>
      match v with
      | .v (.a (.snil ..)) => match tdOf c.T type with
        | some (.sl e) => (c.T e).bind fun te => val2 (.a (.snil te.size e)) nx K
        | _ => none
      | .u => none
      | v => K { v := v, upd := [], nn := nx, rd := [] }) = some r → ∃ z : Eff2, K z = some r ∧ ((ev fr x).bind fun v =>
    match v with
    | .v (.a (.snil ..)) => match tdOf c.T type with
      | some (.sl e) => (c.T e).bind fun te => val (.a (.snil te.size e)) nx
      | _ => none
    | .u => none
    | v => some { v := v, upd := [], nn := nx, rd := [] }) = some z.at := by
    intro x e
    simp only [Option.bind_eq_some_iff] at e
    obtain ⟨v, h1, e⟩ := e
    rw [hF.ev h1, Option.bind_some]
    split at e
    · split at e
      · rename_i htd
        simp only [Option.bind_eq_some_iff] at e
        obtain ⟨te, h2, e⟩ := e
        exact ⟨_, e, by simp [Sv2.at, V2.at, A2.at, htd, h2, val, Eff2.at, nil_at]⟩
      · cases e
    · cases e
    · rename_i h2 h3
      refine ⟨_, e, ?_⟩
      cases v with
      | u => exact absurd rfl h3
      | t vs => rfl
      | v y =>
        cases y with
        | g cs => rfl
        | a z =>
          cases z with
          | snil es ty => exact absurd rfl (h2 es ty)
          | _ => rfl
  cases op <;> simp only [stpK] at e <;> simp only [stp]
  case move x => exact mv x e
  case assign x => exact mv x e
  case pick k a b =>
    simp only [Option.bind_eq_some_iff] at e
    obtain ⟨t, h1, e⟩ := e
    rw [hF.evB h1, Option.bind_some]
    split at e
    · rename_i ht
      subst ht
      simp only [Option.bind_eq_some_iff] at e
      obtain ⟨x, h2, e⟩ := e
      exact ⟨_, e, by simp [hF.evA h2, val, Eff2.at, Sv2.at, V2.at, nil_at]⟩
    · rename_i ht
      simp only [Option.bind_eq_some_iff] at e
      obtain ⟨x, h2, e⟩ := e
      exact ⟨_, e, by simp [ht, hF.evA h2, val, Eff2.at, Sv2.at, V2.at, nil_at]⟩
  case alloc t =>
    simp only [Option.bind_eq_some_iff] at e
    obtain ⟨ti, h1, z, h2, e⟩ := e
    obtain ⟨q1, q2⟩ := zero_at h2
    split at e
    · rename_i hl
      refine ⟨_, e, ?_⟩
      rw [h1, Option.bind_some, if_neg (by have := hl.2; have := hl.1; omega)]
      simp [Eff2.at, nil_at, cons_at, oAt, Blk2.at, Bd.rows, Bd.ents, Sv2.at, V2.at, A2.at, q1]
    · cases e
  case box t x =>
    simp only [Option.bind_eq_some_iff] at e
    obtain ⟨ti, h1, v, h2, e⟩ := e
    split at e
    · rename_i hl
      refine ⟨_, e, ?_⟩
      rw [h1, Option.bind_some, hF.evV h2, Option.bind_some, cells_at, if_pos ⟨by simpa using hl.1, hl.2⟩]
      rw [all_pr]
      simp [Eff2.at, nil_at, cons_at, oAt, Blk2.at, Bd.rows, Bd.ents, Sv2.at, V2.at, A2.at]
    · cases e
  case build t parts =>
    simp only [Option.bind_eq_some_iff] at e
    obtain ⟨ti, h1, e⟩ := e
    rw [h1, Option.bind_some]
    split at e
    · rename_i fs ts hd
      simp only [Option.bind_eq_some_iff] at e
      obtain ⟨z, h2, e⟩ := e
      obtain ⟨q1, q2⟩ := zero_at h2
      split at e
      · rename_i hl
        simp only [Option.bind_eq_some_iff] at e
        obtain ⟨ps, h3, cs, h4, e⟩ := e
        refine ⟨_, e, ?_⟩
        have h4' := fillV_at h4
        rw [q1] at h4'
        simp only [hd]
        rw [if_neg (by omega), parts_at hF h3, Option.bind_some, h4', Option.bind_some]
        simp [val, Eff2.at, Sv2.at, V2.at, nil_at]
      · cases e
    · rename_i na el hd
      simp only [Option.bind_eq_some_iff] at e
      obtain ⟨te, h5, z, h2, e⟩ := e
      obtain ⟨q1, q2⟩ := zero_at h2
      split at e
      · rename_i hl
        simp only [Option.bind_eq_some_iff] at e
        obtain ⟨ps, h3, cs, h4, e⟩ := e
        refine ⟨_, e, ?_⟩
        have h4' := fillV_at h4
        rw [q1] at h4'
        simp only [hd]
        rw [h5, Option.bind_some, if_neg (by omega), parts_at hF h3, Option.bind_some, h4', Option.bind_some]
        simp [val, Eff2.at, Sv2.at, V2.at, nil_at]
      · cases e
    · cases e
  case buildSlice t len parts =>
    split at e
    · rename_i el htd
      simp only [Option.bind_eq_some_iff] at e
      obtain ⟨te, h1, z, h2, ps, h3, els0, h4, e⟩ := e
      obtain ⟨q1, q2⟩ := zero_at h2
      obtain ⟨els, e, hz⟩ := mapK_at (p := List.map A2.at) (q := List.map A2.at) (fun l => mapK_at (fun a => frzA_at mem a) l) els0 _ _ e
      split at e
      · rename_i hl
        refine ⟨_, e, ?_⟩
        have h4' := fillE_at h4
        rw [List.map_replicate, q1] at h4'
        simp only [htd]
        have hz' : frzE mem.at (els0.map fun e => e.map A2.at) = some (els.map fun e => e.map A2.at) := hz
        rw [h1, Option.bind_some, partsN_at hF h2 h3, Option.bind_some, h4', Option.bind_some, hz', Option.bind_some, if_pos ⟨hl.1, hl.2.1, hl.2.2.1, by omega⟩]
        simp [Eff2.at, nil_at, cons_at, app_at, oAt, Blk2.at, packB_rows, packB_ents, Sv2.at, V2.at, A2.at, fz_at, smnE_at]
        have := allall_pr els
        rw [List.all_map] at this
        simpa [Function.comp_def] using this
      · cases e
    · cases e
  case load t x =>
    simp only [Option.bind_eq_some_iff] at e
    obtain ⟨ti, h1, a, h2, e⟩ := e
    rw [h1, Option.bind_some, hF.evA h2, Option.bind_some]
    split at e
    · rename_i m i o
      simp only [Option.bind_eq_some_iff] at e
      obtain ⟨b, h3, e⟩ := e
      split at e
      · rename_i els hb
        simp only [Option.bind_eq_some_iff] at e
        obtain ⟨el, h4, v, h5, e⟩ := e
        refine ⟨_, e, ?_⟩
        simp [A2.at, mget_at, h3, Blk2.at, hb, Bd.rows, Bd.ents, h4, part_at h5, Eff2.at, nil_at, Sv2.at]
      · rename_i d l hb
        simp only [Option.bind_eq_some_iff] at e
        obtain ⟨el, h4, v, h5, e⟩ := e
        refine ⟨_, e, ?_⟩
        have h5' := part_at h5
        rw [cl_at] at h5'
        simp [A2.at, mget_at, h3, Blk2.at, hb, Bd.rows, Bd.ents, h4, h5', Eff2.at, nil_at, Sv2.at]
      · cases e
    · rename_i d el o
      simp only [Option.bind_eq_some_iff] at e
      obtain ⟨v, h5, e⟩ := e
      refine ⟨_, e, ?_⟩
      have h5' := part_at h5
      rw [cl_at] at h5'
      simp [A2.at, h5', val, Eff2.at, nil_at, Sv2.at]
    · cases e
  case store t x y =>
    simp only [Option.bind_eq_some_iff] at e
    obtain ⟨ti, h1, v, h2, a, h3, e⟩ := e
    rw [h1, Option.bind_some, hF.evV h2, Option.bind_some, hF.evA h3, Option.bind_some]
    split at e
    · rename_i m i o
      obtain ⟨q, e, hq⟩ := arF_at mem m v _ _ e
      simp only [frc, Option.bind_eq_some_iff] at e
      obtain ⟨b, h4, e⟩ := e
      have h4' : mget (updM mem.at (fzUpd mem.at q.2)) m = some b.at := by
        rw [← fz_at, ← upd_at, mget_at, h4]; rfl
      split at e
      · rename_i els hb
        simp only [Option.bind_eq_some_iff] at e
        obtain ⟨el, h5, e⟩ := e
        split at e
        · rename_i hl
          refine ⟨_, e, ?_⟩
          simp only [A2.at, hq, Option.bind_some, h4', Blk2.at, hb, Bd.rows, Bd.ents, List.getElem?_map, h5, Option.map_some, cells_at, List.length_map]
          rw [if_pos ⟨hl.1, hl.2.1, by simp [hl.2.2]⟩]
          simp [Eff2.at, nil_at, cons_at, app_at, fz_at, oAt, Blk2.at, Bd.rows, Bd.ents, Sv2.at, List.map_set, put_at, Function.comp_def, pr_at]
        · cases e
      · rename_i d l hb
        simp only [Option.bind_eq_some_iff] at e
        obtain ⟨el, h5, e⟩ := e
        split at e
        · rename_i hl
          simp only [Option.bind_eq_some_iff] at e
          obtain ⟨el', h6, e⟩ := e
          refine ⟨_, e, ?_⟩
          have h6' := dec_at h6
          rw [put_at, cl_at] at h6'
          have hlen : o + ti.size ≤ (d.at el).length := by have := hl.2.1; rwa [← List.length_map (f := A2.at), cl_at] at this
          simp only [A2.at, hq, Option.bind_some, h4', Blk2.at, hb, Bd.rows, Bd.ents, List.getElem?_map, h5, Option.map_some, cells_at, List.length_map]
          rw [if_pos ⟨hl.1, hlen, by simp [hl.2.2.1]⟩]
          simp [Eff2.at, nil_at, cons_at, app_at, fz_at, oAt, Blk2.at, Bd.rows, Bd.ents, Sv2.at, List.map_set, h6', Function.comp_def, pr_at]
        · cases e
      · cases e
    · cases e
  case nilCheck x =>
    simp only [Option.bind_eq_some_iff] at e
    obtain ⟨a, h1, e⟩ := e
    rw [hF.evA h1, Option.bind_some]
    split at e
    · exact ⟨_, e, by simp [A2.at, val, Eff2.at, nil_at, Sv2.at, V2.at]⟩
    · exact ⟨_, e, by simp [A2.at, val, Eff2.at, nil_at, Sv2.at, V2.at]⟩
    · cases e
  case binOp op ty x y u =>
    split at e
    · rename_i cs hg
      simp only [Option.bind_eq_some_iff] at e
      obtain ⟨ti, h1, v, h2, e⟩ := e
      rw [hF.gSome hg]
      simp only [h1, Option.bind_some, hF.evV h2]
      exact eqG_at op ti cs v nx K e
    simp only [Option.bind_eq_some_iff] at e
    obtain ⟨a, h1, b, h2, e⟩ := e
    obtain ⟨z, e, h3⟩ := bin_at c.T op ty a b _ _ e
    rw [hF.gNone h1]
    exact ⟨_, e, by simp [hF.evA h1, hF.evA h2, h3, valA, val, Eff2.at, nil_at, Sv2.at, V2.at]⟩
  case unOp op ty x =>
    simp only [Option.bind_eq_some_iff] at e
    obtain ⟨a, h1, e⟩ := e
    obtain ⟨z, e, h3⟩ := un_at op a _ _ e
    exact ⟨_, e, by simp [hF.evA h1, h3, valA, val, Eff2.at, nil_at, Sv2.at, V2.at]⟩
  case convert src ds x =>
    simp only [Option.bind_eq_some_iff] at e
    obtain ⟨a, h1, e⟩ := e
    rw [hF.evA h1, Option.bind_some]
    split at e
    · rename_i el ht1 ht2
      simp only [ht1, ht2]
      split at e
      · rename_i ht3
        obtain ⟨s, rd, e, h2⟩ := els_at _ _ _ _ _ e
        simp only [ht3, h2, Option.bind_some]
        split at e
        · refine ⟨_, e, ?_⟩
          simp [Src.rows, byteEls, Eff2.at, nil_at, Sv2.at, V2.at, A2.at]
        · rename_i l
          refine ⟨_, e, ?_⟩
          have key : ∀ l : List Int, byteEls (l.map (Cd.at (.int .u8))) = some (l.map fun n : Int => n.toNat.toUInt8) := by
            intro l
            induction l with
            | nil => rfl
            | cons x l ih =>
              simp only [List.map_cons]
              show (byteEls (l.map (Cd.at (.int .u8)))).bind _ = _
              rw [ih]
              rfl
          have key' := key l
          simp only [Src.rows, key', Option.bind_some, Eff2.at, nil_at, Sv2.at, V2.at, A2.at, List.map_nil]
        · cases e
      · cases e
    · rename_i hno
      obtain ⟨z, e, h3⟩ := conv_at c.T src ds a _ _ e
      refine ⟨_, e, ?_⟩
      split
      · rename_i el ht1 ht2; exact absurd ht2 (hno el ht1)
      · simp [h3, valA, val, Eff2.at, nil_at, Sv2.at, V2.at]
  case makeSlice t l k =>
    split at e
    · rename_i el htd
      simp only [Option.bind_eq_some_iff] at e
      obtain ⟨te, h1, z1, h2, z, h2', d, h3, z0, h4, l, h5, k, h6, e⟩ := e
      obtain ⟨q1, q2⟩ := fz0_at h2 h2'
      split at e
      · rename_i hs
        split at e
        · rename_i hb
          refine ⟨_, e, ?_⟩
          have h4' := dec_at h4
          rw [q1] at h4'
          simp only [htd]
          rw [h1, Option.bind_some, hF.evI h5, Option.bind_some, hF.evI h6, Option.bind_some, if_pos ⟨hb.1, hb.2.1, hb.2.2, hs.1, hs.2.1, by omega⟩]
          simp [Eff2.at, nil_at, cons_at, oAt, Blk2.at, Bd.rows, Bd.ents, Sv2.at, V2.at, A2.at, h4']
        · cases e
      · cases e
    · cases e
  case slice t x lo hi mx =>
    split at e
    · cases e
    · rename_i hmx
      rw [if_neg hmx]
      simp only [Option.bind_eq_some_iff] at e
      obtain ⟨td, h1, a, h2, e⟩ := e
      rw [h1, Option.bind_some, hF.evA h2, Option.bind_some]
      split at e
      · rename_i s
        simp only [Option.bind_eq_some_iff] at e
        obtain ⟨l, h3, h, h4, e⟩ := e
        split at e
        · rename_i hb
          refine ⟨_, e, ?_⟩
          simp only [A2.at, hF.bound h3, hF.bound h4, Option.bind_some]
          rw [if_pos hb]
          simp [val, Eff2.at, nil_at, Sv2.at, V2.at, A2.at]
        · cases e
      · rename_i el d els
        simp only [Option.bind_eq_some_iff] at e
        obtain ⟨te, h3, l, h4, h, h5, e⟩ := e
        split at e
        · rename_i hz
          split at e
          · rename_i hb
            refine ⟨_, e, ?_⟩
            simp only [A2.at, h3, hF.bound h4, hF.bound h5, Option.bind_some]
            rw [if_pos ⟨hb.1, hb.2.1, hb.2.2, hz⟩]
            simp only [val, Eff2.at, nil_at, Sv2.at, V2.at, A2.at, List.map_nil, List.map_take, List.map_drop, List.length_take, List.length_drop]
            rw [show min (h.toNat - l.toNat) (els.length - l.toNat) = h.toNat - l.toNat by omega]
          · cases e
        · cases e
      · rename_i el m b n
        simp only [Option.bind_eq_some_iff] at e
        obtain ⟨te, h3, B, h4, e⟩ := e
        split at e
        · rename_i d els hbd
          simp only [Option.bind_eq_some_iff] at e
          obtain ⟨l, h5, h, h6, e⟩ := e
          split at e
          · rename_i hz
            split at e
            · rename_i hb
              refine ⟨_, e, ?_⟩
              simp only [A2.at, h3, mget_at, h4, Option.map_some, hF.bound h5, hF.bound h6, Option.bind_some]
              rw [if_pos ⟨hb.1, hb.2.1, by simpa [Blk2.at, hbd, Bd.rows, Bd.ents] using hb.2.2.1, hb.2.2.2, hz.1, hz.2⟩]
              simp [Eff2.at, nil_at, Sv2.at, V2.at, A2.at]
            · cases e
          · cases e
        · rename_i els hbd
          simp only [Option.bind_eq_some_iff] at e
          obtain ⟨l, h5, h, h6, e⟩ := e
          split at e
          · rename_i hz
            split at e
            · rename_i hb
              refine ⟨_, e, ?_⟩
              simp only [A2.at, h3, mget_at, h4, Option.map_some, hF.bound h5, hF.bound h6, Option.bind_some]
              rw [if_pos ⟨hb.1, hb.2.1, by simpa [Blk2.at, hbd, Bd.rows, Bd.ents] using hb.2.2.1, hb.2.2.2, hz.1, hz.2⟩]
              simp [Eff2.at, nil_at, Sv2.at, V2.at, A2.at]
            · cases e
          · cases e
        · cases e
      · cases e
  case fieldAddr s x f =>
    split at e
    · rename_i fs ts htd
      simp only [htd]
      simp only [Option.bind_eq_some_iff] at e
      obtain ⟨p, h1, e⟩ := e
      rw [h1, Option.bind_some]
      split at e
      · cases e
      · rename_i h0
        rw [if_neg h0]
        simp only [Option.bind_eq_some_iff] at e
        obtain ⟨a, h2, e⟩ := e
        rw [hF.evA h2, Option.bind_some]
        split at e
        · exact ⟨_, e, by simp [A2.at, val, Eff2.at, nil_at, Sv2.at, V2.at]⟩
        · exact ⟨_, e, by simp [A2.at, val, Eff2.at, nil_at, Sv2.at, V2.at]⟩
        · cases e
    · cases e
  case field s x f =>
    split at e
    · rename_i fs ts htd
      simp only [htd]
      simp only [Option.bind_eq_some_iff] at e
      obtain ⟨p, h1, ft, h2, v, h3, e⟩ := e
      rw [h1, Option.bind_some, h2, Option.bind_some, hF.evV h3, Option.bind_some]
      split at e
      · simp only [Option.bind_eq_some_iff] at e
        obtain ⟨ti, h4, v', h5, e⟩ := e
        refine ⟨_, e, ?_⟩
        simp [V2.at, h4, part_at h5, val, Eff2.at, nil_at, Sv2.at]
      · cases e
    · cases e
  case indexAddr t x i =>
    split at e
    · rename_i el htd
      simp only [Option.bind_eq_some_iff] at e
      obtain ⟨te, h1, i, h2, a, h3, e⟩ := e
      simp only [htd]
      rw [h1, Option.bind_some, hF.evI h2, Option.bind_some, hF.evA h3, Option.bind_some]
      split at e
      · rename_i d els
        split at e
        · rename_i hz
          split at e
          · rename_i h0
            simp only [Option.bind_eq_some_iff] at e
            obtain ⟨y, h4, e⟩ := e
            refine ⟨_, e, ?_⟩
            have hlt : i.toNat < els.length := (List.getElem?_eq_some_iff.1 h4).1
            simp only [A2.at]
            rw [if_pos ⟨h0, by omega, hz⟩]
            simp [h4, val, Eff2.at, nil_at, Sv2.at, V2.at, A2.at]
          · cases e
        · cases e
      · rename_i m b n
        simp only [Option.bind_eq_some_iff] at e
        obtain ⟨B, h4, e⟩ := e
        split at e
        · rename_i hz
          split at e
          · rename_i hb
            refine ⟨_, e, ?_⟩
            simp only [A2.at, mget_at, h4, Option.map_some, Option.bind_some]
            rw [if_pos ⟨hb.1, hb.2, hz⟩]
            simp [Eff2.at, nil_at, Sv2.at, V2.at, A2.at]
          · cases e
        · cases e
      · cases e
    · cases e
  case index t x i =>
    split at e
    · rename_i cs hg
      simp only [Option.bind_eq_some_iff] at e
      obtain ⟨ti, h1, i, h2, e⟩ := e
      rw [hF.gSome hg]
      simp only [h1, Option.bind_some, hF.evI h2]
      split at e
      · rename_i n el hd
        simp only [Option.bind_eq_some_iff] at e
        obtain ⟨te, h3, e⟩ := e
        split at e
        · rename_i hc
          obtain ⟨x, q1, q2, q3, e⟩ := idx_at _ _ _ e
          refine ⟨_, e, ?_⟩
          simp only [hd, h3, Option.bind_some]
          rw [if_pos ⟨hc.1, hc.2.1, q1, by omega⟩]
          simp [q3, val, Eff2.at, nil_at, Sv2.at, V2.at]
        · cases e
      · cases e
    simp only [Option.bind_eq_some_iff] at e
    obtain ⟨td, h1, a, h2, i, h3, e⟩ := e
    rw [hF.gNone h2]
    simp only
    rw [h1, Option.bind_some, hF.evA h2, Option.bind_some, hF.evI h3, Option.bind_some]
    split at e
    · rename_i s
      split at e
      · rename_i h0
        simp only [Option.bind_eq_some_iff] at e
        obtain ⟨b, h4, e⟩ := e
        refine ⟨_, e, ?_⟩
        simp only [A2.at]
        rw [if_pos h0, h4]
        simp [val, Eff2.at, nil_at, Sv2.at, V2.at, A2.at]
      · cases e
    · cases e
  case extract x i =>
    simp only [Option.bind_eq_some_iff] at e
    obtain ⟨v, h1, e⟩ := e
    rw [hF.ev h1, Option.bind_some]
    split at e
    · simp only [Option.bind_eq_some_iff] at e
      obtain ⟨y, h2, e⟩ := e
      refine ⟨_, e, ?_⟩
      simp [Sv2.at, h2, val, Eff2.at, nil_at]
    · cases e
  case call k =>
    obtain ⟨callee, args, argTypes⟩ := k
    cases callee with
    | builtin bi =>
      cases bi <;> try simp only [] at e ⊢
      case len =>
        obtain ⟨td, h1, e⟩ := Option.bind_eq_some_iff.1 e
        obtain ⟨a, h2, e⟩ := Option.bind_eq_some_iff.1 e
        obtain ⟨o, h3, h4⟩ := Option.bind_eq_some_iff.1 h2
        try simp only [] at h1 h3
        rw [h1, Option.bind_some, h3, Option.bind_some, hF.evA h4, Option.bind_some]
        split at e
        all_goals first | exact ⟨_, e, by simp [A2.at, val, Eff2.at, nil_at, Sv2.at, V2.at]⟩ | skip
        · obtain ⟨b, h5, e⟩ := Option.bind_eq_some_iff.1 e
          split at e
          · rename_i hbd
            exact ⟨_, e, by simp [A2.at, mget_at, h5, Blk2.at, hbd, Bd.ents, Eff2.at, nil_at, Sv2.at, V2.at]⟩
          · cases e
        · cases e
      case min =>
        obtain ⟨x, h1, e⟩ := Option.bind_eq_some_iff.1 e
        obtain ⟨y, h2, e⟩ := Option.bind_eq_some_iff.1 e
        obtain ⟨o3, h3, h3'⟩ := Option.bind_eq_some_iff.1 h1
        obtain ⟨o4, h4, h4'⟩ := Option.bind_eq_some_iff.1 h2
        try simp only [] at h3 h4
        rw [h3, Option.bind_some, hF.evA h3', Option.bind_some, h4, Option.bind_some, hF.evA h4', Option.bind_some]
        split at e
        · rename_i hq
          rw [if_pos hq]
          cases x <;> cases y <;> first | (cases e; done) | exact ⟨_, e, by simp [minA, A2.at, val, Eff2.at, nil_at, Sv2.at, V2.at]⟩
        · cases e
      case max =>
        obtain ⟨x, h1, e⟩ := Option.bind_eq_some_iff.1 e
        obtain ⟨y, h2, e⟩ := Option.bind_eq_some_iff.1 e
        obtain ⟨o3, h3, h3'⟩ := Option.bind_eq_some_iff.1 h1
        obtain ⟨o4, h4, h4'⟩ := Option.bind_eq_some_iff.1 h2
        try simp only [] at h3 h4
        rw [h3, Option.bind_some, hF.evA h3', Option.bind_some, h4, Option.bind_some, hF.evA h4', Option.bind_some]
        split at e
        · rename_i hq
          rw [if_pos hq]
          cases x <;> cases y <;> first | (cases e; done) | exact ⟨_, e, by simp [maxA, A2.at, val, Eff2.at, nil_at, Sv2.at, V2.at]⟩
        · cases e
      case clear =>
        obtain ⟨t, h1, e⟩ := Option.bind_eq_some_iff.1 e
        obtain ⟨a, h2, e⟩ := Option.bind_eq_some_iff.1 e
        obtain ⟨o3, h3, h3'⟩ := Option.bind_eq_some_iff.1 h2
        try simp only [] at h1 h3
        rw [h1, Option.bind_some, h3, Option.bind_some, hF.evA h3', Option.bind_some]
        exact clear_at _ _ _ _ _ _ e
      case append =>
        obtain ⟨t, h1, e⟩ := Option.bind_eq_some_iff.1 e
        obtain ⟨t', h2, e⟩ := Option.bind_eq_some_iff.1 e
        obtain ⟨s, h3, e⟩ := Option.bind_eq_some_iff.1 e
        obtain ⟨x, h4, e⟩ := Option.bind_eq_some_iff.1 e
        obtain ⟨o3, h3, h3'⟩ := Option.bind_eq_some_iff.1 h3
        obtain ⟨o4, h4, h4'⟩ := Option.bind_eq_some_iff.1 h4
        rw [h1, Option.bind_some, h2, Option.bind_some, h3, Option.bind_some, hF.evA h3', Option.bind_some, h4, Option.bind_some, hF.evA h4', Option.bind_some]
        split at e
        · rename_i ht
          rw [if_pos ht]
          exact appK_at _ _ _ _ _ _ _ e
        · cases e
      all_goals cases e
    | value f =>
      simp only [] at e ⊢
      obtain ⟨a, h1, e⟩ := Option.bind_eq_some_iff.1 e
      rw [hF.evA h1, Option.bind_some]
      split at e
      · rename_i g cs
        obtain ⟨zs, h2, e⟩ := Option.bind_eq_some_iff.1 e
        obtain ⟨z, e, h3⟩ := call_at hC _ _ _ _ _ _ e
        refine ⟨z, e, ?_⟩
        simp only [A2.at]
        have h2' := mapO_at (p := id) (q := V2.at) (f := evV2 fr2) (g := evV fr) (fun x y h => hF.evV h) h2
        rw [List.map_id] at h2'
        rw [h2', Option.bind_some]
        have hc : (cs.flatMap fun p => (p.1.cl p.2).map V2.a).map V2.at = (cs.flatMap fun p => p.1.at p.2).map Vl.a := by
          rw [List.map_flatMap, List.map_flatMap]
          congr 1; funext p
          rw [← cl_at, List.map_map, List.map_map]
          rfl
        rw [List.map_append, hc] at h3
        exact h3
      · cases e
    | invoke => cases e
  case makeMap t r =>
    split at e
    · rename_i hr
      rw [if_pos hr]
      split at e
      · simp only [Option.bind_eq_some_iff] at e
        obtain ⟨kc, h1, vc, h2, e⟩ := e
        exact ⟨_, e, by simp [Eff2.at, nil_at, cons_at, oAt, Blk2.at, Bd.rows, Bd.ents, Sv2.at, V2.at, A2.at]⟩
      · cases e
    · cases e
  case lookup t x k ok =>
    simp only [Option.bind_eq_some_iff] at e
    obtain ⟨a, h1, key, h2, e⟩ := e
    obtain ⟨z, e, hz⟩ := mlook_at t a key ok mem nx _ _ e
    exact ⟨z, e, by rw [hF.evA h1, Option.bind_some, hF.evA h2, Option.bind_some]; exact hz⟩
  case mapUpdate t x k y =>
    simp only [Option.bind_eq_some_iff] at e
    obtain ⟨a, h1, key, h2, v, h3, e⟩ := e
    obtain ⟨z, e, hz⟩ := mput_at t a key v mem nx _ _ e
    exact ⟨z, e, by rw [hF.evA h1, Option.bind_some, hF.evA h2, Option.bind_some, hF.evA h3, Option.bind_some]; exact hz⟩
  case insert t x k y =>
    simp only [Option.bind_eq_some_iff] at e
    obtain ⟨a, h1, key, h2, v, h3, e⟩ := e
    obtain ⟨z, e, hz⟩ := mput_at t a key v mem nx _ _ e
    exact ⟨z, e, by rw [hF.evA h1, Option.bind_some, hF.evA h2, Option.bind_some, hF.evA h3, Option.bind_some]; exact hz⟩
  case makeFunc fn first cs =>
    split at e
    · rename_i hf
      rw [if_pos hf]
      split at e
      · rename_i f
        simp only [Option.bind_eq_some_iff] at e
        obtain ⟨xs, h1, ps, h2, e⟩ := e
        refine ⟨_, e, ?_⟩
        have h1' := mapO_at (p := id) (q := A2.at) (f := evA2 fr2) (g := evA fr) (fun x y h => hF.evA h) h1
        rw [List.map_id] at h1'
        obtain ⟨ys, q0, q1, q2⟩ := capKs_at h2
        simp only [h1', q0, Option.bind_some]
        simp [Eff2.at, Sv2.at, V2.at, A2.at, q1, q2, fz_at]
      · cases e
    · cases e
  all_goals cases e
end
end Go.Proofs.YtlnailgfialgnaaGreatDoor.Am

/- What the typed machine says the abstract machine says: code, loops' heads, functions. -/
set_option linter.unusedVariables false
set_option linter.unusedSimpArgs false
namespace Go.Proofs.YtlnailgfialgnaaGreatDoor.Am
open Go

structure StR (σ2 : St2) (σ : St) : Prop where
  fr : FrR σ2.fr σ.fr
  mem : σ.mem = σ2.mem.at
  nx : σ.nx = σ2.nx
def OutR : Out2 → Out → Prop
  | .norm σ2, .norm σ => StR σ2 σ
  | .exit i σ2, .exit j σ => i = j ∧ StR σ2 σ
  | .ret σ2, .ret σ => StR σ2 σ
  | _, _ => False
/-- All loops of a code, but for those within others. -/
def LAll (Q : Nat → Code → Prop) : Nat → Code → Prop
  | b, .seq x y => LAll Q b x ∧ LAll Q b y
  | b, .cond _ x y => LAll Q b x ∧ LAll Q b y
  | _, .block id x => LAll Q id x
  | b, .loop x => Q b x
  | _, _ => True

section
variable {R : Type} {c : Cfg} {callF : FuncId → List Vl → List Blk → Option (List Vl × List Blk)} {CO : FuncId → List V2 → List Blk2 → (List V2 × List Blk2 → Option R) → Option R}
  {LO : Nat → Code → St2 → (Out2 → Option R) → Option R} {σ2 : St2} {σ : St} {nt : Nat} {ops : List Oper}

theorem putK_at {d : Option Nat} {v : Sv2} {fr2 : List (Nat × Sv2)} {fr : List (Nat × Sv)} (hF : FrR fr2 fr) {K : List (Nat × Sv2) → Option R} {r : R} (e : putK2 nt d v fr2 K = some r) :
    ∃ fr2', K fr2' = some r ∧ ∃ fr', putD nt fr d v.at = some fr' ∧ FrR fr2' fr' := by
  cases d with
  | none => exact ⟨_, e, fr, rfl, hF⟩
  | some d =>
    simp only [putK2] at e
    split at e
    · rename_i h; exact ⟨_, e, _, by simp only [putD]; rw [if_pos h], hF.cons d v⟩
    · cases e

theorem did_at (hC : COk CO callF) (hs : StR σ2 σ) (o : Oper) (is : List Info) (F : St → List Info → Option (St × List Info)) {K : St2 → List Info → Option R} {r : R} (e : didK2 c CO nt o σ2 is K = some r) :
    ∃ σ2' is', K σ2' is' = some r ∧ ∃ σ', didK F nt o σ is (stp c callF o σ.fr σ.mem σ.nx) = F σ' is' ∧ StR σ2' σ' := by
  unfold didK2 at e
  obtain ⟨ef, e, h1⟩ := stp_at hC hs.fr o _ _ e
  obtain ⟨fr2', e, fr', h2, h3⟩ := putK_at hs.fr e
  refine ⟨_, _, e, { fr := fr', mem := updM σ.mem ef.at.upd, nx := ef.at.nn }, ?_, ⟨h3, ?_, rfl⟩⟩
  · rw [hs.mem, hs.nx, h1]
    simp only [didK]
    rw [show ef.at.v = ef.v.at from rfl, h2]
    simp only [putK, hs.mem]
    congr 2
    simp [Eff2.at, keys_at]
  · simp [Eff2.at, hs.mem, upd_at]
theorem skip_at (hs : StR σ2 σ) (o : Oper) (is : List Info) (F : St → List Info → Option (St × List Info)) {K : St2 → List Info → Option R} {r : R} (e : skipK2 nt o σ2 is K = some r) :
    ∃ σ2' is', K σ2' is' = some r ∧ ∃ σ', putK F σ.mem σ.nx { rd := [], wr := [] } is (putD nt σ.fr o.dst .u) = F σ' is' ∧ StR σ2' σ' := by
  unfold skipK2 at e
  obtain ⟨fr2', e, fr', h2, h3⟩ := putK_at hs.fr e
  refine ⟨_, _, e, { fr := fr', mem := σ.mem, nx := σ.nx }, ?_, ⟨h3, hs.mem, hs.nx⟩⟩
  rw [show Sv2.at .u = Sv.u from rfl] at h2
  rw [h2]; rfl
theorem know_at (hs : StR σ2 σ) {d : Nat} {b b' : Bool} (hl : lk σ2.fr d = some (.v (.a (.bool b)))) (hb : b = b') : StR (know d b' σ2) σ :=
  ⟨hs.fr.know hl hb, hs.mem, hs.nx⟩

theorem ops_at (hC : COk CO callF) : ∀ (l : List Oper) (σ2 : St2) (σ : St) (is : List Info) (K : St2 → List Info → Option R) (r : R), StR σ2 σ → runOps2 c CO nt ops l σ2 is K = some r →
    ∃ σ2' is', K σ2' is' = some r ∧ ∃ σ', runOps c callF nt ops l σ is = some (σ', is') ∧ StR σ2' σ' := by
  intro l
  induction l with
  | nil => intro σ2 σ is K r hs e; exact ⟨_, _, e, σ, rfl, hs⟩
  | cons o l ih =>
    intro σ2 σ is K r hs e
    simp only [runOps2] at e
    unfold wantK2 at e
    have hrun : runOps c callF nt ops (o :: l) σ is = wantK c callF (runOps c callF nt ops l) nt o σ is (wantO ops o σ.fr) := rfl
    split at e
    · rename_i hg
      obtain ⟨σ2', is', e, σ', h1, h2⟩ := did_at hC hs o is (runOps c callF nt ops l) e
      obtain ⟨σ2'', is'', e, σ'', h3, h4⟩ := ih _ _ _ _ _ h2 e
      refine ⟨_, _, e, σ'', ?_, h4⟩
      rw [hrun, wantO, hg]
      simp only [wantK, h1, h3]
    · rename_i j want hg
      simp only [Option.bind_eq_some_iff] at e
      obtain ⟨d, hd, v, hv, e⟩ := e
      have hv' := hs.fr d v hv
      have hd' : (ops[j]?.bind fun x => x.dst) = some d := Option.bind_eq_some_iff.2 hd
      split at e
      · rename_i b
        split at e
        · rename_i hb
          obtain ⟨σ2', is', e, σ', h1, h2⟩ := did_at hC (know_at hs hv hb) o is (runOps c callF nt ops l) e
          obtain ⟨σ2'', is'', e, σ'', h3, h4⟩ := ih _ _ _ _ _ h2 e
          refine ⟨_, _, e, σ'', ?_, h4⟩
          rw [hrun, wantO, hg]
          simp only [hd', Option.bind_some, hv', Sv2.at, V2.at, A2.at, hb, beq_self_eq_true, wantK, h1, h3]
        · rename_i hb
          obtain ⟨σ2', is', e, σ', h1, h2⟩ := skip_at (know_at hs hv (by cases b <;> cases want <;> simp_all)) o is (runOps c callF nt ops l) e
          obtain ⟨σ2'', is'', e, σ'', h3, h4⟩ := ih _ _ _ _ _ h2 e
          refine ⟨_, _, e, σ'', ?_, h4⟩
          have hb' : (b == want) = false := by simpa using hb
          rw [hrun, wantO, hg]
          simp only [hd', Option.bind_some, hv', Sv2.at, V2.at, A2.at, hb', wantK, h1, h3]
      · rename_i hno
        obtain ⟨σ2', is', e, σ', h1, h2⟩ := skip_at hs o is (runOps c callF nt ops l) e
        obtain ⟨σ2'', is'', e, σ'', h3, h4⟩ := ih _ _ _ _ _ h2 e
        refine ⟨_, _, e, σ'', ?_, h4⟩
        have hw : wantO ops o σ.fr = some false := by
          rw [wantO, hg]
          simp only [hd', Option.bind_some, hv']
          cases v with
          | u => rfl
          | t vs => rfl
          | v y => cases y with
            | g cs => rfl
            | a z => cases z <;> first | rfl | exact absurd rfl (hno _)
        rw [hrun, hw]
        simp only [wantK, h1, h3]

variable {kp : Nat → List Kp} {k p : Nat}
/-- A loop's word is the abstract machine's. -/
def LOk (LO : Nat → Code → St2 → (Out2 → Option R) → Option R) (c : Cfg) (callF : FuncId → List Vl → List Blk → Option (List Vl × List Blk)) (kp : Nat → List Kp) (nt k p : Nat) (b : Nat) (x : Code) : Prop :=
  ∀ σ2 σ, StR σ2 σ → Snd (LO b x σ2) fun o2 => ∃ o, loopN (headN p (kp b)) (runC c callF kp nt k p b x) k σ = some o ∧ OutR o2 o

theorem run_at (hC : COk CO callF) : ∀ (x : Code) (b : Nat) (σ2 : St2) (σ : St), LAll (LOk LO c callF kp nt k p) b x → StR σ2 σ →
    Snd (run2 c CO LO nt b x σ2) fun o2 => ∃ o, runC c callF kp nt k p b x σ = some o ∧ OutR o2 o := by
  intro x
  induction x with
  | skip => intro b σ2 σ hL hs K r e; exact ⟨_, e, _, rfl, hs⟩
  | region id ops draw =>
    intro b σ2 σ hL hs K r e
    simp only [run2] at e
    obtain ⟨σ2', is', e, σ', h1, h2⟩ := ops_at hC _ _ _ _ _ _ hs e
    split at e
    · cases e
    · rename_i hd
      refine ⟨_, e, .norm σ', ?_, h2⟩
      simp only [runC, h1, regK]
      rw [if_neg (by simpa using hd)]
  | seq x y ihx ihy =>
    intro b σ2 σ hL hs K r e
    simp only [run2] at e
    obtain ⟨o2, e, o, h1, h2⟩ := ihx b _ _ hL.1 hs _ _ e
    cases o2 with
    | norm σ2' =>
      cases o <;> simp only [OutR] at h2
      rename_i σ'
      obtain ⟨o2, e, o, h3, h4⟩ := ihy b _ _ hL.2 h2 _ _ e
      exact ⟨o2, e, o, by simp only [runC, h1, seqK, h3], h4⟩
    | exit i σ2' =>
      refine ⟨_, e, o, ?_, h2⟩
      cases o <;> simp only [OutR] at h2
      simp only [runC, h1, seqK]
    | ret σ2' =>
      refine ⟨_, e, o, ?_, h2⟩
      cases o <;> simp only [OutR] at h2
      simp only [runC, h1, seqK]
  | cond o x y ihx ihy =>
    intro b σ2 σ hL hs K r e
    have gen : ((evB2 σ2.fr o).bind fun q => if q = true then run2 c CO LO nt b x σ2 K else run2 c CO LO nt b y σ2 K) = some r →
        ∃ o2, K o2 = some r ∧ ∃ out, runC c callF kp nt k p b (.cond o x y) σ = some out ∧ OutR o2 out := by
      intro e
      simp only [Option.bind_eq_some_iff] at e
      obtain ⟨q, hq, e⟩ := e
      split at e
      · rename_i hb
        subst hb
        obtain ⟨o2, e, o', h3, h4⟩ := ihx b _ _ hL.1 hs _ _ e
        exact ⟨o2, e, o', by simp only [runC, hs.fr.evB hq, cndK, h3], h4⟩
      · rename_i hb
        obtain ⟨o2, e, o', h3, h4⟩ := ihy b _ _ hL.2 hs _ _ e
        exact ⟨o2, e, o', by simp only [runC, hs.fr.evB hq, (show q = false by simpa using hb), cndK, h3], h4⟩
    cases o with
    | tmp t =>
      simp only [run2, Option.bind_eq_some_iff] at e
      obtain ⟨v, hv, e⟩ := e
      have hv' := hs.fr t v hv
      split at e
      · rename_i q
        have hq : evB σ.fr (.tmp t) = some q := by simp [evB, evA, ev, hv', Sv2.at, V2.at, A2.at, svA, asB]
        split at e
        · rename_i hb
          obtain ⟨o2, e, o', h3, h4⟩ := ihx b _ _ hL.1 (know_at hs hv hb) _ _ e
          exact ⟨o2, e, o', by simp only [runC, hq, hb, cndK, h3], h4⟩
        · rename_i hb
          have hb' : q = false := by simpa using hb
          obtain ⟨o2, e, o', h3, h4⟩ := ihy b _ _ hL.2 (know_at hs hv hb') _ _ e
          exact ⟨o2, e, o', by simp only [runC, hq, hb', cndK, h3], h4⟩
      · cases e
    | const v => exact gen (by simpa only [run2] using e)
    | func f => exact gen (by simpa only [run2] using e)
    | global g => exact gen (by simpa only [run2] using e)
  | block id x ih =>
    intro b σ2 σ hL hs K r e
    simp only [run2] at e
    obtain ⟨o2, e, o, h1, h2⟩ := ih id _ _ hL hs _ _ e
    cases o2 with
    | norm σ2' =>
      refine ⟨_, e, o, ?_, h2⟩
      cases o <;> simp only [OutR] at h2
      simp only [runC, h1, blkK]
    | exit i σ2' =>
      cases o <;> simp only [OutR] at h2
      rename_i j σ'
      obtain ⟨rfl, h2⟩ := h2
      simp only [] at e
      split at e
      · rename_i hi
        exact ⟨_, e, .norm σ', by simp only [runC, h1, blkK]; rw [if_pos hi], h2⟩
      · rename_i hi
        exact ⟨_, e, .exit i σ', by simp only [runC, h1, blkK]; rw [if_neg hi], rfl, h2⟩
    | ret σ2' =>
      refine ⟨_, e, o, ?_, h2⟩
      cases o <;> simp only [OutR] at h2
      simp only [runC, h1, blkK]
  | loop x ih => intro b σ2 σ hL hs K r e; exact hL σ2 σ hs K r e
  | exit id => intro b σ2 σ hL hs K r e; exact ⟨_, e, _, rfl, rfl, hs⟩
  | ret => intro b σ2 σ hL hs K r e; exact ⟨_, e, _, rfl, hs⟩
  | _ => intro b σ2 σ hL hs K r e; cases e

theorem own_at (T : TypeId → Option TI) (nx : Nat) (a : A2) : ownA nx a.at = ((ownA2 T nx a).1.at, (ownA2 T nx a).2.1.at, (ownA2 T nx a).2.2) := by
  cases a <;> try rfl
  case snil es ty =>
    simp only [A2.at, ownA, ownA2, Mem2.at, List.map_cons, List.map_nil, oAt, Option.map_some, Blk2.at]
    split <;> rfl
theorem ownL_at (T : TypeId → Option TI) : ∀ (cs : List A2) (nx : Nat), ownL nx (cs.map A2.at) = ((ownL2 T nx cs).1.map A2.at, (ownL2 T nx cs).2.1.at, (ownL2 T nx cs).2.2) := by
  intro cs
  induction cs with
  | nil => intro nx; rfl
  | cons a cs ih =>
    intro nx
    simp only [List.map_cons, ownL, own_at T, ih, ownL2, app_at]
theorem keep_at (hs : StR σ2 σ) : ∀ (ks : List Kp) (q : List (Nat × V2) × Mem2 × Nat), keepL2 c.T σ2 ks = some q → keepL σ ks = some (q.1.map (fun p => (p.1, Sv.v p.2.at)), q.2.1.at, q.2.2) := by
  intro ks
  induction ks with
  | nil => intro q e; cases e; simp [keepL, hs.nx, Mem2.at]
  | cons kk ks ih =>
    intro q e
    cases kk with
    | s t =>
      simp only [keepL2, Option.bind_eq_some_iff] at e
      obtain ⟨q0, h1, e⟩ := e
      simp only [keepL, ih _ h1, Option.bind_some]
      split at e
      · rename_i x hx
        cases e
        simp only [hs.fr _ _ hx, Sv2.at, V2.at, own_at c.T, app_at, List.map_cons]
      · rename_i cs hx
        cases e
        simp only [hs.fr _ _ hx, Sv2.at, V2.at, ownL_at c.T, app_at, List.map_cons]
      · cases e
    | b t =>
      simp only [keepL2, Option.bind_eq_some_iff] at e
      obtain ⟨q0, h1, e⟩ := e
      simp only [keepL, ih _ h1, Option.bind_some]
      split at e
      · rename_i m o hx
        simp only [Option.bind_eq_some_iff] at e
        obtain ⟨b, h2, e⟩ := e
        split at e
        · rename_i el hb
          cases e
          simp only [hs.fr _ _ hx, Sv2.at, V2.at, A2.at, hs.mem, ← upd_at, mget_at, h2, Option.map_some, Option.bind_some, Blk2.at, hb, Bd.rows, Bd.ents, List.map_cons, List.map_nil, ownL_at c.T, app_at, cons_at, oAt, all_pr, nil_at]
        · cases e
      · cases e
theorem renS_at {ρ : Nat → Option Nat} : ∀ {l : List (Nat × V2)} {s : List (Nat × Sv2)}, renS2 ρ l = some s → renS ρ (l.map fun p => (p.1, Sv.v p.2.at)) = some (s.map fun p => (p.1, p.2.at)) := by
  intro l
  induction l with
  | nil => intro s e; cases e; rfl
  | cons q l ih =>
    intro s e
    simp only [renS2, Option.bind_eq_some_iff] at e
    obtain ⟨y, h1, r, h2, e⟩ := e
    cases e
    simp only [List.map_cons, renS, renV_at h1, ih h2, Option.bind_some, Sv2.at]
theorem lk_map {β γ : Type} (g : β → γ) (l : List (Nat × β)) (t : Nat) : lk (l.map fun p => (p.1, g p.2)) t = (lk l t).map g := by
  induction l with
  | nil => rfl
  | cons p l ih =>
    simp only [List.map_cons, lk]
    split
    · rfl
    · exact ih
def vOf : Sv → Option Vl
  | .v x => some x
  | _ => none
def headB (p : Nat) (mem : Mem) (fr0 : List (Nat × Sv)) (N : List Nat) : Option St :=
  (renS (idx N) fr0).bind fun fr =>
  (mapO (fun m => (mget mem m).bind (renB (idx N))) N).bind fun bs =>
  if N.take p = List.range p then some { fr := fr, mem := zipU (List.range N.length) bs, nx := N.length } else none
theorem headN_eq (p : Nat) (ks : List Kp) (σ : St) : headN p ks σ = (keepL σ ks).bind fun q => headB p (updM σ.mem q.2.1) q.1 (clo (namesM (updM σ.mem q.2.1)) 64 (List.range p ++ namesV (q.1.filterMap fun s => vOf s.2)) []) := rfl
theorem head_at (hs : StR σ2 σ) {ks : List Kp} {S2 : St2} (e : head2 c.T p ks σ2 = some S2) : ∃ S, headN p ks σ = some S ∧ StR S2 S := by
  unfold head2 at e
  simp only [Option.bind_eq_some_iff] at e
  obtain ⟨q, h1, fr, h2, bs, h3, e⟩ := e
  generalize hN : clo (names2 A2.nm (upd2 σ2.mem q.2.1)) 64 (List.range p ++ namesV2 A2.nm (q.1.map (·.2))) [] = N at h2 h3 e
  split at e
  · rename_i hp
    cases e
    have h3' := mapO_at (p := id) (q := Blk2.at) (g := fun m => (mget (upd2 σ2.mem q.2.1).at m).bind (renB (idx N))) (fun m b h => by
      simp only [Option.bind_eq_some_iff] at h
      obtain ⟨b0, h4, h5⟩ := h
      simp only [id_eq, mget_at, h4, Option.map_some, Option.bind_some]
      exact renB_at h5) h3
    rw [List.map_id] at h3'
    have hfm : ∀ l : List (Nat × V2), List.filterMap (fun s : Nat × Sv => vOf s.2) (l.map fun p => (p.1, Sv.v p.2.at)) = (l.map (·.2)).map V2.at := by
      intro l
      induction l with
      | nil => rfl
      | cons a l ih => rw [List.map_cons, List.filterMap_cons, List.map_cons, List.map_cons, ← ih]; rfl
    refine ⟨{ fr := fr.map fun p => (p.1, p.2.at), mem := zipU (List.range N.length) (bs.map Blk2.at), nx := N.length }, ?_, ⟨?_, ?_, rfl⟩⟩
    · rw [headN_eq, keep_at hs _ _ h1]
      simp only [Option.bind_some, hs.mem, ← upd_at, namesM_at, hfm, namesV_at, hN]
      simp only [headB, renS_at h2, h3', Option.bind_some]
      rw [if_pos hp]
    · intro t v h
      rw [lk_map, h]; rfl
    · exact (zip_at _ _).symm
  · cases e
end
end Go.Proofs.YtlnailgfialgnaaGreatDoor.Am

/- Functions and loops by their shapes: what a printed function says, the abstract machine says. -/
set_option linter.unusedVariables false
set_option linter.unusedSimpArgs false
namespace Go.Proofs.YtlnailgfialgnaaGreatDoor.Am
open Go

section
variable {R : Type} {c : Cfg} {callF : FuncId → List Vl → List Blk → Option (List Vl × List Blk)} {CO : FuncId → List V2 → List Blk2 → (List V2 × List Blk2 → Option R) → Option R}
  {LO : Nat → Code → St2 → (Out2 → Option R) → Option R} {σ2 : St2} {σ : St} {nt : Nat} {kp : Nat → List Kp} {k p : Nat}

theorem resOf_at (hs : StR σ2 σ) {v : ResultVar} {x : V2} (e : resOf2 c σ2 v = some x) : resOf c σ v = some x.at := by
  cases v with
  | tmp t => exact hs.fr.evV e
  | cell a t =>
    simp only [resOf2, Option.bind_eq_some_iff] at e
    obtain ⟨ti, h1, y, h2, e⟩ := e
    simp only [resOf, h1, Option.bind_some, hs.fr.evA h2]
    split at e
    · simp only [Option.bind_eq_some_iff] at e
      obtain ⟨b, h3, e⟩ := e
      split at e
      · rename_i els hb
        simp only [Option.bind_eq_some_iff] at e
        obtain ⟨el, h4, e⟩ := e
        simp [A2.at, hs.mem, mget_at, h3, Blk2.at, hb, Bd.rows, Bd.ents, h4, part_at e]
      · cases e
    · cases e
theorem ownVs_at (T : TypeId → Option TI) : ∀ (vs : List V2) (nx : Nat), ownVs nx (vs.map V2.at) = ((ownVs2 T nx vs).1.map V2.at, (ownVs2 T nx vs).2.1.at, (ownVs2 T nx vs).2.2) := by
  intro vs
  induction vs with
  | nil => intro nx; rfl
  | cons a vs ih =>
    intro nx
    cases a with
    | a x => simp only [List.map_cons, V2.at, ownVs, own_at T, ih, ownVs2, app_at]
    | g cs => simp only [List.map_cons, V2.at, ownVs, ownL_at T, ih, ownVs2, app_at]
theorem clo_at' (f : FuncId) (mem : Mem2) (l acc : List Nat) : clo (fun m => if c.mutA f then namesM mem.at m else ptrsM mem.at m) 64 l acc = clo (if c.mutA f then names2 A2.nm mem else names2 A2.ptrs mem) 64 l acc := clo_at f mem l acc
theorem resf_at (f : FuncId) (mem : Mem2) (a rs0 : List V2) : Snd (R := R) (fun K => if c.ownR f then K a else mapK (frzVK c mem) rs0 K) fun rs => (if c.ownR f then some (a.map V2.at) else mapO (frzV mem.at) (rs0.map V2.at)) = some (rs.map V2.at) := by
  intro K r e
  simp only [] at e
  split at e
  · rename_i h; exact ⟨_, e, by rw [if_pos h]⟩
  · rename_i h
    obtain ⟨x, e1, h1⟩ := mapK_at (fun v => frzV_at mem v) rs0 _ _ e
    exact ⟨x, e1, by rw [if_neg h]; exact h1⟩
theorem fin_at (hs : StR σ2 σ) (f : FuncId) (fn : Func) : Snd (R := R) (finishK c f fn.results.toList p σ2) fun r => finish c f fn p σ = some (r.1.map V2.at, r.2.map Blk2.at) := by
  intro K r e
  unfold finishK at e
  simp only [Option.bind_eq_some_iff] at e
  obtain ⟨rs0, h1, e⟩ := e
  have h1' := mapO_at (p := id) (q := V2.at) (f := resOf2 c σ2) (g := resOf c σ) (fun _ _ => resOf_at hs) h1
  rw [List.map_id] at h1'
  generalize hq : (if c.ownR f then ownVs2 c.T σ2.nx rs0 else (rs0, [], σ2.nx)) = q at e
  have hq' : (if c.ownR f then ownVs σ.nx (rs0.map V2.at) else (rs0.map V2.at, [], σ.nx)) = (q.1.map V2.at, q.2.1.at, q.2.2) := by
    rw [← hq, hs.nx]
    split
    · exact ownVs_at _ _ _
    · rfl
  obtain ⟨rs, e, h2⟩ := resf_at f (upd2 σ2.mem q.2.1) q.1 rs0 _ _ e
  simp only [Option.bind_eq_some_iff] at e
  obtain ⟨rs', h3, e⟩ := e
  generalize hN : clo (if c.mutA f then names2 A2.nm (upd2 σ2.mem q.2.1) else names2 A2.ptrs (upd2 σ2.mem q.2.1)) 64 (List.range p ++ namesV2 A2.nm rs) [] = N at e h3
  obtain ⟨bs, e, h4⟩ := mapK_at (q := Blk2.at) (p := id) (g := fun m => (mget (Mem2.at _) m).bind fun b => (if c.mutA f then some b else frzB (upd2 σ2.mem q.2.1).at b).bind (renB (idx _))) (fun m => blk_at _ _ _ _ m) _ _ _ e
  split at e
  · rename_i hp
    refine ⟨_, e, ?_⟩
    rw [List.map_id, upd_at, fz_at] at h4
    have h3' := mapO_at (fun _ _ => renV_at) h3
    unfold finish
    rw [h1']
    simp only [Option.bind_some, hq', hs.mem, ← upd_at, h2, namesV_at, smnV_at, smnM_at, clo_at', hN, h3']
    rw [upd_at σ2.mem] at h4 ⊢
    rw [h4]
    simp only [Option.bind_some]
    rw [if_pos hp]
  · cases e
theorem finK_at {o2 : Out2} {o : Out} (ho : OutR o2 o) (f : FuncId) (fn : Func) {K : List V2 × List Blk2 → Option R} {r : R} (e : finK2 c f fn.results.toList p K o2 = some r) :
    ∃ x, K x = some r ∧ finK c f fn p (some o) = some (x.1.map V2.at, x.2.map Blk2.at) := by
  cases o2 with
  | norm σ2 =>
    cases o <;> simp only [OutR] at ho
    exact fin_at ho f fn _ _ e
  | ret σ2 =>
    cases o <;> simp only [OutR] at ho
    exact fin_at ho f fn _ _ e
  | exit i σ2 => cases e
theorem enum_at {β γ : Type} (g : β → γ) : ∀ (n : Nat) (l : List β), enum n (l.map g) = (enum n l).map fun p => (p.1, g p.2)
  | _, [] => rfl
  | n, x :: l => by simp only [List.map_cons, enum, enum_at g (n + 1) l]
theorem body_at (hC : COk CO callF) (f : FuncId) (fn : Func) (body : Code) (args : List V2) (blks : List Blk2) (hL : LAll (LOk LO c callF kp fn.ntmps k blks.length) 0 body) :
    Snd (body2 c CO LO f fn.ntmps fn.results.toList body args blks) fun r =>
      finK c f fn (blks.map Blk2.at).length (runC c callF kp fn.ntmps k (blks.map Blk2.at).length 0 body { fr := enum 0 ((args.map V2.at).map Sv.v), mem := enum 0 ((blks.map Blk2.at).map some), nx := (blks.map Blk2.at).length }) = some (r.1.map V2.at, r.2.map Blk2.at) := by
  intro K r e
  unfold body2 at e
  simp only [List.length_map]
  have hs : StR { fr := enum2 args, mem := enum 0 (blks.map some), nx := blks.length } { fr := enum 0 ((args.map V2.at).map Sv.v), mem := enum 0 ((blks.map Blk2.at).map some), nx := blks.length } := by
    refine ⟨?_, ?_, rfl⟩
    · intro t v h
      have : (args.map V2.at).map Sv.v = (args.map Sv2.v).map Sv2.at := by simp [Function.comp_def, Sv2.at]
      simp only [] at h ⊢
      rw [this, enum_at, lk_map]
      unfold enum2 at h
      rw [h]; rfl
    · have : (blks.map Blk2.at).map some = (blks.map some).map (fun o => o.map Blk2.at) := by simp [Function.comp_def]
      simp only []
      rw [this, enum_at]
      rfl
  obtain ⟨o2, e, o, h1, h2⟩ := run_at hC body 0 _ _ hL hs _ _ e
  obtain ⟨x, e, h3⟩ := finK_at h2 f fn e
  exact ⟨x, e, by rw [h1]; exact h3⟩
end

/-! Shapes: what is fixed of a word, and what is left open; the open parts stand in a row. -/
inductive Lt
  | w (c : Cd) | nat
  deriving DecidableEq
@[reducible] def Lt.D : Lt → Type
  | .w c => c.D
  | .nat => Nat
structure Leaf where
  t : Lt
  x : t.D
/-- A row of open parts. -/
@[reducible] def Tp : List Lt → Type
  | [] => Unit
  | [t] => t.D
  | t :: u :: r => t.D × Tp (u :: r)
def toL : (ts : List Lt) → Tp ts → List Leaf
  | [], _ => []
  | [t], x => [⟨t, x⟩]
  | t :: u :: r, x => ⟨t, x.1⟩ :: toL (u :: r) x.2
def castD (a b : Lt) (x : a.D) : Option b.D := if h : a = b then some (h ▸ x) else none
theorem castD_eq {a b : Lt} {x : a.D} {y : b.D} (h : castD a b x = some y) : (⟨b, y⟩ : Leaf) = ⟨a, x⟩ := by
  unfold castD at h
  split at h
  · rename_i e; subst e; cases h; rfl
  · cases h
theorem castD_self (a : Lt) (x : a.D) : castD a a x = some x := by simp [castD]
def ofL : (ts : List Lt) → List Leaf → Option (Tp ts)
  | [], [] => some ()
  | [t], [y] => castD y.t t y.x
  | t :: u :: r, y :: l => (castD y.t t y.x).bind fun a => (ofL (u :: r) l).bind fun b => some (a, b)
  | _, _ => none
theorem ofL_eq : ∀ {ts : List Lt} {l : List Leaf} {x : Tp ts}, ofL ts l = some x → toL ts x = l
  | [], l, x, h => by
    cases l with
    | nil => rfl
    | cons y l => cases h
  | [t], l, x, h => by
    match l, h with
    | [y], h => simp only [toL, castD_eq (b := t) h]
    | [], h => cases h
    | _ :: _ :: _, h => cases h
  | t :: u :: r, l, x, h => by
    match l, h with
    | [], h => cases h
    | y :: l, h =>
      simp only [ofL, Option.bind_eq_some_iff] at h
      obtain ⟨a, h1, b, h2, h⟩ := h
      cases h
      simp only [toL, castD_eq h1, ofL_eq h2]

inductive Sh
  | lf (c : Cd) | snil (es ty : Nat) | nilp | ptr (m i o : Nat) | smz (m : Nat) | sms (m : Nat) | fn (f : FuncId) (cs : List Cd) | mp (m : Nat)
def Sh.ts : Sh → List Lt
  | .lf c => [.w c]
  | .smz _ => [.nat]
  | .sms _ => [.nat, .nat]
  | .fn _ cs => cs.map Lt.w
  | _ => []
def capsE : List Cd → List Leaf → List (Sigma Cd.D) × List Leaf
  | [], l => ([], l)
  | c :: cs, y :: r => (fun p => ((match castD y.t (.w c) y.x with | some x => [⟨c, x⟩] | none => []) ++ p.1, p.2)) (capsE cs r)
  | _ :: _, [] => ([], [])
theorem capsE_rt : ∀ (ps : List (Sigma Cd.D)) (r : List Leaf), capsE (ps.map (·.1)) (ps.map (fun p => (⟨.w p.1, p.2⟩ : Leaf)) ++ r) = (ps, r)
  | [], r => rfl
  | p :: ps, r => by
    simp only [List.map_cons, List.cons_append, capsE, capsE_rt ps r]
    rw [castD_self (.w p.1) p.2]
    rfl
def Sh.enc : Sh → List Leaf → A2 × List Leaf
  | .lf c, y :: r => ((match castD y.t (.w c) y.x with | some x => (c.cl x).headD .nilp | none => .nilp), r)
  | .snil es ty, r => (.snil es ty, r)
  | .nilp, r => (.nilp, r)
  | .ptr m i o, r => (.ptr m i o, r)
  | .smz m, ⟨.nat, n⟩ :: r => (.sm m 0 n, r)
  | .sms m, ⟨.nat, lo⟩ :: ⟨.nat, n⟩ :: r => (.sm m lo n, r)
  | .fn f cs, r => (fun p => (.fn f p.1, p.2)) (capsE cs r)
  | .mp m, r => (.mp m, r)
  | _, r => (.nilp, r)
def Sh.dec : Sh → A2 → Option (List Leaf)
  | .lf c, a => (c.dec [a]).bind fun x => some [⟨.w c, x⟩]
  | .snil es ty, .snil es' ty' => if es' = es ∧ ty' = ty then some [] else none
  | .nilp, .nilp => some []
  | .ptr m i o, .ptr m' i' o' => if m' = m ∧ i' = i ∧ o' = o then some [] else none
  | .smz m, .sm m' lo n => if m' = m ∧ lo = 0 then some [⟨.nat, n⟩] else none
  | .sms m, .sm m' lo n => if m' = m then some [⟨.nat, lo⟩, ⟨.nat, n⟩] else none
  | .mp m, .mp m' => if m' = m then some [] else none
  | .fn f cs, .fn f' ps => if f' = f ∧ ps.map (·.1) = cs then some (ps.map fun p => ⟨.w p.1, p.2⟩) else none
  | _, _ => none
/-- What is read can be written anew. -/
def Rt {α β : Type} (enc : α → List Leaf → β × List Leaf) (dec : α → β → Option (List Leaf)) : Prop := ∀ s a l, dec s a = some l → ∀ r, enc s (l ++ r) = (a, r)
theorem Sh.rt : Rt Sh.enc Sh.dec := by
  intro s a l h r
  cases s with
  | lf c =>
    simp only [Sh.dec, Option.bind_eq_some_iff] at h
    obtain ⟨x, h1, h⟩ := h
    cases h
    have := dec_eq (c := c) h1
    simp only [List.cons_append, List.nil_append, Sh.enc]
    rw [castD_self (.w c) x]
    simp only [← this, List.headD_cons]
  | nilp =>
    cases a <;> simp only [Sh.dec] at h <;> first | cases h | skip
    rfl
  | fn f cs =>
    cases a <;> simp only [Sh.dec] at h <;> first | cases h | skip
    split at h
    · rename_i ps e
      obtain ⟨rfl, rfl⟩ := e
      cases h
      simp only [Sh.enc, capsE_rt]
    · cases h
  | _ =>
    cases a <;> simp only [Sh.dec] at h <;> first | cases h | skip
    split at h
    · rename_i e; cases h; simp [Sh.enc, e]
    · cases h
/-- Rows of shapes. -/
def encR {α β : Type} (enc : α → List Leaf → β × List Leaf) : List α → List Leaf → List β × List Leaf
  | [], l => ([], l)
  | s :: r, l => (fun p => (fun q => (p.1 :: q.1, q.2)) (encR enc r p.2)) (enc s l)
def decR {α β : Type} (dec : α → β → Option (List Leaf)) : List α → List β → Option (List Leaf)
  | [], [] => some []
  | s :: r, a :: b => (dec s a).bind fun x => (decR dec r b).bind fun y => some (x ++ y)
  | _, _ => none
theorem Rt.row {α β : Type} {enc : α → List Leaf → β × List Leaf} {dec : α → β → Option (List Leaf)} (H : Rt enc dec) : Rt (encR enc) (decR dec) := by
  intro l
  induction l with
  | nil => intro zs x h r; cases zs with
    | nil => cases h; rfl
    | cons a zs => cases h
  | cons s l ih =>
    intro zs x h r
    cases zs with
    | nil => cases h
    | cons a zs =>
      simp only [decR, Option.bind_eq_some_iff] at h
      obtain ⟨y, h1, z, h2, h⟩ := h
      cases h
      simp only [encR, List.append_assoc, H _ _ _ h1, ih _ _ h2]
inductive ShV
  | a (s : Sh) | g (ss : List Sh)
def ShV.ts : ShV → List Lt
  | .a s => s.ts
  | .g ss => ss.flatMap Sh.ts
def ShV.enc : ShV → List Leaf → V2 × List Leaf
  | .a s, l => (fun p => (.a p.1, p.2)) (s.enc l)
  | .g ss, l => (fun p => (.g p.1, p.2)) (encR Sh.enc ss l)
def ShV.dec : ShV → V2 → Option (List Leaf)
  | .a s, .a x => s.dec x
  | .g ss, .g cs => decR Sh.dec ss cs
  | _, _ => none
theorem ShV.rt : Rt ShV.enc ShV.dec := by
  intro s a l h r
  cases s with
  | a s => cases a with
    | a y => simp only [ShV.enc, Sh.rt _ _ _ h]
    | g cs => cases h
  | g ss => cases a with
    | a y => cases h
    | g cs => simp only [ShV.enc, Sh.rt.row _ _ _ h]
inductive ShB
  | arr (c : Cd) (es : Nat) (ty : TypeId) (fz : Bool)
  | raw (els : List (List Sh)) (es : Nat) (ty : TypeId) (pr fz ar : Bool)
  | map (kc vc : Cd) (ty : TypeId) (fz : Bool)
def ShB.ts : ShB → List Lt
  | .arr c _ _ _ => [.w (.sl c)]
  | .raw els _ _ _ _ _ => els.flatMap fun e => e.flatMap Sh.ts
  | .map kc vc _ _ => [.w (.sl (.pr kc vc))]
def ShB.enc : ShB → List Leaf → Blk2 × List Leaf
  | .arr c es ty fz, l => match l with
    | y :: r => ((match castD y.t (.w (.sl c)) y.x with | some x => ⟨.arr c x, es, ty, true, fz, true⟩ | none => ⟨.raw [], es, ty, true, fz, true⟩), r)
    | [] => (⟨.raw [], es, ty, true, fz, true⟩, [])
  | .raw els es ty pr fz ar, l => (fun p => (⟨.raw p.1, es, ty, pr, fz, ar⟩, p.2)) (encR (encR Sh.enc) els l)
  | .map kc vc ty fz, l => match l with
    | y :: r => ((match castD y.t (.w (.sl (.pr kc vc))) y.x with | some x => ⟨.map kc vc x, 0, ty, true, fz, true⟩ | none => ⟨.raw [], 0, ty, true, fz, true⟩), r)
    | [] => (⟨.raw [], 0, ty, true, fz, true⟩, [])
def ShB.dec (s : ShB) (b : Blk2) : Option (List Leaf) :=
  match s with
  | .arr c es ty fz => match b with
    | ⟨.arr c' l, es', ty', true, fz', true⟩ => if es' = es ∧ ty' = ty ∧ fz' = fz then (castL c' c l).bind fun l => some [⟨.w (.sl c), l⟩] else none
    | _ => none
  | .raw els es ty pr fz ar => match b with
    | ⟨.raw els', es', ty', pr', fz', ar'⟩ => if es' = es ∧ ty' = ty ∧ pr' = pr ∧ fz' = fz ∧ ar' = ar then decR (decR Sh.dec) els els' else none
    | _ => none
  | .map kc vc ty fz => match b with
    | ⟨.map kc' vc' l, 0, ty', true, fz', true⟩ => if ty' = ty ∧ fz' = fz ∧ kc' = kc ∧ vc' = vc then (castL (.pr kc' vc') (.pr kc vc) l).bind fun l => some [⟨.w (.sl (.pr kc vc)), l⟩] else none
    | _ => none
theorem ShB.rt : Rt ShB.enc ShB.dec := by
  intro s b l h r
  cases s with
  | arr c es ty fz =>
    simp only [ShB.dec] at h
    split at h
    · split at h
      · rename_i e
        obtain ⟨rfl, rfl, rfl⟩ := e
        simp only [Option.bind_eq_some_iff] at h
        obtain ⟨x, hx, h⟩ := h
        cases h
        obtain ⟨hc, rfl⟩ := castL_eq hx
        subst hc
        simp only [List.cons_append, ShB.enc, List.nil_append]
        rw [castD_self (.w (.sl _)) _]
      · cases h
    · cases h
  | raw els es ty pr fz ar =>
    simp only [ShB.dec] at h
    split at h
    · split at h
      · rename_i e
        obtain ⟨rfl, rfl, rfl, rfl, rfl⟩ := e
        simp only [ShB.enc, Sh.rt.row.row _ _ _ h]
      · cases h
    · cases h
  | map kc vc ty fz =>
    simp only [ShB.dec] at h
    split at h
    · split at h
      · rename_i e
        obtain ⟨rfl, rfl, rfl, rfl⟩ := e
        simp only [Option.bind_eq_some_iff] at h
        obtain ⟨x, hx, h⟩ := h
        cases h
        obtain ⟨hc, rfl⟩ := castL_eq hx
        simp only [List.cons_append, ShB.enc, List.nil_append]
        rw [castD_self (.w (.sl (.pr _ _))) _]
      · cases h
    · cases h

/-- A call's shape, or an answer's. -/
structure FS where
  vs : List ShV
  bs : List ShB
def FS.ts (s : FS) : List Lt := s.vs.flatMap ShV.ts ++ s.bs.flatMap ShB.ts
def FS.en (s : FS) (l : List Leaf) : (List V2 × List Blk2) × List Leaf := (fun p => (fun q => ((p.1, q.1), q.2)) (encR ShB.enc s.bs p.2)) (encR ShV.enc s.vs l)
def FS.de (s : FS) (a : List V2 × List Blk2) : Option (List Leaf) := (decR ShV.dec s.vs a.1).bind fun x => (decR ShB.dec s.bs a.2).bind fun y => some (x ++ y)
@[reducible] def FS.D (s : FS) : Type := Tp s.ts
def FS.enc (s : FS) (x : s.D) : List V2 × List Blk2 := (s.en (toL _ x)).1
def FS.dec (s : FS) (a : List V2 × List Blk2) : Option s.D := (s.de a).bind (ofL _)
theorem FS.rt : Rt FS.en FS.de := by
  intro s a l h r
  simp only [FS.de, Option.bind_eq_some_iff] at h
  obtain ⟨y, h1, z, h2, h⟩ := h
  cases h
  simp only [FS.en, List.append_assoc, ShV.rt.row _ _ _ h1, ShB.rt.row _ _ _ h2]
theorem FS.dec_eq {s : FS} {a : List V2 × List Blk2} {x : s.D} (h : s.dec a = some x) : s.enc x = a := by
  simp only [FS.dec, Option.bind_eq_some_iff] at h
  obtain ⟨l, h1, h2⟩ := h
  have := FS.rt s a l h1 []
  rw [List.append_nil] at this
  simp only [FS.enc, ofL_eq h2, this]
/-- One of several. -/
@[reducible] def DS {α : Type} (D : α → Type) : List α → Type
  | [] => Empty
  | [a] => D a
  | a :: b :: r => D a ⊕ DS D (b :: r)
def encS {α β : Type} {D : α → Type} (enc : (s : α) → D s → β) : (l : List α) → DS D l → β
  | [], x => nomatch x
  | [a], x => enc a x
  | a :: b :: r, x => match x with
    | .inl x => enc a x
    | .inr x => encS enc (b :: r) x
def putS {α β : Type} {D : α → Type} (dec : (s : α) → β → Option (D s)) : (l : List α) → β → Option (DS D l)
  | [], _ => none
  | [a], x => dec a x
  | a :: b :: r, x => match dec a x with
    | some y => some (.inl y)
    | none => match putS dec (b :: r) x with
      | some y => some (.inr y)
      | none => none
def eitherK {α β R : Type} (x : α ⊕ β) (f : α → Option R) (g : β → Option R) : Option R := match x with
  | .inl x => f x
  | .inr x => g x
def encSK {α β R : Type} {D : α → Type} (enc : (s : α) → D s → β) (K : β → Option R) : (l : List α) → DS D l → Option R
  | [], x => nomatch x
  | [a], x => K (enc a x)
  | a :: b :: r, x => eitherK x (fun x => K (enc a x)) (fun x => encSK enc K (b :: r) x)
theorem encSK_eq {α β R : Type} {D : α → Type} (enc : (s : α) → D s → β) (K : β → Option R) : ∀ (l : List α) (x : DS D l), encSK enc K l x = K (encS enc l x)
  | [], x => nomatch x
  | [a], x => rfl
  | a :: b :: r, .inl x => rfl
  | a :: b :: r, .inr x => encSK_eq enc K (b :: r) x
theorem putS_ok {α β : Type} {D : α → Type} {enc : (s : α) → D s → β} {dec : (s : α) → β → Option (D s)} {Q : β → β → Prop} (H : ∀ s a x, dec s a = some x → Q (enc s x) a) :
    ∀ {l : List α} {a : β} {y : DS D l}, putS dec l a = some y → Q (encS enc l y) a := by
  intro l
  match l with
  | [] => intro a y h; cases h
  | [s] => intro a y h; exact H _ _ _ h
  | s :: t :: r =>
    intro a y h
    simp only [putS] at h
    split at h
    · rename_i z hz; cases h; exact H _ _ _ hz
    · split at h
      · rename_i z hz
        cases h
        exact putS_ok H (l := t :: r) hz
      · cases h
/-- A state's shape. -/
structure SS where
  fr : List (Nat × ShV)
  mem : List (Nat × Option ShB)
  nx : Nat
def tsO (p : Nat × Option ShB) : List Lt := match p.2 with
  | none => []
  | some b => b.ts
def encO (p : Nat × Option ShB) (l : List Leaf) : (Nat × Option Blk2) × List Leaf := match p.2 with
  | none => ((p.1, none), l)
  | some b => (fun q => ((p.1, some q.1), q.2)) (b.enc l)
def decO (p : Nat × Option ShB) (q : Nat × Option Blk2) : Option (List Leaf) := match p.2, q.2 with
  | none, none => if q.1 = p.1 then some [] else none
  | some b, some B => if q.1 = p.1 then b.dec B else none
  | _, _ => none
theorem rtO : Rt encO decO := by
  intro p q l h r
  obtain ⟨m, o⟩ := p
  obtain ⟨m', o'⟩ := q
  cases o with
  | none => cases o' with
    | none =>
      simp only [decO] at h
      split at h
      · rename_i e; cases h; simp [encO, e]
      · cases h
    | some B => cases h
  | some b => cases o' with
    | none => cases h
    | some B =>
      simp only [decO] at h
      split at h
      · rename_i e; simp [encO, e, ShB.rt _ _ _ h]
      · cases h
def encF (p : Nat × ShV) (l : List Leaf) : (Nat × Sv2) × List Leaf := (fun q => ((p.1, .v q.1), q.2)) (p.2.enc l)
def SS.ts (s : SS) : List Lt := (s.fr.flatMap fun p => p.2.ts) ++ s.mem.flatMap tsO
@[reducible] def SS.D (s : SS) : Type := Tp s.ts
def SS.en (s : SS) (l : List Leaf) : St2 := (fun p => { fr := p.1, mem := (encR encO s.mem p.2).1, nx := s.nx }) (encR encF s.fr l)
def SS.enc (s : SS) (x : s.D) : St2 := s.en (toL _ x)
/-- The slots named are read, others left. -/
def decFr (fr : List (Nat × Sv2)) : List (Nat × ShV) → Option (List Leaf)
  | [] => some []
  | p :: r => match lk fr p.1 with
    | some (.v v) => (p.2.dec v).bind fun x => (decFr fr r).bind fun y => some (x ++ y)
    | _ => none
def SS.de (s : SS) (σ : St2) : Option (List Leaf) := (decFr σ.fr s.fr).bind fun x => (decR decO s.mem σ.mem).bind fun y => if σ.nx = s.nx then some (x ++ y) else none
def SS.dec (s : SS) (σ : St2) : Option s.D := (s.de σ).bind (ofL _)
theorem decFr_ok {fr : List (Nat × Sv2)} : ∀ {l : List (Nat × ShV)} {x : List Leaf}, decFr fr l = some x → ∀ r, ∃ fr', encR encF l (x ++ r) = (fr', r) ∧ ∀ t v, lk fr' t = some v → lk fr t = some v := by
  intro l
  induction l with
  | nil => intro x h r; cases h; exact ⟨[], rfl, fun t v h => by cases h⟩
  | cons p l ih =>
    intro x h r
    simp only [decFr] at h
    split at h
    · rename_i v' hv'
      simp only [Option.bind_eq_some_iff] at h
      obtain ⟨y, h1, z, h2, h⟩ := h
      cases h
      obtain ⟨fr', h3, h4⟩ := ih h2 r
      refine ⟨(p.1, .v v') :: fr', ?_, ?_⟩
      · simp only [encR, encF, List.append_assoc, ShV.rt _ _ _ h1, h3]
      · intro t v hv
        simp only [lk] at hv
        split at hv
        · rename_i e
          cases hv
          rw [← e]
          exact hv'
        · exact h4 t v hv
    · cases h
theorem SS.dec_ok {s : SS} {σ2 : St2} {x : s.D} (h : s.dec σ2 = some x) {σ : St} (hs : StR σ2 σ) : StR (s.enc x) σ := by
  simp only [SS.dec, Option.bind_eq_some_iff] at h
  obtain ⟨l, h, h0⟩ := h
  simp only [SS.de, Option.bind_eq_some_iff] at h
  obtain ⟨y, h1, z, h2, h⟩ := h
  split at h
  · rename_i e
    cases h
    obtain ⟨fr', h3, h4⟩ := decFr_ok h1 z
    have h5 := rtO.row _ _ _ h2 []
    rw [List.append_nil] at h5
    simp only [SS.enc, ofL_eq h0, SS.en, h3, h5]
    exact ⟨fun t v hv => hs.fr t v (h4 t v hv), hs.mem, by rw [hs.nx, e]⟩
  · cases h
/-- An end's shape: a block's left, or the function is. -/
structure OS where
  id : Option Nat
  s : SS
@[reducible] def OS.D (o : OS) : Type := o.s.D
def OS.enc (o : OS) (x : o.D) : Out2 := match o.id with
  | some i => .exit i (o.s.enc x)
  | none => .ret (o.s.enc x)
def OS.dec (o : OS) (u : Out2) : Option o.D := match o.id, u with
  | some i, .exit j σ => if j = i then o.s.dec σ else none
  | none, .ret σ => o.s.dec σ
  | _, _ => none
theorem OS.dec_ok (o : OS) (u : Out2) (x : o.D) (h : o.dec u = some x) : ∀ v, OutR u v → OutR (o.enc x) v := by
  obtain ⟨id, s⟩ := o
  intro v hv
  cases id with
  | none =>
    cases u <;> simp only [OS.dec] at h <;> first | cases h | skip
    cases v <;> simp only [OutR] at hv
    exact SS.dec_ok h hv
  | some i =>
    cases u <;> simp only [OS.dec] at h <;> first | cases h | skip
    split at h
    · rename_i e
      cases v <;> simp only [OutR] at hv
      exact ⟨by rw [← e]; exact hv.1, SS.dec_ok h hv.2⟩
    · cases h

/-- A printed function. -/
structure Inst where
  f : FuncId
  sh : FS
  os : List FS
  F : sh.D → Option (DS FS.D os)
/-- A printed loop. -/
structure LInst where
  b : Nat
  hs : List SS
  os : List OS
  F : DS SS.D hs → Option (DS OS.D os)
section
variable {R : Type}
def COt (f : FuncId) (a : List V2) (b : List Blk2) (K : List V2 × List Blk2 → Option R) : List Inst → Option R
  | [] => none
  | i :: r => if i.f = f then (match i.sh.dec (a, b) with
    | some x => (i.F x).bind fun y => encSK FS.enc K i.os y
    | none => COt f a b K r) else COt f a b K r
def LOt (T : TypeId → Option TI) (kp : Nat → List Kp) (p : Nat) (b : Nat) (σ : St2) (K : Out2 → Option R) : List LInst → Option R
  | [] => none
  | i :: r => if i.b = b then (match (head2 T p (kp b) σ).bind (putS SS.dec i.hs) with
    | some x => (i.F x).bind fun y => encSK OS.enc K i.os y
    | none => LOt T kp p b σ K r) else LOt T kp p b σ K r
/-- What a round hands on: to the next one, or out. -/
def nextK (T : TypeId → Option TI) (ks : List Kp) (p : Nat) (hs : List SS) (os : List OS) (F : DS SS.D hs → Option (DS OS.D os)) : Out2 → Option (DS OS.D os)
  | .norm σ => ((head2 T p ks σ).bind (putS SS.dec hs)).bind F
  | o => putS OS.dec os o
end
def InstOk (cl : FuncId → List Vl → List Blk → Option (List Vl × List Blk)) (i : Inst) : Prop :=
  ∀ x y, i.F x = some y → cl i.f ((i.sh.enc x).1.map V2.at) ((i.sh.enc x).2.map Blk2.at) = some ((encS FS.enc i.os y).1.map V2.at, (encS FS.enc i.os y).2.map Blk2.at)
/-- All of a list. -/
def AllI (cl : FuncId → List Vl → List Blk → Option (List Vl × List Blk)) : List Inst → Prop
  | [] => True
  | i :: r => InstOk cl i ∧ AllI cl r
theorem COt_ok {R : Type} {cl : FuncId → List Vl → List Blk → Option (List Vl × List Blk)} : ∀ {l : List Inst}, AllI cl l → COk (fun f a b (K : List V2 × List Blk2 → Option R) => COt f a b K l) cl := by
  intro l
  induction l with
  | nil => intro _ f a b K r e; cases e
  | cons i l ih =>
    intro h f a b K r e
    simp only [COt] at e
    split at e
    · rename_i hf
      subst hf
      split at e
      · rename_i x hx
        simp only [Option.bind_eq_some_iff] at e
        obtain ⟨y, h1, e⟩ := e
        rw [encSK_eq] at e
        refine ⟨_, e, ?_⟩
        have := h.1 x y h1
        rw [FS.dec_eq hx] at this
        exact this
      · exact ih h.2 _ _ _ _ _ e
    · exact ih h.2 _ _ _ _ _ e

theorem heads_ok {hs : List SS} {σ2 : St2} {x : DS SS.D hs} (h : putS SS.dec hs σ2 = some x) {σ : St} (hs' : StR σ2 σ) : StR (encS SS.enc hs x) σ :=
  putS_ok (enc := SS.enc) (dec := SS.dec) (Q := fun a b => ∀ σ, StR b σ → StR a σ) (fun s a x h σ hr => SS.dec_ok h hr) (l := hs) h σ hs'
section
variable {c : Cfg} {callF : FuncId → List Vl → List Blk → Option (List Vl × List Blk)} {kp : Nat → List Kp} {nt k p : Nat}
def LIOk (c : Cfg) (callF : FuncId → List Vl → List Blk → Option (List Vl × List Blk)) (kp : Nat → List Kp) (nt k p : Nat) (b : Nat) (x0 : Code) (i : LInst) : Prop :=
  ∀ x y τ, StR (encS SS.enc i.hs x) τ → i.F x = some y → ∃ o, loopF (headN p (kp b)) (runC c callF kp nt k p b x0) k (some τ) = some o ∧ OutR (encS OS.enc i.os y) o
/-- The loops of a list that stand in the block b. -/
def AllL (c : Cfg) (callF : FuncId → List Vl → List Blk → Option (List Vl × List Blk)) (kp : Nat → List Kp) (nt k p : Nat) (b : Nat) (x0 : Code) : List LInst → Prop
  | [] => True
  | i :: r => (i.b = b → LIOk c callF kp nt k p b x0 i) ∧ AllL c callF kp nt k p b x0 r
theorem LOt_ok {R : Type} {b : Nat} {x0 : Code} : ∀ {l : List LInst}, AllL c callF kp nt k p b x0 l → LOk (fun b _ σ (K : Out2 → Option R) => LOt c.T kp p b σ K l) c callF kp nt k p b x0 := by
  intro l
  induction l with
  | nil => intro _ σ2 σ hs K r e; cases e
  | cons i l ih =>
    intro h σ2 σ hs K r e
    simp only [LOt] at e
    split at e
    · rename_i hb
      split at e
      · rename_i x hx
        simp only [Option.bind_eq_some_iff] at hx
        obtain ⟨S2, h1, h2⟩ := hx
        obtain ⟨S, h3, h4⟩ := head_at hs h1
        simp only [Option.bind_eq_some_iff] at e
        obtain ⟨y, h5, e⟩ := e
        rw [encSK_eq] at e
        obtain ⟨o, h6, h7⟩ := h.1 hb x y S (heads_ok h2 h4) h5
        exact ⟨_, e, o, by rw [loopN_F, h3, h6], h7⟩
      · exact ih h.2 _ _ hs _ _ e
    · exact ih h.2 _ _ hs _ _ e
theorem loop_ok {b : Nat} {x0 : Code} {hs : List SS} {os : List OS} {CO : FuncId → List V2 → List Blk2 → (List V2 × List Blk2 → Option (DS OS.D os)) → Option (DS OS.D os)} {LO : Nat → Code → St2 → (Out2 → Option (DS OS.D os)) → Option (DS OS.D os)}
    (hC : COk CO callF) (hL : LAll (LOk LO c callF kp nt k p) b x0) (F : Nat → DS SS.D hs → Option (DS OS.D os)) (h0 : ∀ x, F 0 x = none)
    (hF : ∀ n x, F (n + 1) x = encSK SS.enc (fun σ => run2 c CO LO nt b x0 σ (nextK c.T (kp b) p hs os (F n))) hs x) : LIOk c callF kp nt k p b x0 ⟨b, hs, os, F k⟩ := by
  have key : ∀ n x y τ, StR (encS SS.enc hs x) τ → F n x = some y → ∃ o, loopF (headN p (kp b)) (runC c callF kp nt k p b x0) n (some τ) = some o ∧ OutR (encS OS.enc os y) o := by
    intro n
    induction n with
    | zero => intro x y τ _ e; rw [h0] at e; cases e
    | succ n ih =>
      intro x y τ ht e
      rw [hF, encSK_eq] at e
      obtain ⟨o2, e, o, h1, h2⟩ := run_at hC x0 b _ _ hL ht _ _ e
      cases o2 with
      | norm σ2 =>
        simp only [nextK, Option.bind_eq_some_iff] at e
        obtain ⟨x', ⟨S2, h3, h4⟩, e⟩ := e
        cases o <;> simp only [OutR] at h2
        rename_i τ'
        obtain ⟨S, h5, h6⟩ := head_at h2 h3
        obtain ⟨o, h7, h8⟩ := ih x' y S (heads_ok h4 h6) e
        refine ⟨o, ?_, h8⟩
        simp only [loopF_succ, h1, seqK, loopN_F, h5, h7]
      | exit i σ2 =>
        have := putS_ok (enc := OS.enc) (Q := fun a b => ∀ v, OutR b v → OutR a v) (fun s a x h => OS.dec_ok s a x h) (l := os) e o h2
        refine ⟨o, ?_, this⟩
        cases o <;> simp only [OutR] at h2
        simp only [loopF_succ, h1, seqK]
      | ret σ2 =>
        have := putS_ok (enc := OS.enc) (Q := fun a b => ∀ v, OutR b v → OutR a v) (fun s a x h => OS.dec_ok s a x h) (l := os) e o h2
        refine ⟨o, ?_, this⟩
        cases o <;> simp only [OutR] at h2
        simp only [loopF_succ, h1, seqK]
  exact fun x y τ ht e => key k x y τ ht e

def bd (f : Func) : Code := f.body.getD .skip
theorem encR_length {α β : Type} (enc : α → List Leaf → β × List Leaf) : ∀ (l : List α) (x : List Leaf), (encR enc l x).1.length = l.length
  | [], _ => rfl
  | s :: r, x => by simp only [encR, List.length_cons, encR_length enc r]
theorem inst_ok {f : FuncId} {fn : Func} {body : Code} {sh : FS} {os : List FS} (hX : c.X f = none) (hf : c.F f = some fn) (hb : fn.body = some body) (hl : sh.vs.length = fn.params.size + fn.nfree ∧ sh.vs.length ≤ fn.ntmps)
    {CO : FuncId → List V2 → List Blk2 → (List V2 × List Blk2 → Option (DS FS.D os)) → Option (DS FS.D os)} {LO : Nat → Code → St2 → (Out2 → Option (DS FS.D os)) → Option (DS FS.D os)}
    (hC : COk CO (call c k)) (hL : LAll (LOk LO c (call c k) (c.keep f) fn.ntmps k sh.bs.length) 0 body) (F : sh.D → Option (DS FS.D os))
    (hF : ∀ x, F x = body2 c CO LO f fn.ntmps fn.results.toList body (sh.enc x).1 (sh.enc x).2 (putS FS.dec os)) : InstOk (call c (k + 1)) ⟨f, sh, os, F⟩ := by
  intro x y e
  simp only [] at e
  rw [hF] at e
  have hlen : (sh.enc x).2.length = sh.bs.length := encR_length _ _ _
  rw [← hlen] at hL
  obtain ⟨r, e, h1⟩ := body_at hC f fn body _ _ hL _ _ e
  have h2 := putS_ok (enc := FS.enc) (Q := fun a b => a = b) (fun s a x h => FS.dec_eq h) (l := os) e
  have hlv : (sh.enc x).1.length = sh.vs.length := encR_length _ _ _
  simp only [call, hX, hf, Option.bind_some, hb, bodyK, List.length_map]
  simp only [List.length_map] at h1
  rw [if_pos (by rw [hlv]; exact hl), h1, h2]
end
end Go.Proofs.YtlnailgfialgnaaGreatDoor.Am

/- The tables are the program's: by reckoning. -/
set_option linter.unusedVariables false
set_option linter.unusedSimpArgs false
namespace Go.Proofs.YtlnailgfialgnaaGreatDoor.Am
open Go

def zB : At → Value → Bool
  | .int k n, .int k' n' => decide (k = k') && decide (n = n')
  | .bool b, .bool b' => b == b'
  | .str s, .string s' => s.data.toList.isEmpty && s'.data.toList.isEmpty
  | .snil _ _, .slice none 0 0 => true
  | .nilp, .pointer none => true
  | _, _ => false
theorem zB_sound {h : Hp} {x : At} {v : Value} (e : zB x v = true) : RP h x v ∧ x.pr = true := by
  unfold zB at e
  split at e
  · simp only [Bool.and_eq_true, decide_eq_true_eq] at e
    obtain ⟨rfl, rfl⟩ := e
    exact ⟨.int _ _, rfl⟩
  · simp only [beq_iff_eq] at e; subst e; exact ⟨.bool _, rfl⟩
  · rename_i s s'
    simp only [Bool.and_eq_true, List.isEmpty_iff] at e
    obtain ⟨h1, h2⟩ := e
    obtain ⟨⟨l⟩⟩ := s
    obtain ⟨⟨l'⟩⟩ := s'
    simp only at h1 h2
    subst h1 h2
    exact ⟨.str _, rfl⟩
  · exact ⟨.snil _ _, rfl⟩
  · exact ⟨.nilp, rfl⟩
  · cases e

def zBs : List At → List Value → Bool
  | [], [] => true
  | x :: xs, v :: vs => zB x v && zBs xs vs
  | _, _ => false
theorem zBs_sound {h : Hp} : ∀ {xs : List At} {vs : List Value}, zBs xs vs = true → xs.length = vs.length ∧ (∀ (j : Nat) (x : At), xs[j]? = some x → ∃ u, vs[j]? = some u ∧ RP h x u) ∧ ∀ x ∈ xs, x.pr = true := by
  intro xs
  induction xs with
  | nil => intro vs e; cases vs with
    | nil => exact ⟨rfl, by simp, by simp⟩
    | cons v vs => cases e
  | cons x xs ih =>
    intro vs e
    cases vs with
    | nil => cases e
    | cons v vs =>
      simp only [zBs, Bool.and_eq_true] at e
      obtain ⟨h1, h2⟩ := zB_sound (h := h) e.1
      obtain ⟨i1, i2, i3⟩ := ih e.2
      refine ⟨by simp [i1], fun j y hj => ?_, fun y hy => ?_⟩
      · cases j with
        | zero => simp at hj; subst hj; exact ⟨v, rfl, h1⟩
        | succ j => simp at hj; simpa using i2 j y hj
      · rcases List.mem_cons.1 hy with rfl | hy
        · exact h2
        · exact i3 y hy

def fieldsB (P : Program) : List (Nat × Nat) → List TypeId → List Field → Bool
  | [], [], [] => true
  | p :: ps, t :: ts, f :: fs => f.offset == p.1 && f.type == t && (match P.info? f.type with | some ti => ti.size == p.2 | none => false) && fieldsB P ps ts fs
  | _, _, _ => false
theorem fieldsB_sound {P : Program} : ∀ {ps : List (Nat × Nat)} {ts : List TypeId} {fs : List Field}, fieldsB P ps ts fs = true →
    ps.length = fs.length ∧ (∀ (j : Nat) (p : Nat × Nat), ps[j]? = some p → ∃ f, fs[j]? = some f ∧ f.offset = p.1 ∧ ∃ ti, P.info? f.type = some ti ∧ ti.size = p.2) ∧ (fs.map fun f => f.type) = ts := by
  intro ps
  induction ps with
  | nil => intro ts fs e; cases ts <;> cases fs <;> first | exact ⟨rfl, by simp, rfl⟩ | cases e
  | cons p ps ih =>
    intro ts fs e
    cases ts with
    | nil => cases e
    | cons t ts =>
      cases fs with
      | nil => cases e
      | cons f fs =>
        simp only [fieldsB, Bool.and_eq_true, beq_iff_eq] at e
        obtain ⟨⟨⟨e1, e2⟩, e3⟩, e4⟩ := e
        obtain ⟨i1, i2, i3⟩ := ih e4
        refine ⟨by simp [i1], fun j q hj => ?_, by simp [e2, i3]⟩
        cases j with
        | zero =>
          simp at hj
          subst hj
          refine ⟨f, rfl, e1, ?_⟩
          split at e3
          · rename_i ti hti
            exact ⟨ti, hti, by simpa using e3⟩
          · cases e3
        | succ j => simp at hj; simpa using i2 j q hj

def tdB (P : Program) : TD → TypeDesc → Bool
  | .int k, .int k' => decide (k = k')
  | .bool, .bool => true
  | .str, .string => true
  | .ptr, .pointer _ => true
  | .sl e, .slice e' => e == e'
  | .st ps ts, .struct F => fieldsB P ps ts F.toList
  | .arr n e, .array n' e' => n == n' && e == e'
  | .mp k e, .map k' e' => k == k' && e == e'
  | .oth, _ => true
  | _, _ => false
theorem tdB_sound {P : Program} {d : TD} {e : TypeDesc} (h : tdB P d e = true) : TDOk P d e := by
  unfold tdB at h
  split at h
  · simp only [decide_eq_true_eq] at h; subst h; exact rfl
  · exact rfl
  · exact rfl
  · exact ⟨_, rfl⟩
  · simp only [beq_iff_eq] at h; subst h; exact rfl
  · rename_i ps ts F
    obtain ⟨h1, h2, h3⟩ := fieldsB_sound h
    refine ⟨F, rfl, by simpa using h1, fun j p hj => ?_, h3⟩
    obtain ⟨f, q1, q2⟩ := h2 j p hj
    exact ⟨f, by simpa using q1, q2⟩
  · simp only [Bool.and_eq_true, beq_iff_eq] at h; obtain ⟨rfl, rfl⟩ := h; exact rfl
  · simp only [Bool.and_eq_true, beq_iff_eq] at h; obtain ⟨rfl, rfl⟩ := h; exact rfl
  · trivial
  · cases h

def zoneB (P : Program) (t : TypeId) (i : TI) : Bool := i.agg || !(i.size == 1) || !(i.zero.length == i.size) || (match P.info? t with
  | some ti => (match ti.zero with | some z => z.oneCell' | none => true)
  | none => true)
def tokB (P : Program) (t : TypeId) (i : TI) : Bool := zoneB P t i && ((match P.info? t with
    | some ti => ti.size == i.size && ti.bytes == i.bytes && (i.zero.length != i.size || (match ti.zero with | some z => z.cells.size == i.size && zBs i.zero z.cells.toList | none => false))
    | none => false) &&
  (match P.underlying t with
    | some d => tdB P i.d d && (isAggD d == i.agg) && (!i.eqs || (match d with | .struct fs => !P.eqGuardType P.depth t && !P.stoodInHeld t && eqsFs P 0 fs.toList | _ => false))
    | none => false))
theorem tok_of {P : Program} {t : TypeId} {i : TI} (h : tokB P t i = true) : TOk P t i := by
  unfold tokB at h
  rw [Bool.and_eq_true, Bool.and_eq_true] at h
  obtain ⟨h0, h1, h2⟩ := h
  split at h1
  · rename_i ti hti
    simp only [Bool.and_eq_true, beq_iff_eq, Bool.or_eq_true, bne_iff_ne] at h1
    obtain ⟨⟨a1, a2⟩, a3⟩ := h1
    refine ⟨⟨ti, hti, a1, a2⟩, ?_, fun hz => ?_, fun hagg hsz1 hzl ti' z hi' hz' => ?_, fun he => ?_⟩
    rotate_left 2
    · unfold zoneB at h0
      simp only [hagg, hsz1, hzl, Bool.false_or, hi', hz', beq_self_eq_true, Bool.not_true] at h0
      exact h0
    rotate_left 1
    · split at h2
      · rename_i d hd
        simp only [Bool.and_eq_true, beq_iff_eq] at h2
        exact ⟨d, hd, tdB_sound h2.1.1, h2.1.2⟩
      · cases h2
    · rcases a3 with a3 | a3
      · exact absurd hz a3
      · split at a3
        · rename_i z hzz
          simp only [Bool.and_eq_true, beq_iff_eq] at a3
          obtain ⟨b1, b2⟩ := a3
          refine ⟨ti, z, hti, hzz, b1, fun h j x hj => ?_, (zBs_sound (h := fun _ => none) b2).2.2⟩
          obtain ⟨u, g1, g2⟩ := (zBs_sound (h := h) b2).2.1 j x hj
          exact ⟨u, by simpa using g1, g2⟩
        · cases a3
    · split at h2
      · rename_i d hd
        simp only [Bool.and_eq_true, beq_iff_eq, he, Bool.not_true, Bool.false_or] at h2
        obtain ⟨_, h3⟩ := h2
        split at h3
        · rename_i fs _
          simp only [Bool.and_eq_true, Bool.not_eq_true'] at h3
          exact ⟨h3.1.1, h3.1.2, fs, hd, h3.2⟩
        · cases h3
      · cases h2
  · cases h1

theorem names_ok {P : Program} (h : (P.funcs.toList.all fun fn => !(fn.name == "runtime.NumGoroutine")) = true) {f : FuncId} {fn : Func} (e : P.funcs[f]? = some fn) : P.funcs[f]? = some fn ∧ (fn.name == "runtime.NumGoroutine") = false := by
  refine ⟨e, ?_⟩
  rw [List.all_eq_true] at h
  have := h fn (by simpa using Array.mem_of_getElem? e)
  simpa using this
end Go.Proofs.YtlnailgfialgnaaGreatDoor.Am

/- Functions of Go's library that are taken by their contracts: what they say, abstractly and typed. -/
set_option linter.unusedVariables false
set_option linter.unusedSimpArgs false
namespace Go.Proofs.YtlnailgfialgnaaGreatDoor.Am
open Go
abbrev XA := List Vl → List Blk → Option (List Vl × List Blk)
abbrev XK := ∀ R : Type, List V2 → List Blk2 → (List V2 × List Blk2 → Option R) → Option R
/-- Where a byte first stands in a text; how often. -/
def idxB (s : ByteArray) (c : Int) : Int := Go.Lib.indexByte s.data.toList c.toNat.toUInt8
def idxS (s t : ByteArray) : Int := Go.Lib.indexByte s.data.toList (t.data.toList.headD 0)
def cntS (s t : ByteArray) : Int := ((Go.Lib.countByte s.data.toList (t.data.toList.headD 0) : Nat) : Int)
def gIndexByte : XA := fun args blks => match args, blks with
  | [.a (.str s), .a (.int .u8 c)], [] => some ([.a (.int .i64 (idxB s c))], [])
  | _, _ => none
def kIndexByte : XK := fun R args blks K => match args, blks with
  | [.a (.str s), .a (.int .u8 c)], [] => K ([.a (.int .i64 (idxB s c))], [])
  | _, _ => none
def gIndexS : XA := fun args blks => match args, blks with
  | [.a (.str s), .a (.str t)], [] => if t.data.toList.length = 1 then some ([.a (.int .i64 (idxS s t))], []) else none
  | _, _ => none
def kIndexS : XK := fun R args blks K => match args, blks with
  | [.a (.str s), .a (.str t)], [] => if t.data.toList.length = 1 then K ([.a (.int .i64 (idxS s t))], []) else none
  | _, _ => none
def gCountS : XA := fun args blks => match args, blks with
  | [.a (.str s), .a (.str t)], [] => if t.data.toList.length = 1 then some ([.a (.int .i64 (cntS s t))], []) else none
  | _, _ => none
def kCountS : XK := fun R args blks K => match args, blks with
  | [.a (.str s), .a (.str t)], [] => if t.data.toList.length = 1 then K ([.a (.int .i64 (cntS s t))], []) else none
  | _, _ => none
def XOk (g : XA) (G : XK) : Prop := ∀ (R : Type) a b, Snd (R := R) (G R a b) fun r => g (a.map V2.at) (b.map Blk2.at) = some (r.1.map V2.at, r.2.map Blk2.at)
theorem kIndexByte_at : XOk gIndexByte kIndexByte := by
  intro R a b K r e
  unfold kIndexByte at e
  split at e
  · exact ⟨_, e, by simp [gIndexByte, V2.at, A2.at]⟩
  · cases e
theorem kIndexS_at : XOk gIndexS kIndexS := by
  intro R a b K r e
  unfold kIndexS at e
  split at e
  · split at e
    · rename_i h
      refine ⟨_, e, ?_⟩
      simp only [List.map_cons, List.map_nil, V2.at, A2.at, gIndexS]
      rw [if_pos h]
    · cases e
  · cases e
theorem kCountS_at : XOk gCountS kCountS := by
  intro R a b K r e
  unfold kCountS at e
  split at e
  · split at e
    · rename_i h
      refine ⟨_, e, ?_⟩
      simp only [List.map_cons, List.map_nil, V2.at, A2.at, gCountS]
      rw [if_pos h]
    · cases e
  · cases e
section
variable {c : Cfg} {k : Nat}
theorem inst_okX {f : FuncId} {g : XA} {G : XK} {sh : FS} {os : List FS} (hX : c.X f = some g) (hG : XOk g G) (F : sh.D → Option (DS FS.D os))
    (hF : ∀ x, F x = G (DS FS.D os) (sh.enc x).1 (sh.enc x).2 (putS FS.dec os)) : InstOk (call c (k + 1)) ⟨f, sh, os, F⟩ := by
  intro x y e
  simp only [] at e
  rw [hF] at e
  obtain ⟨r, e, h1⟩ := hG _ _ _ _ _ e
  have h2 := putS_ok (enc := FS.enc) (Q := fun a b => a = b) (fun s a x h => FS.dec_eq h) (l := os) e
  simp only [call, hX, h1, h2]
end
end Go.Proofs.YtlnailgfialgnaaGreatDoor.Am

/- The tables of this seat's program as the abstract machine reads them. -/
namespace Go.Proofs.YtlnailgfialgnaaGreatDoor.Am
open Go
def Ty : TypeId → Option TI
  | 0 => some ⟨.oth, 1, 0, false, [], false⟩
  | 2 => some ⟨.int .i64, 1, 8, false, [.int .i64 0], false⟩
  | 3 => some ⟨.int .i64, 1, 8, false, [.int .i64 0], false⟩
  | 4 => some ⟨.bool, 1, 1, false, [.bool false], false⟩
  | 5 => some ⟨.int .u8, 1, 1, false, [.int .u8 0], false⟩
  | 9 => some ⟨.str, 1, 16, false, [.str ⟨#[]⟩], false⟩
  | 20 => some ⟨.oth, 1, 16, false, [], false⟩
  | 21 => some ⟨.int .i32, 1, 4, false, [.int .i32 0], false⟩
  | 22 => some ⟨.sl 9, 1, 24, false, [.snil 1 9], false⟩
  | 23 => some ⟨.sl 48, 1, 24, false, [.snil 13 48], false⟩
  | 25 => some ⟨.st [(0, 1), (1, 1)] [2, 3], 2, 16, true, [.int .i64 0, .int .i64 0], true⟩
  | 27 => some ⟨.st [(0, 1), (1, 1), (2, 2), (4, 1)] [22, 23, 25, 3], 5, 72, true, [.snil 1 9, .snil 13 48, .int .i64 0, .int .i64 0, .int .i64 0], false⟩
  | 31 => some ⟨.sl 3, 1, 24, false, [.snil 1 3], false⟩
  | 32 => some ⟨.int .i64, 1, 8, false, [.int .i64 0], false⟩
  | 33 => some ⟨.oth, 1, 0, false, [], false⟩
  | 35 => some ⟨.oth, 1, 0, false, [], false⟩
  | 42 => some ⟨.sl 25, 1, 24, false, [.snil 2 25], false⟩
  | 44 => some ⟨.st [(0, 1), (1, 1), (2, 1)] [3, 42, 31], 3, 56, true, [.int .i64 0, .snil 2 25, .snil 1 3], false⟩
  | 46 => some ⟨.st [(0, 1), (1, 1), (2, 1), (3, 1)] [9, 5, 42, 42], 4, 72, true, [.str ⟨#[]⟩, .int .u8 0, .snil 2 25, .snil 2 25], false⟩
  | 48 => some ⟨.st [(0, 1), (1, 1), (2, 1), (3, 1), (4, 2), (6, 3), (9, 4)] [5, 9, 31, 3, 25, 44, 46], 13, 200, true, [.int .u8 0, .str ⟨#[]⟩, .snil 1 3, .int .i64 0, .int .i64 0, .int .i64 0, .int .i64 0, .snil 2 25, .snil 1 3, .str ⟨#[]⟩, .int .u8 0, .snil 2 25, .snil 2 25], false⟩
  | 51 => some ⟨.sl 2, 1, 24, false, [.snil 1 2], false⟩
  | 53 => some ⟨.st [(0, 1), (1, 1), (2, 1), (3, 1)] [3, 51, 51, 31], 4, 80, true, [.int .i64 0, .snil 1 2, .snil 1 2, .snil 1 3], false⟩
  | 55 => some ⟨.oth, 1, 0, false, [], false⟩
  | 57 => some ⟨.oth, 1, 0, false, [], false⟩
  | 60 => some ⟨.int .u16, 1, 2, false, [.int .u16 0], false⟩
  | 64 => some ⟨.st [(0, 1), (1, 1), (2, 1)] [2, 2, 3], 3, 24, true, [.int .i64 0, .int .i64 0, .int .i64 0], true⟩
  | 65 => some ⟨.oth, 1, 0, false, [], false⟩
  | 67 => some ⟨.oth, 1, 0, false, [], false⟩
  | 69 => some ⟨.sl 106, 1, 24, false, [.snil 1 106], false⟩
  | 71 => some ⟨.st [(0, 1), (1, 1)] [4, 69], 2, 32, true, [.bool false, .snil 1 106], false⟩
  | 73 => some ⟨.st [(0, 2), (2, 2)] [71, 71], 4, 64, true, [.bool false, .snil 1 106, .bool false, .snil 1 106], false⟩
  | 74 => some ⟨.oth, 1, 0, false, [], false⟩
  | 76 => some ⟨.oth, 1, 0, false, [], false⟩
  | 78 => some ⟨.oth, 1, 0, false, [], false⟩
  | 80 => some ⟨.oth, 1, 0, false, [], false⟩
  | 106 => some ⟨.int .u32, 1, 4, false, [.int .u32 0], false⟩
  | 115 => some ⟨.sl 3, 1, 24, false, [.snil 1 3], false⟩
  | 120 => some ⟨.sl 4, 1, 24, false, [.snil 1 4], false⟩
  | 122 => some ⟨.sl 125, 1, 24, false, [.snil 2 125], false⟩
  | 125 => some ⟨.st [(0, 1), (1, 1)] [3, 3], 2, 16, true, [.int .i64 0, .int .i64 0], true⟩
  | 130 => some ⟨.oth, 1, 8, false, [], false⟩
  | 132 => some ⟨.oth, 1, 0, false, [], false⟩
  | 136 => some ⟨.oth, 1, 0, false, [], false⟩
  | 145 => some ⟨.ptr, 1, 8, false, [.nilp], false⟩
  | 147 => some ⟨.st [(0, 1), (1, 1)] [4, 69], 2, 32, true, [.bool false, .snil 1 106], false⟩
  | 151 => some ⟨.ptr, 1, 8, false, [.nilp], false⟩
  | 154 => some ⟨.st [(0, 1), (1, 1)] [4, 31], 2, 32, true, [.bool false, .snil 1 3], false⟩
  | 159 => some ⟨.st [(0, 2), (2, 2)] [154, 154], 4, 64, true, [.bool false, .snil 1 3, .bool false, .snil 1 3], false⟩
  | 162 => some ⟨.oth, 1, 8, false, [], false⟩
  | 180 => some ⟨.st [(0, 2), (2, 2)] [147, 147], 4, 64, true, [.bool false, .snil 1 106, .bool false, .snil 1 106], false⟩
  | 205 => some ⟨.int .u64, 1, 8, false, [.int .u64 0], false⟩
  | 207 => some ⟨.int .u64, 1, 8, false, [.int .u64 0], false⟩
  | 214 => some ⟨.oth, 1, 0, false, [], false⟩
  | 216 => some ⟨.sl 73, 1, 24, false, [.snil 4 73], false⟩
  | 253 => some ⟨.oth, 1, 0, false, [], false⟩
  | 261 => some ⟨.mp 9 3, 1, 8, false, [], false⟩
  | 262 => some ⟨.mp 5 3, 1, 8, false, [], false⟩
  | 264 => some ⟨.arr 2 42, 2, 48, true, [.snil 2 25, .snil 2 25], false⟩
  | 268 => some ⟨.oth, 1, 0, false, [], false⟩
  | 270 => some ⟨.oth, 1, 0, false, [], false⟩
  | 274 => some ⟨.sl 5, 1, 24, false, [.snil 1 5], false⟩
  | 276 => some ⟨.oth, 1, 0, false, [], false⟩
  | 278 => some ⟨.oth, 1, 0, false, [], false⟩
  | 282 => some ⟨.arr 256 5, 256, 256, true, [.int .u8 0, .int .u8 0, .int .u8 0, .int .u8 0, .int .u8 0, .int .u8 0, .int .u8 0, .int .u8 0, .int .u8 0, .int .u8 0, .int .u8 0, .int .u8 0, .int .u8 0, .int .u8 0, .int .u8 0, .int .u8 0, .int .u8 0, .int .u8 0, .int .u8 0, .int .u8 0, .int .u8 0, .int .u8 0, .int .u8 0, .int .u8 0, .int .u8 0, .int .u8 0, .int .u8 0, .int .u8 0, .int .u8 0, .int .u8 0, .int .u8 0, .int .u8 0, .int .u8 0, .int .u8 0, .int .u8 0, .int .u8 0, .int .u8 0, .int .u8 0, .int .u8 0, .int .u8 0, .int .u8 0, .int .u8 0, .int .u8 0, .int .u8 0, .int .u8 0, .int .u8 0, .int .u8 0, .int .u8 0, .int .u8 0, .int .u8 0, .int .u8 0, .int .u8 0, .int .u8 0, .int .u8 0, .int .u8 0, .int .u8 0, .int .u8 0, .int .u8 0, .int .u8 0, .int .u8 0, .int .u8 0, .int .u8 0, .int .u8 0, .int .u8 0, .int .u8 0, .int .u8 0, .int .u8 0, .int .u8 0, .int .u8 0, .int .u8 0, .int .u8 0, .int .u8 0, .int .u8 0, .int .u8 0, .int .u8 0, .int .u8 0, .int .u8 0, .int .u8 0, .int .u8 0, .int .u8 0, .int .u8 0, .int .u8 0, .int .u8 0, .int .u8 0, .int .u8 0, .int .u8 0, .int .u8 0, .int .u8 0, .int .u8 0, .int .u8 0, .int .u8 0, .int .u8 0, .int .u8 0, .int .u8 0, .int .u8 0, .int .u8 0, .int .u8 0, .int .u8 0, .int .u8 0, .int .u8 0, .int .u8 0, .int .u8 0, .int .u8 0, .int .u8 0, .int .u8 0, .int .u8 0, .int .u8 0, .int .u8 0, .int .u8 0, .int .u8 0, .int .u8 0, .int .u8 0, .int .u8 0, .int .u8 0, .int .u8 0, .int .u8 0, .int .u8 0, .int .u8 0, .int .u8 0, .int .u8 0, .int .u8 0, .int .u8 0, .int .u8 0, .int .u8 0, .int .u8 0, .int .u8 0, .int .u8 0, .int .u8 0, .int .u8 0, .int .u8 0, .int .u8 0, .int .u8 0, .int .u8 0, .int .u8 0, .int .u8 0, .int .u8 0, .int .u8 0, .int .u8 0, .int .u8 0, .int .u8 0, .int .u8 0, .int .u8 0, .int .u8 0, .int .u8 0, .int .u8 0, .int .u8 0, .int .u8 0, .int .u8 0, .int .u8 0, .int .u8 0, .int .u8 0, .int .u8 0, .int .u8 0, .int .u8 0, .int .u8 0, .int .u8 0, .int .u8 0, .int .u8 0, .int .u8 0, .int .u8 0, .int .u8 0, .int .u8 0, .int .u8 0, .int .u8 0, .int .u8 0, .int .u8 0, .int .u8 0, .int .u8 0, .int .u8 0, .int .u8 0, .int .u8 0, .int .u8 0, .int .u8 0, .int .u8 0, .int .u8 0, .int .u8 0, .int .u8 0, .int .u8 0, .int .u8 0, .int .u8 0, .int .u8 0, .int .u8 0, .int .u8 0, .int .u8 0, .int .u8 0, .int .u8 0, .int .u8 0, .int .u8 0, .int .u8 0, .int .u8 0, .int .u8 0, .int .u8 0, .int .u8 0, .int .u8 0, .int .u8 0, .int .u8 0, .int .u8 0, .int .u8 0, .int .u8 0, .int .u8 0, .int .u8 0, .int .u8 0, .int .u8 0, .int .u8 0, .int .u8 0, .int .u8 0, .int .u8 0, .int .u8 0, .int .u8 0, .int .u8 0, .int .u8 0, .int .u8 0, .int .u8 0, .int .u8 0, .int .u8 0, .int .u8 0, .int .u8 0, .int .u8 0, .int .u8 0, .int .u8 0, .int .u8 0, .int .u8 0, .int .u8 0, .int .u8 0, .int .u8 0, .int .u8 0, .int .u8 0, .int .u8 0, .int .u8 0, .int .u8 0, .int .u8 0, .int .u8 0, .int .u8 0, .int .u8 0, .int .u8 0, .int .u8 0, .int .u8 0, .int .u8 0, .int .u8 0, .int .u8 0, .int .u8 0, .int .u8 0, .int .u8 0, .int .u8 0, .int .u8 0, .int .u8 0, .int .u8 0, .int .u8 0, .int .u8 0, .int .u8 0, .int .u8 0, .int .u8 0, .int .u8 0, .int .u8 0, .int .u8 0, .int .u8 0], false⟩
  | 284 => some ⟨.st [(0, 1), (1, 1)] [5, 5], 2, 2, true, [.int .u8 0, .int .u8 0], true⟩
  | 285 => some ⟨.arr 16 284, 32, 32, true, [.int .u8 0, .int .u8 0, .int .u8 0, .int .u8 0, .int .u8 0, .int .u8 0, .int .u8 0, .int .u8 0, .int .u8 0, .int .u8 0, .int .u8 0, .int .u8 0, .int .u8 0, .int .u8 0, .int .u8 0, .int .u8 0, .int .u8 0, .int .u8 0, .int .u8 0, .int .u8 0, .int .u8 0, .int .u8 0, .int .u8 0, .int .u8 0, .int .u8 0, .int .u8 0, .int .u8 0, .int .u8 0, .int .u8 0, .int .u8 0, .int .u8 0, .int .u8 0], false⟩
  | _ => none
def kps : FuncId → Nat → List Kp
  | 3, 0 => [.s 1, .b 2, .b 5, .s 6, .s 10, .s 77, .s 78]
  | 4, 0 => [.s 1, .b 3, .s 7, .s 9, .b 10, .s 11, .s 13, .s 80, .s 81, .s 82]
  | 4, 2 => [.s 1, .b 3, .s 7, .s 9, .b 10, .s 11, .s 13, .s 15, .s 80, .s 81, .s 82]
  | 8, 0 => [.s 3, .s 4, .s 5, .b 6, .s 7, .s 8, .s 9, .s 45, .s 46, .s 47]
  | 14, 0 => [.b 1, .s 3, .s 4]
  | 15, 0 => [.b 1, .b 2, .b 3, .s 4]
  | 16, 0 => [.b 2, .s 7, .s 8, .s 28, .s 29, .s 30]
  | 16, 2 => [.s 7, .s 11, .s 66, .s 67]
  | 17, 0 => [.s 1, .s 7, .s 8, .s 22, .s 23, .s 24]
  | 18, 0 => [.s 7, .s 8, .s 9]
  | 19, 0 => [.s 1, .b 2, .s 7, .s 8, .s 9]
  | 20, 0 => [.s 0, .s 1, .s 5]
  | 23, 0 => [.b 2, .b 3, .s 5]
  | 24, 0 => [.b 1, .s 3, .s 4]
  | 24, 2 => [.b 1, .s 3, .s 5]
  | 26, 0 => [.b 2, .s 5, .s 6]
  | 27, 0 => [.b 3, .b 4, .s 14, .s 15, .s 52, .s 53, .s 54]
  | 28, 0 => [.s 2, .b 3, .b 4, .s 10, .s 11, .s 12]
  | 29, 0 => [.b 2, .b 3, .s 8, .s 9]
  | 31, 0 => [.s 0, .s 5, .s 6, .s 7]
  | 32, 0 => [.s 0, .b 2, .s 5, .s 15, .s 16, .s 17]
  | 33, 0 => [.s 0, .b 2, .b 4, .s 5]
  | 34, 0 => [.s 0, .s 1, .s 2, .s 8]
  | 35, 0 => [.s 0, .s 1, .s 2, .s 8, .s 9]
  | 36, 0 => [.s 0, .s 1, .s 2, .s 8]
  | 37, 0 => [.s 0, .s 1, .s 2, .s 8, .s 9]
  | 39, 0 => [.s 0, .s 1, .s 5]
  | 40, 0 => [.s 0, .s 3]
  | 58, 0 => [.s 3, .s 7, .s 8]
  | 61, 0 => [.s 0, .s 1]
  | 63, 0 => [.s 0, .s 2, .s 7, .s 8]
  | 63, 2 => [.s 0, .s 2, .s 7, .s 8, .s 9]
  | 64, 0 => [.s 1, .b 2, .s 5, .s 6]
  | 65, 0 => [.s 0, .s 1, .s 5]
  | 68, 1 => [.b 2, .b 3, .s 5, .s 6, .s 7, .s 8, .s 9, .s 10]
  | 69, 0 => [.s 0, .s 3, .s 4, .s 5]
  | 70, 0 => [.s 0, .s 3]
  | 71, 0 => [.b 1, .s 4, .s 5, .s 6]
  | 73, 0 => [.b 2, .b 3, .s 67, .s 68, .s 69]
  | 75, 0 => [.s 1, .s 9, .s 10, .s 11]
  | 77, 0 => [.s 1, .b 2, .s 6]
  | 80, 0 => [.b 1, .s 3, .s 4]
  | 81, 0 => [.s 0, .s 3]
  | 84, 0 => [.s 0, .s 3, .s 4]
  | 85, 0 => [.s 0, .s 3, .s 4]
  | 91, 0 => [.b 2, .b 3, .s 4]
  | 94, 0 => [.s 0, .b 2, .b 3]
  | 97, 0 => [.b 2, .b 3, .s 5]
  | 98, 0 => [.s 3, .s 6, .s 7, .s 8]
  | 120, 0 => [.b 1, .s 59, .s 60, .s 61]
  | 120, 2 => [.b 1, .s 5, .s 70, .s 71, .s 72]
  | 122, 0 => [.b 2, .b 3, .s 5]
  | 124, 0 => [.b 1, .s 3]
  | 124, 2 => [.b 1, .s 4]
  | 125, 0 => [.b 1, .s 3]
  | 125, 2 => [.b 1, .s 4]
  | 126, 0 => [.s 0, .s 3]
  | 127, 0 => [.s 0, .s 1, .s 5]
  | 130, 0 => [.s 3, .s 7, .s 8, .s 9]
  | 137, 0 => [.s 0, .s 1, .s 7, .s 8]
  | 138, 0 => [.s 0, .s 1, .s 5]
  | 141, 0 => [.s 0, .s 3]
  | 145, 0 => [.s 0, .s 1, .s 5, .s 6, .s 7]
  | 146, 0 => [.s 0, .s 1, .s 5]
  | 147, 0 => [.s 0, .s 1, .s 5, .s 6, .s 7]
  | 148, 0 => [.b 1, .b 2, .b 3, .s 4]
  | 151, 0 => [.b 2, .b 3, .b 4]
  | 152, 0 => [.b 2, .b 3, .b 4, .b 5, .s 6, .s 7, .s 8]
  | 155, 0 => [.s 0, .s 1, .s 2, .s 7, .s 29, .s 30, .s 31]
  | 155, 2 => [.s 0, .s 1, .s 2, .s 7, .s 8, .s 9, .s 10, .s 29, .s 30, .s 31, .s 39, .s 40, .s 41]
  | 183, 0 => [.s 0, .s 3, .s 7, .s 8, .s 9]
  | 185, 0 => [.b 2, .b 3, .s 30, .s 31, .s 32]
  | 186, 0 => [.s 4, .s 5, .s 14, .s 15, .s 16]
  | 188, 0 => [.s 0, .s 1, .s 5]
  | 189, 0 => [.s 0, .s 3]
  | 192, 0 => [.b 1, .s 18, .s 19]
  | 192, 2 => [.b 1, .s 18, .s 19, .s 22, .s 23, .s 24]
  | 192, 5 => [.b 1, .s 7]
  | 193, 0 => [.s 0, .s 1, .s 2, .s 3, .s 9, .s 10]
  | 194, 0 => [.s 0, .s 1, .s 7, .s 8]
  | 197, 0 => [.s 0, .s 1, .s 7, .s 8]
  | 199, 0 => [.s 0, .s 1, .s 5, .s 6, .s 21, .s 22]
  | 200, 0 => [.s 0, .s 1, .s 5]
  | 201, 0 => [.s 0, .s 1, .s 5, .s 6, .s 13, .s 14]
  | 203, 0 => [.s 5, .s 6]
  | 205, 0 => [.s 0, .s 3]
  | 207, 0 => [.s 0, .s 1, .s 5, .s 6]
  | 208, 0 => [.b 2, .b 3, .b 4, .s 5, .s 6]
  | 208, 2 => [.b 2, .b 3, .b 4, .s 5, .s 6, .s 7, .s 8]
  | 217, 0 => [.s 0, .b 2, .b 3, .s 4]
  | 222, 0 => [.b 1, .s 9, .s 10, .s 11]
  | 222, 2 => [.b 1, .s 20, .s 21, .s 22]
  | 222, 5 => [.b 1, .s 7]
  | 226, 0 => [.s 14, .s 15, .s 16]
  | 228, 0 => [.s 0, .s 1, .s 6, .s 7]
  | 229, 0 => [.s 0, .s 1, .s 5]
  | 234, 0 => [.s 3, .s 4, .s 7, .s 8]
  | 237, 0 => [.s 2, .s 4]
  | 241, 0 => [.s 0, .s 1, .s 6, .s 7, .s 8]
  | 242, 0 => [.s 0, .s 1, .s 6]
  | 242, 2 => [.s 4, .s 6, .s 7, .s 8, .s 9, .s 10]
  | 242, 4 => [.s 4, .s 6, .s 7, .s 8, .s 9, .s 10, .s 12, .s 13]
  | 242, 6 => [.s 4, .s 5, .s 6, .s 8, .s 139, .s 140]
  | 247, 0 => [.s 1, .s 5, .s 13, .s 14, .s 15]
  | 248, 0 => [.s 0, .s 1, .s 2, .s 7, .s 8, .s 14, .s 15]
  | 248, 2 => [.s 0, .s 1, .s 2, .s 7, .s 61, .s 62]
  | _, _ => []
def muts : FuncId → Bool
  | 248 => true
  | 205 => true
  | 61 => true
  | 60 => true
  | _ => false
def owns : FuncId → Bool
  | 15 => true
  | 58 => true
  | 101 => true
  | 158 => true
  | 205 => true
  | 247 => true
  | 16 => true
  | 17 => true
  | 63 => true
  | _ => false
def xas : FuncId → Option XA
  | 59 => some gIndexByte
  | 230 => some gIndexS
  | 229 => some gCountS
  | _ => none
noncomputable def cf : Cfg := { T := Ty, F := fun f => Tryz.prog.funcs[f]?, X := xas, mutA := muts, ownR := owns, keep := kps }
end Go.Proofs.YtlnailgfialgnaaGreatDoor.Am

/- Functions of Go's library by their contracts: the abstract rules say what the contracts say. -/
set_option linter.unusedVariables false
set_option linter.unusedSimpArgs false
namespace Go.Proofs.YtlnailgfialgnaaGreatDoor.Am
open Go Go.Sort
section
variable {P : Program}
/-- What an outside function's rule owes. -/
def XSays (P : Program) (f : FuncId) (g : XA) : Prop := ∀ args blks rs bs, g args blks = some (rs, bs) → Enters P f ∧ ∀ (w : World) (ι : Io) (h : Hp) (vals : Array Value), RVs ι h args vals.toList → (∀ m ∈ namesV args, m < blks.length) → Mm ι h w blks →
    Calls P f vals w fun e w' => ∃ (us : Array Value) (ι' : Io) (h' : Hp), e = .returned (packV us) ∧ Post ι h w blks rs bs us.toList w' ι' h'
theorem packV_one (v : Value) : packV #[v] = v := by simp [packV]
/-- A function that only reckons. -/
theorem scalar_x {f : FuncId} {g : XA} (hE : Enters P f) (hg : ∀ args blks rs bs, g args blks = some (rs, bs) → blks = [] ∧ bs = [] ∧ ∃ z : Int, rs = [.a (.int .i64 z)] ∧ ∀ (ι : Io) (h : Hp) (w : World) (vals : Array Value), RVs ι h args vals.toList →
    Calls P f vals w fun e w' => e = .returned (.int .i64 z) ∧ w' = w) : XSays P f g := by
  intro args blks rs bs e
  obtain ⟨rfl, rfl, z, rfl, hc⟩ := hg args blks rs bs e
  refine ⟨hE, fun w ι h vals hv hn hm => (hc ι h w vals hv).mono ?_⟩
  rintro e w' ⟨rfl, rfl⟩
  refine ⟨#[.int .i64 z], ι, h, by rw [packV_one], ⟨⟨rfl, fun j x hx => ?_⟩, fun m hm => ?_, Sub.refl h, Nat.le_refl _, fun _ _ => rfl, hm, fun i B L hB => ?_, fun i B L hB => ?_, fun _ _ _ => rfl, fun _ _ _ => rfl, Nat.le_refl _, rfl, rfl, rfl⟩⟩
  · cases j with
    | succ j => simp at hx
    | zero => cases hx; exact ⟨_, rfl, .int _ _⟩
  · simp [namesV, Vl.cells, At.nm] at hm
  · simp at hB
  · simp at hB
theorem two_val {vals : Array Value} {ι : Io} {h : Hp} {x y : Vl} (hv : RVs ι h [x, y] vals.toList) : ∃ u v, vals = #[u, v] ∧ RV ι h x u ∧ RV ι h y v := by
  obtain ⟨u, h1, h2⟩ := hv.2 0 x rfl
  obtain ⟨v, h3, h4⟩ := hv.2 1 y rfl
  refine ⟨u, v, ?_, h2, h4⟩
  have hl := hv.1
  cases vals with | mk l =>
  match l, hl, h1, h3 with
  | [a, b], _, h1, h3 => simp at h1 h3; rw [h1, h3]
theorem one_byte {t : ByteArray} (h : t.data.toList.length = 1) : t = ⟨#[t.data.toList.headD 0]⟩ := by
  cases t with | mk d => cases d with | mk l =>
  match l, h with
  | [b], _ => rfl
theorem indexByte_x {f : FuncId} (hE : Enters P f) (hS : ∀ (s : ByteArray) (c : Int) (w : World), Calls P f #[.string s, .int .u8 c] w fun e w' => e = .returned (.int .i64 (Go.Lib.indexByte s.data.toList c.toNat.toUInt8)) ∧ w' = w) : XSays P f gIndexByte := by
  refine scalar_x hE fun args blks rs bs e => ?_
  unfold gIndexByte at e
  split at e
  · rename_i s c
    cases e
    refine ⟨rfl, rfl, _, rfl, fun ι h w vals hv => ?_⟩
    obtain ⟨u, v, rfl, r1, r2⟩ := two_val hv
    have r1 : RP h _ _ := r1
    have r2 : RP h _ _ := r2
    cases r1; cases r2
    exact hS s c w
  · cases e
theorem indexS_x {f : FuncId} (hE : Enters P f) (hS : ∀ (s : ByteArray) (c : UInt8) (w : World), Calls P f #[.string s, .string ⟨#[c]⟩] w fun e w' => e = .returned (.int .i64 (Go.Lib.indexByte s.data.toList c)) ∧ w' = w) : XSays P f gIndexS := by
  refine scalar_x hE fun args blks rs bs e => ?_
  unfold gIndexS at e
  split at e
  · rename_i s t
    split at e
    · rename_i h1
      cases e
      refine ⟨rfl, rfl, _, rfl, fun ι h w vals hv => ?_⟩
      obtain ⟨u, v, rfl, r1, r2⟩ := two_val hv
      have r1 : RP h _ _ := r1
      have r2 : RP h _ _ := r2
      cases r1; cases r2
      have := hS s (t.data.toList.headD 0) w
      rw [← one_byte h1] at this
      exact this
    · cases e
  · cases e
theorem countS_x {f : FuncId} (hE : Enters P f) (hS : ∀ (s : ByteArray) (c : UInt8) (w : World), Calls P f #[.string s, .string ⟨#[c]⟩] w fun e w' => e = .returned (.int .i64 ((Go.Lib.countByte s.data.toList c : Nat) : Int)) ∧ w' = w) : XSays P f gCountS := by
  refine scalar_x hE fun args blks rs bs e => ?_
  unfold gCountS at e
  split at e
  · rename_i s t
    split at e
    · rename_i h1
      cases e
      refine ⟨rfl, rfl, _, rfl, fun ι h w vals hv => ?_⟩
      obtain ⟨u, v, rfl, r1, r2⟩ := two_val hv
      have r1 : RP h _ _ := r1
      have r2 : RP h _ _ := r2
      cases r1; cases r2
      have := hS s (t.data.toList.headD 0) w
      rw [← one_byte h1] at this
      exact this
    · cases e
  · cases e
end
end Go.Proofs.YtlnailgfialgnaaGreatDoor.Am

/- The library's functions that are taken by their contracts. -/
set_option linter.unusedVariables false
set_option maxRecDepth 100000
namespace Go.Proofs.YtlnailgfialgnaaGreatDoor.Am
open Go Go.Shelf
def xlays137_ren : Go.Shelf.Ren := ⟨fun | 137 => 59 | 217 => 121 | 266 => 187 | n => n, fun | 9 => 9 | 5 => 5 | 3 => 3 | n => n, fun | n => n⟩
theorem xlays137 : Go.Proofs.Lays.n137 Tryz.prog xlays137_ren := {
  mixed := by kernel_rfl
  f137 := Tryz.func59.trans (congrArg some (by kernel_rfl))
  f217 := Tryz.func121.trans (congrArg some (by kernel_rfl))
  f266 := Tryz.func187.trans (congrArg some (by kernel_rfl))
  t3 := Tryz.underlying3
  a3 := Tryz.isAgg3
  z3 := Tryz.sizeOf3
  v3 := Tryz.zeroValue3
  t5 := Tryz.underlying5
  a5 := Tryz.isAgg5
  z5 := Tryz.sizeOf5
  v5 := Tryz.zeroValue5
  t9 := Tryz.underlying9
  a9 := Tryz.isAgg9
  z9 := Tryz.sizeOf9
  v9 := Tryz.zeroValue9 }
def xlays143_ren : Go.Shelf.Ren := ⟨fun | 143 => 230 | 219 => 240 | 217 => 121 | 225 => 244 | 224 => 245 | 267 => 246 | 266 => 187 | 314 => 249 | n => n, fun | 9 => 9 | 3 => 3 | 4 => 4 | 5 => 5 | 46 => 207 | 146 => 286 | 51 => 106 | n => n, fun | 1 => 0 | n => n⟩
theorem xlays143 : Go.Proofs.Lays.n143 Tryz.prog xlays143_ren := {
  mixed := by kernel_rfl
  f143 := Tryz.func230.trans (congrArg some (by kernel_rfl))
  f217 := Tryz.func121.trans (congrArg some (by kernel_rfl))
  f219 := Tryz.func240.trans (congrArg some (by kernel_rfl))
  f224 := Tryz.func245.trans (congrArg some (by kernel_rfl))
  f225 := Tryz.func244.trans (congrArg some (by kernel_rfl))
  f266 := Tryz.func187.trans (congrArg some (by kernel_rfl))
  f267 := Tryz.func246.trans (congrArg some (by kernel_rfl))
  f314 := Tryz.func249.trans (congrArg some (by kernel_rfl))
  t3 := Tryz.underlying3
  a3 := Tryz.isAgg3
  z3 := Tryz.sizeOf3
  v3 := Tryz.zeroValue3
  t4 := Tryz.underlying4
  a4 := Tryz.isAgg4
  z4 := Tryz.sizeOf4
  v4 := Tryz.zeroValue4
  t5 := Tryz.underlying5
  a5 := Tryz.isAgg5
  z5 := Tryz.sizeOf5
  v5 := Tryz.zeroValue5
  t9 := Tryz.underlying9
  a9 := Tryz.isAgg9
  z9 := Tryz.sizeOf9
  v9 := Tryz.zeroValue9
  t46 := Tryz.underlying207
  a46 := Tryz.isAgg207
  z46 := Tryz.sizeOf207
  v46 := Tryz.zeroValue207
  t51 := Tryz.underlying106
  a51 := Tryz.isAgg106
  z51 := Tryz.sizeOf106
  v51 := Tryz.zeroValue106
  t146 := Tryz.underlying286
  a146 := Tryz.isAgg286
  z146 := Tryz.sizeOf286
  v146 := Tryz.zeroValue286
  g1 := by kernel_rfl }
def xlays138_ren : Go.Shelf.Ren := ⟨fun | 138 => 229 | 195 => 237 | 218 => 239 | 143 => 230 | 219 => 240 | 217 => 121 | 225 => 244 | 224 => 245 | 267 => 246 | 266 => 187 | 314 => 249 | n => n, fun | 9 => 9 | 3 => 3 | 4 => 4 | 5 => 5 | 0 => 0 | 46 => 207 | 146 => 286 | 51 => 106 | n => n, fun | 1 => 0 | n => n⟩
theorem xlays138 : Go.Proofs.Lays.n138 Tryz.prog xlays138_ren := {
  mixed := by kernel_rfl
  f138 := Tryz.func229.trans (congrArg some (by kernel_rfl))
  f143 := Tryz.func230.trans (congrArg some (by kernel_rfl))
  f195 := Tryz.func237.trans (congrArg some (by kernel_rfl))
  f217 := Tryz.func121.trans (congrArg some (by kernel_rfl))
  f218 := Tryz.func239.trans (congrArg some (by kernel_rfl))
  f219 := Tryz.func240.trans (congrArg some (by kernel_rfl))
  f224 := Tryz.func245.trans (congrArg some (by kernel_rfl))
  f225 := Tryz.func244.trans (congrArg some (by kernel_rfl))
  f266 := Tryz.func187.trans (congrArg some (by kernel_rfl))
  f267 := Tryz.func246.trans (congrArg some (by kernel_rfl))
  f314 := Tryz.func249.trans (congrArg some (by kernel_rfl))
  t0 := Tryz.underlying0
  a0 := Tryz.isAgg0
  z0 := Tryz.sizeOf0
  v0 := Tryz.zeroValue0
  t3 := Tryz.underlying3
  a3 := Tryz.isAgg3
  z3 := Tryz.sizeOf3
  v3 := Tryz.zeroValue3
  t4 := Tryz.underlying4
  a4 := Tryz.isAgg4
  z4 := Tryz.sizeOf4
  v4 := Tryz.zeroValue4
  t5 := Tryz.underlying5
  a5 := Tryz.isAgg5
  z5 := Tryz.sizeOf5
  v5 := Tryz.zeroValue5
  t9 := Tryz.underlying9
  a9 := Tryz.isAgg9
  z9 := Tryz.sizeOf9
  v9 := Tryz.zeroValue9
  t46 := Tryz.underlying207
  a46 := Tryz.isAgg207
  z46 := Tryz.sizeOf207
  v46 := Tryz.zeroValue207
  t51 := Tryz.underlying106
  a51 := Tryz.isAgg106
  z51 := Tryz.sizeOf106
  v51 := Tryz.zeroValue106
  t146 := Tryz.underlying286
  a146 := Tryz.isAgg286
  z146 := Tryz.sizeOf286
  v146 := Tryz.zeroValue286
  g1 := by kernel_rfl }

theorem xs_ok : ∀ f g args blks rs bs, cf.X f = some g → g args blks = some (rs, bs) → Enters Tryz.prog f ∧ ∀ (w : World) (ι : Io) (h : Hp) (vals : Array Value), RVs ι h args vals.toList → (∀ m ∈ namesV args, m < blks.length) → Mm ι h w blks →
    Calls Tryz.prog f vals w fun e w' => ∃ (us : Array Value) (ι' : Io) (h' : Hp), e = .returned (packV us) ∧ Post ι h w blks rs bs us.toList w' ι' h' := by
  intro f g args blks rs bs h
  change xas f = some g at h
  unfold xas at h
  split at h
  · cases h; exact indexByte_x ⟨_, Tryz.func59, by kernel_rfl, by kernel_rfl⟩ (fun s c w => Any.strings_IndexByte xlays137 s c w) args blks rs bs
  · cases h; exact indexS_x ⟨_, Tryz.func230, by kernel_rfl, by kernel_rfl⟩ (fun s c w => Any.strings_Index_one xlays143 s c w) args blks rs bs
  · cases h; exact countS_x ⟨_, Tryz.func229, by kernel_rfl, by kernel_rfl⟩ (fun s c w => Any.strings_Count_one xlays138 s c w) args blks rs bs
  · cases h
end Go.Proofs.YtlnailgfialgnaaGreatDoor.Am

/- Layer 20: the tables are the program's. -/
set_option linter.unusedVariables false
set_option maxRecDepth 100000
namespace Go.Proofs.YtlnailgfialgnaaGreatDoor.Am
open Go
theorem ty_ok : TyOk Tryz.prog Ty := by
  intro t i h
  unfold Ty at h
  split at h <;> first | (cases h; done) | (cases h; exact tok_of (by kernel_rfl))
theorem names : (Tryz.prog.funcs.toList.all fun fn => !(fn.name == "runtime.NumGoroutine")) = true := by kernel_rfl
theorem cfg_ok : CfgOk Tryz.prog cf :=
  { ty := ty_ok, fn := fun f fn e => names_ok names e, ext := xs_ok, mo := by kernel_rfl }
end Go.Proofs.YtlnailgfialgnaaGreatDoor.Am

/- A law's arguments, opened as typed words; the law's call. -/
set_option linter.unusedVariables false
set_option linter.unusedSimpArgs false
namespace Go.Proofs.YtlnailgfialgnaaGreatDoor.Am
open Go Go.RowKit Go.WideShapes

def cdPL (f : TypeId → Option Cd) : List Field → Option Cd
  | [] => none
  | [x] => f x.type
  | x :: r => (f x.type).bind fun a => (cdPL f r).bind fun b => some (.pr a b)
/-- At least so many bytes. -/
def Cd.by : Cd → Nat
  | .int .i8 | .int .u8 | .bool => 1
  | .int .i16 | .int .u16 => 2
  | .int .i32 | .int .u32 => 4
  | .int _ => 8
  | .str => 16
  | .sl _ => 24
  | .pr a b => a.by + b.by
  | .ref _ => 8
/-- A type's words, by the program's own tables. -/
def cdP (P : Program) : Nat → TypeId → Option Cd
  | 0, _ => none
  | k + 1, t => match P.underlying t with
    | some (.int k) => some (.int k)
    | some .bool => some .bool
    | some .string => some .str
    | some (.slice e) => (cdP P k e).bind fun c => if P.cellsOf e = c.sz ∧ c.by ≤ P.bytesOf e then some (.sl c) else none
    | some (.struct fs) => if tiles P fs.toList 0 (P.cellsOf t) = true then cdPL (cdP P k) fs.toList else none
    | _ => none
/-- What an argument's words keep to. -/
def Wfd : (c : Cd) → c.D → Prop
  | .int k, n => (Lit.int k n).wf = true
  | .bool, _ => True
  | .str, s => s.size ≤ maxLen ∧ s.size ≤ reachBytes
  | .sl c, l => (l.length ≤ maxLen ∧ l.length * c.by ≤ reachBytes) ∧ ∀ x ∈ l, Wfd c x
  | .pr a b, x => Wfd a x.1 ∧ Wfd b x.2
  | .ref _, _ => False

section
variable {P : Program}
theorem typed_cd : ∀ (k : Nat) (t : TypeId) (c : Cd), cdP P k t = some c → ∀ xs : List At, Typed P t xs → ∃ y : c.D, xs = c.at y ∧ Wfd c y := by
  intro k
  induction k with
  | zero => intro t c h; cases h
  | succ k ih =>
    intro t c h xs ht
    simp only [cdP] at h
    split at h
    · rename_i kk hu
      cases h
      obtain ⟨n, rfl, hw⟩ := typed_int hu ht
      exact ⟨n, rfl, hw⟩
    · rename_i hu
      cases h
      obtain ⟨b, rfl⟩ := typed_bool hu ht
      exact ⟨b, rfl, trivial⟩
    · rename_i hu
      cases h
      obtain ⟨s, rfl, hs⟩ := typed_str hu ht
      exact ⟨s, rfl, hs⟩
    · rename_i e hu
      simp only [Option.bind_eq_some_iff] at h
      obtain ⟨c', h1, h⟩ := h
      split at h
      · rename_i hz
        cases h
        obtain ⟨els, rfl, hn, hnb, hel⟩ := typed_sl hu ht
        have key : ∀ els : List (List At), (∀ el ∈ els, Typed P e el) → ∃ l : List c'.D, els = l.map c'.at ∧ ∀ x ∈ l, Wfd c' x := by
          intro els
          induction els with
          | nil => intro _; exact ⟨[], rfl, by simp⟩
          | cons x r ih2 =>
            intro hx
            obtain ⟨y, rfl, hw⟩ := ih e c' h1 x (hx x (List.mem_cons_self ..))
            obtain ⟨l, rfl, hl⟩ := ih2 fun el hm => hx el (List.mem_cons_of_mem _ hm)
            exact ⟨y :: l, rfl, fun z hz => by
              rcases List.mem_cons.1 hz with rfl | hz
              · exact hw
              · exact hl z hz⟩
        obtain ⟨l, rfl, hl⟩ := key els hel
        rw [List.length_map] at hn hnb ⊢
        exact ⟨l, by simp only [Cd.at, hz.1], ⟨hn, Nat.le_trans (Nat.mul_le_mul_left _ hz.2) hnb⟩, hl⟩
      · cases h
    · rename_i fs hu
      split at h
      · rename_i htile
        obtain ⟨hcl, hf⟩ := typed_st hu ht
        have key : ∀ (l : List Field) (o : Nat) (c : Cd), cdPL (cdP P k) l = some c → tiles P l o (P.cellsOf t) = true → (∀ f ∈ l, Typed P f.type ((xs.drop f.offset).take (P.cellsOf f.type))) → ∃ y : c.D, xs.drop o = c.at y ∧ Wfd c y := by
          intro l
          induction l with
          | nil => intro o c h; cases h
          | cons f r ih2 =>
            intro o c h ho hfs
            simp only [tiles, Bool.and_eq_true, beq_iff_eq] at ho
            obtain ⟨rfl, ho⟩ := ho
            have h0 := hfs f (List.mem_cons_self ..)
            cases r with
            | nil =>
              simp only [cdPL] at h
              simp only [tiles, beq_iff_eq] at ho
              obtain ⟨y, h2, h3⟩ := ih f.type c h _ h0
              refine ⟨y, ?_, h3⟩
              rw [← h2, List.take_of_length_le]
              rw [List.length_drop]; omega
            | cons g r =>
              simp only [cdPL, Option.bind_eq_some_iff] at h
              obtain ⟨a, h4, b, h5, h⟩ := h
              cases h
              obtain ⟨y, h2, h3⟩ := ih f.type a h4 _ h0
              obtain ⟨z, h6, h7⟩ := ih2 _ b h5 ho fun g hg => hfs g (List.mem_cons_of_mem _ hg)
              refine ⟨(y, z), ?_, h3, h7⟩
              simp only [Cd.at]
              rw [← h2, ← h6, ← List.drop_drop, List.take_append_drop]
        obtain ⟨y, h1, h2⟩ := key fs.toList 0 c h htile fun f hfm => by
          obtain ⟨i, hi⟩ := List.getElem?_of_mem hfm
          exact hf i f (by simpa using hi)
        exact ⟨y, by simpa using h1, h2⟩
      · cases h
    · cases h

def isStP (P : Program) (t : TypeId) : Bool := match P.underlying t with
  | some (.struct _) => true
  | _ => false
/-- An argument as the typed machine has it. -/
def argV (st : Bool) (c : Cd) (y : c.D) : V2 := if st then .g (c.cl y) else .a ((c.cl y).headD .nilp)
variable {H : Type} {enc : TypeId × Value → H} {w : World} {base : Nat} {sp : Nat → Bool} {held : Bool}
theorem open_cd {d base' : Nat} {t : TypeId} {c : Cd} (st : Bool) (ht : plainT P d t = true) (hc : cdP P 9 t = some c) (hst : isStP P t = st) {v : Value} (hval : Value.okWide P w .any base' t v) {D : DataW H} {ps : List MemPlace}
    (hd : DataW.Trod enc P w base sp held t v D ps) (hwt : (DataW.weights P t D).all (· ≤ reachBytes) = true) : ∃ y : c.D, RV (fun _ => none) (view w) (argV st c y).at v ∧ namesV [(argV st c y).at] = [] ∧ Wfd c y := by
  obtain ⟨x, h1, h2, h3, h4, h5⟩ := open_arg ht hval hd hwt
  obtain ⟨y, h6, h7⟩ := typed_cd 9 t c hc _ h3
  have hx : x = (argV st c y).at := by
    unfold isStP at hst
    cases hu : P.underlying t with
    | none => rw [hu] at hst; simp only at hst; subst hst
              rcases h4 with ⟨z, rfl⟩ | ⟨fs, e⟩
              · simp only [argV, Bool.false_eq_true, if_false, V2.at]
                simp only [Vl.cells] at h6
                rw [← cl_at] at h6
                match hq : c.cl y, h6 with
                | [], h6 => cases h6
                | q :: r, h6 => simp only [List.map_cons, List.cons.injEq] at h6; rw [h6.1]; rfl
              · rw [hu] at e; cases e
    | some dd =>
      cases st with
      | true =>
        have hs : ∃ fs, P.underlying t = some (.struct fs) := by
          rw [hu] at hst
          cases dd <;> simp only at hst <;> first | exact ⟨_, hu⟩ | cases hst
        rcases h5 with ⟨ys, rfl⟩ | e
        · simp only [argV, if_true, V2.at, cl_at]
          rw [← h6]; rfl
        · exact absurd hs e
      | false =>
        rcases h4 with ⟨z, rfl⟩ | ⟨fs, e⟩
        · simp only [argV, Bool.false_eq_true, if_false, V2.at]
          simp only [Vl.cells] at h6
          rw [← cl_at] at h6
          match hq : c.cl y, h6 with
          | [], h6 => cases h6
          | q :: r, h6 => simp only [List.map_cons, List.cons.injEq] at h6; rw [h6.1]; rfl
        · rw [hu] at e hst; cases e; cases hst
  subst hx
  exact ⟨y, h1, h2, h7⟩
theorem rvs_nil {ι : Io} {h : Hp} : RVs ι h [] [] := ⟨rfl, by simp⟩
theorem rvs_cons {ι : Io} {h : Hp} {x : Vl} {v : Value} {xs : List Vl} {vs : List Value} (h1 : RV ι h x v) (h2 : RVs ι h xs vs) : RVs ι h (x :: xs) (v :: vs) := by
  refine ⟨by simp [h2.1], fun j y e => ?_⟩
  cases j with
  | zero => simp at e; subst e; exact ⟨v, rfl, h1⟩
  | succ j => simp at e; simpa using h2.2 j y e
theorem names_cons {x : Vl} {xs : List Vl} (h1 : namesV [x] = []) (h2 : namesV xs = []) : namesV (x :: xs) = [] := by
  simp only [namesV, List.flatMap_cons, List.flatMap_nil, List.append_nil] at h1 h2 ⊢
  rw [h1, h2]; rfl
/-- A law's call, by its printed function. -/
theorem law_inst {c : Cfg} (hk : CfgOk P c) {k : Nat} {i : Inst} (hi : InstOk (call c k) i) {x : i.sh.D} {y : DS FS.D i.os} (h : i.F x = some y) (hy : encS FS.enc i.os y = ([.a (.bool true)], []))
    {args : List V2} (ha : i.sh.enc x = (args, [])) {vals : Array Value} (hr : RVs (fun _ => none) (view w) (args.map V2.at) vals.toList) (hn : namesV (args.map V2.at) = []) :
    Calls P i.f vals w fun e w' => e = .returned (.bool true) ∧ Below w.heap.size w w' := by
  have := hi x y h
  rw [hy, ha] at this
  exact law_calls hk hr hn this
end
end Go.Proofs.YtlnailgfialgnaaGreatDoor.Am

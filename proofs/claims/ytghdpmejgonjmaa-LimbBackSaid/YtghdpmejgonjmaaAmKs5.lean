/- Functions and loops by their shapes: what a printed function says, the abstract machine says. -/
import Derived.Test.YtghdpmejgonjmaaAmKs4
import Derived.Test.YtghdpmejgonjmaaAmEv
set_option linter.unusedVariables false
set_option linter.unusedSimpArgs false
namespace Go.Proofs.Ytghdpmejgonjmaa.Am
open Go

section
variable {R : Type} {c : Cfg} {callF : FuncId → List Vl → List Blk → Option (List Vl × List Blk)} {CO : FuncId → List V2 → List Blk2 → (List V2 × List Blk2 → Option R) → Option R}
  {LO : Nat → Code → St2 → (Out2 → Option R) → Option R} {σ2 : St2} {σ : St} {nt : Nat} {kp : Nat → List Kp} {k p : Nat}

theorem resOf_at (hs : StR σ2 σ) {v : ResultVar} {x : V2} (e : resOf2 c σ2 v = some x) : resOf c σ v = some x.at := by
  cases v with
  | tmp t => exact hs.fr.evV e
  | cell a t =>
    simp only [resOf2, Option.bind_eq_some_iff] at e
    obtain ⟨ti, h1, y, h2, e⟩ := e
    simp only [resOf, h1, Option.bind_some, hs.fr.evA h2]
    split at e
    · simp only [Option.bind_eq_some_iff] at e
      obtain ⟨b, h3, e⟩ := e
      split at e
      · rename_i els hb
        simp only [Option.bind_eq_some_iff] at e
        obtain ⟨el, h4, e⟩ := e
        simp [A2.at, hs.mem, mget_at, h3, Blk2.at, hb, Bd.rows, h4, part_at e]
      · cases e
    · cases e
theorem ownVs_at (T : TypeId → Option TI) : ∀ (vs : List V2) (nx : Nat), ownVs nx (vs.map V2.at) = ((ownVs2 T nx vs).1.map V2.at, (ownVs2 T nx vs).2.1.at, (ownVs2 T nx vs).2.2) := by
  intro vs
  induction vs with
  | nil => intro nx; rfl
  | cons a vs ih =>
    intro nx
    cases a with
    | a x => simp only [List.map_cons, V2.at, ownVs, own_at T, ih, ownVs2, app_at]
    | g cs => simp only [List.map_cons, V2.at, ownVs, ownL_at T, ih, ownVs2, app_at]
theorem clo_at' (f : FuncId) (mem : Mem2) (l acc : List Nat) : clo (fun m => if c.mutA f then namesM mem.at m else ptrsM mem.at m) 64 l acc = clo (if c.mutA f then names2 A2.nm mem else names2 A2.ptrs mem) 64 l acc := clo_at f mem l acc
theorem resf_at (f : FuncId) (mem : Mem2) (a rs0 : List V2) : Snd (R := R) (fun K => if c.ownR f then K a else mapK (frzVK c mem) rs0 K) fun rs => (if c.ownR f then some (a.map V2.at) else mapO (frzV mem.at) (rs0.map V2.at)) = some (rs.map V2.at) := by
  intro K r e
  simp only [] at e
  split at e
  · rename_i h; exact ⟨_, e, by rw [if_pos h]⟩
  · rename_i h
    obtain ⟨x, e1, h1⟩ := mapK_at (fun v => frzV_at mem v) rs0 _ _ e
    exact ⟨x, e1, by rw [if_neg h]; exact h1⟩
theorem fin_at (hs : StR σ2 σ) (f : FuncId) (fn : Func) : Snd (R := R) (finishK c f fn.results.toList p σ2) fun r => finish c f fn p σ = some (r.1.map V2.at, r.2.map Blk2.at) := by
  intro K r e
  unfold finishK at e
  simp only [Option.bind_eq_some_iff] at e
  obtain ⟨rs0, h1, e⟩ := e
  have h1' := mapO_at (p := id) (q := V2.at) (f := resOf2 c σ2) (g := resOf c σ) (fun _ _ => resOf_at hs) h1
  rw [List.map_id] at h1'
  generalize hq : (if c.ownR f then ownVs2 c.T σ2.nx rs0 else (rs0, [], σ2.nx)) = q at e
  have hq' : (if c.ownR f then ownVs σ.nx (rs0.map V2.at) else (rs0.map V2.at, [], σ.nx)) = (q.1.map V2.at, q.2.1.at, q.2.2) := by
    rw [← hq, hs.nx]
    split
    · exact ownVs_at _ _ _
    · rfl
  obtain ⟨rs, e, h2⟩ := resf_at f (upd2 σ2.mem q.2.1) q.1 rs0 _ _ e
  simp only [Option.bind_eq_some_iff] at e
  obtain ⟨rs', h3, e⟩ := e
  generalize hN : clo (if c.mutA f then names2 A2.nm (upd2 σ2.mem q.2.1) else names2 A2.ptrs (upd2 σ2.mem q.2.1)) 64 (List.range p ++ namesV2 A2.nm rs) [] = N at e h3
  obtain ⟨bs, e, h4⟩ := mapK_at (q := Blk2.at) (p := id) (g := fun m => (mget (Mem2.at _) m).bind fun b => (if c.mutA f then some b else frzB (upd2 σ2.mem q.2.1).at b).bind (renB (idx _))) (fun m => blk_at _ _ _ _ m) _ _ _ e
  split at e
  · rename_i hp
    refine ⟨_, e, ?_⟩
    rw [List.map_id, upd_at, fz_at] at h4
    have h3' := mapO_at (fun _ _ => renV_at) h3
    unfold finish
    rw [h1']
    simp only [Option.bind_some, hq', hs.mem, ← upd_at, h2, namesV_at, smnV_at, smnM_at, clo_at', hN, h3']
    rw [upd_at σ2.mem] at h4 ⊢
    rw [h4]
    simp only [Option.bind_some]
    rw [if_pos hp]
  · cases e
theorem finK_at {o2 : Out2} {o : Out} (ho : OutR o2 o) (f : FuncId) (fn : Func) {K : List V2 × List Blk2 → Option R} {r : R} (e : finK2 c f fn.results.toList p K o2 = some r) :
    ∃ x, K x = some r ∧ finK c f fn p (some o) = some (x.1.map V2.at, x.2.map Blk2.at) := by
  cases o2 with
  | norm σ2 =>
    cases o <;> simp only [OutR] at ho
    exact fin_at ho f fn _ _ e
  | ret σ2 =>
    cases o <;> simp only [OutR] at ho
    exact fin_at ho f fn _ _ e
  | exit i σ2 => cases e
theorem enum_at {β γ : Type} (g : β → γ) : ∀ (n : Nat) (l : List β), enum n (l.map g) = (enum n l).map fun p => (p.1, g p.2)
  | _, [] => rfl
  | n, x :: l => by simp only [List.map_cons, enum, enum_at g (n + 1) l]
theorem body_at (hC : COk CO callF) (f : FuncId) (fn : Func) (body : Code) (args : List V2) (blks : List Blk2) (hL : LAll (LOk LO c callF kp fn.ntmps k blks.length) 0 body) :
    Snd (body2 c CO LO f fn.ntmps fn.results.toList body args blks) fun r =>
      finK c f fn (blks.map Blk2.at).length (runC c callF kp fn.ntmps k (blks.map Blk2.at).length 0 body { fr := enum 0 ((args.map V2.at).map Sv.v), mem := enum 0 ((blks.map Blk2.at).map some), nx := (blks.map Blk2.at).length }) = some (r.1.map V2.at, r.2.map Blk2.at) := by
  intro K r e
  unfold body2 at e
  simp only [List.length_map]
  have hs : StR { fr := enum2 args, mem := enum 0 (blks.map some), nx := blks.length } { fr := enum 0 ((args.map V2.at).map Sv.v), mem := enum 0 ((blks.map Blk2.at).map some), nx := blks.length } := by
    refine ⟨?_, ?_, rfl⟩
    · intro t v h
      have : (args.map V2.at).map Sv.v = (args.map Sv2.v).map Sv2.at := by simp [Function.comp_def, Sv2.at]
      simp only [] at h ⊢
      rw [this, enum_at, lk_map]
      unfold enum2 at h
      rw [h]; rfl
    · have : (blks.map Blk2.at).map some = (blks.map some).map (fun o => o.map Blk2.at) := by simp [Function.comp_def]
      simp only []
      rw [this, enum_at]
      rfl
  obtain ⟨o2, e, o, h1, h2⟩ := run_at hC body 0 _ _ hL hs _ _ e
  obtain ⟨x, e, h3⟩ := finK_at h2 f fn e
  exact ⟨x, e, by rw [h1]; exact h3⟩
end

/-! Shapes: what is fixed of a word, and what is left open; the open parts stand in a row. -/
inductive Lt
  | w (c : Cd) | nat
  deriving DecidableEq
@[reducible] def Lt.D : Lt → Type
  | .w c => c.D
  | .nat => Nat
structure Leaf where
  t : Lt
  x : t.D
/-- A row of open parts. -/
@[reducible] def Tp : List Lt → Type
  | [] => Unit
  | [t] => t.D
  | t :: u :: r => t.D × Tp (u :: r)
def toL : (ts : List Lt) → Tp ts → List Leaf
  | [], _ => []
  | [t], x => [⟨t, x⟩]
  | t :: u :: r, x => ⟨t, x.1⟩ :: toL (u :: r) x.2
def castD (a b : Lt) (x : a.D) : Option b.D := if h : a = b then some (h ▸ x) else none
theorem castD_eq {a b : Lt} {x : a.D} {y : b.D} (h : castD a b x = some y) : (⟨b, y⟩ : Leaf) = ⟨a, x⟩ := by
  unfold castD at h
  split at h
  · rename_i e; subst e; cases h; rfl
  · cases h
theorem castD_self (a : Lt) (x : a.D) : castD a a x = some x := by simp [castD]
def ofL : (ts : List Lt) → List Leaf → Option (Tp ts)
  | [], [] => some ()
  | [t], [y] => castD y.t t y.x
  | t :: u :: r, y :: l => (castD y.t t y.x).bind fun a => (ofL (u :: r) l).bind fun b => some (a, b)
  | _, _ => none
theorem ofL_eq : ∀ {ts : List Lt} {l : List Leaf} {x : Tp ts}, ofL ts l = some x → toL ts x = l
  | [], l, x, h => by
    cases l with
    | nil => rfl
    | cons y l => cases h
  | [t], l, x, h => by
    match l, h with
    | [y], h => simp only [toL, castD_eq (b := t) h]
    | [], h => cases h
    | _ :: _ :: _, h => cases h
  | t :: u :: r, l, x, h => by
    match l, h with
    | [], h => cases h
    | y :: l, h =>
      simp only [ofL, Option.bind_eq_some_iff] at h
      obtain ⟨a, h1, b, h2, h⟩ := h
      cases h
      simp only [toL, castD_eq h1, ofL_eq h2]

inductive Sh
  | lf (c : Cd) | snil (es ty : Nat) | nilp | ptr (m i o : Nat) | smz (m : Nat) | sms (m : Nat) | fn (f : FuncId)
def Sh.ts : Sh → List Lt
  | .lf c => [.w c]
  | .smz _ => [.nat]
  | .sms _ => [.nat, .nat]
  | _ => []
def Sh.enc : Sh → List Leaf → A2 × List Leaf
  | .lf c, y :: r => ((match castD y.t (.w c) y.x with | some x => (c.cl x).headD .nilp | none => .nilp), r)
  | .snil es ty, r => (.snil es ty, r)
  | .nilp, r => (.nilp, r)
  | .ptr m i o, r => (.ptr m i o, r)
  | .smz m, ⟨.nat, n⟩ :: r => (.sm m 0 n, r)
  | .sms m, ⟨.nat, lo⟩ :: ⟨.nat, n⟩ :: r => (.sm m lo n, r)
  | .fn f, r => (.fn f, r)
  | _, r => (.nilp, r)
def Sh.dec : Sh → A2 → Option (List Leaf)
  | .lf c, a => (c.dec [a]).bind fun x => some [⟨.w c, x⟩]
  | .snil es ty, .snil es' ty' => if es' = es ∧ ty' = ty then some [] else none
  | .nilp, .nilp => some []
  | .ptr m i o, .ptr m' i' o' => if m' = m ∧ i' = i ∧ o' = o then some [] else none
  | .smz m, .sm m' lo n => if m' = m ∧ lo = 0 then some [⟨.nat, n⟩] else none
  | .sms m, .sm m' lo n => if m' = m then some [⟨.nat, lo⟩, ⟨.nat, n⟩] else none
  | .fn f, .fn f' => if f' = f then some [] else none
  | _, _ => none
/-- What is read can be written anew. -/
def Rt {α β : Type} (enc : α → List Leaf → β × List Leaf) (dec : α → β → Option (List Leaf)) : Prop := ∀ s a l, dec s a = some l → ∀ r, enc s (l ++ r) = (a, r)
theorem Sh.rt : Rt Sh.enc Sh.dec := by
  intro s a l h r
  cases s with
  | lf c =>
    simp only [Sh.dec, Option.bind_eq_some_iff] at h
    obtain ⟨x, h1, h⟩ := h
    cases h
    have := dec_eq (c := c) h1
    simp only [List.cons_append, List.nil_append, Sh.enc]
    rw [castD_self (.w c) x]
    simp only [← this, List.headD_cons]
  | nilp =>
    cases a <;> simp only [Sh.dec] at h <;> first | cases h | skip
    rfl
  | _ =>
    cases a <;> simp only [Sh.dec] at h <;> first | cases h | skip
    split at h
    · rename_i e; cases h; simp [Sh.enc, e]
    · cases h
/-- Rows of shapes. -/
def encR {α β : Type} (enc : α → List Leaf → β × List Leaf) : List α → List Leaf → List β × List Leaf
  | [], l => ([], l)
  | s :: r, l => (fun p => (fun q => (p.1 :: q.1, q.2)) (encR enc r p.2)) (enc s l)
def decR {α β : Type} (dec : α → β → Option (List Leaf)) : List α → List β → Option (List Leaf)
  | [], [] => some []
  | s :: r, a :: b => (dec s a).bind fun x => (decR dec r b).bind fun y => some (x ++ y)
  | _, _ => none
theorem Rt.row {α β : Type} {enc : α → List Leaf → β × List Leaf} {dec : α → β → Option (List Leaf)} (H : Rt enc dec) : Rt (encR enc) (decR dec) := by
  intro l
  induction l with
  | nil => intro as x h r; cases as with
    | nil => cases h; rfl
    | cons a as => cases h
  | cons s l ih =>
    intro as x h r
    cases as with
    | nil => cases h
    | cons a as =>
      simp only [decR, Option.bind_eq_some_iff] at h
      obtain ⟨y, h1, z, h2, h⟩ := h
      cases h
      simp only [encR, List.append_assoc, H _ _ _ h1, ih _ _ h2]
inductive ShV
  | a (s : Sh) | g (ss : List Sh)
def ShV.ts : ShV → List Lt
  | .a s => s.ts
  | .g ss => ss.flatMap Sh.ts
def ShV.enc : ShV → List Leaf → V2 × List Leaf
  | .a s, l => (fun p => (.a p.1, p.2)) (s.enc l)
  | .g ss, l => (fun p => (.g p.1, p.2)) (encR Sh.enc ss l)
def ShV.dec : ShV → V2 → Option (List Leaf)
  | .a s, .a x => s.dec x
  | .g ss, .g cs => decR Sh.dec ss cs
  | _, _ => none
theorem ShV.rt : Rt ShV.enc ShV.dec := by
  intro s a l h r
  cases s with
  | a s => cases a with
    | a y => simp only [ShV.enc, Sh.rt _ _ _ h]
    | g cs => cases h
  | g ss => cases a with
    | a y => cases h
    | g cs => simp only [ShV.enc, Sh.rt.row _ _ _ h]
inductive ShB
  | arr (c : Cd) (es : Nat) (ty : TypeId) (fz : Bool)
  | raw (els : List (List Sh)) (es : Nat) (ty : TypeId) (pr fz : Bool)
def ShB.ts : ShB → List Lt
  | .arr c _ _ _ => [.w (.sl c)]
  | .raw els _ _ _ _ => els.flatMap fun e => e.flatMap Sh.ts
def ShB.enc : ShB → List Leaf → Blk2 × List Leaf
  | .arr c es ty fz, l => match l with
    | y :: r => ((match castD y.t (.w (.sl c)) y.x with | some x => ⟨.arr c x, es, ty, true, fz⟩ | none => ⟨.raw [], es, ty, true, fz⟩), r)
    | [] => (⟨.raw [], es, ty, true, fz⟩, [])
  | .raw els es ty pr fz, l => (fun p => (⟨.raw p.1, es, ty, pr, fz⟩, p.2)) (encR (encR Sh.enc) els l)
def ShB.dec (s : ShB) (b : Blk2) : Option (List Leaf) :=
  match s with
  | .arr c es ty fz => match b with
    | ⟨.arr c' l, es', ty', true, fz'⟩ => if es' = es ∧ ty' = ty ∧ fz' = fz then (castL c' c l).bind fun l => some [⟨.w (.sl c), l⟩] else none
    | _ => none
  | .raw els es ty pr fz => match b with
    | ⟨.raw els', es', ty', pr', fz'⟩ => if es' = es ∧ ty' = ty ∧ pr' = pr ∧ fz' = fz then decR (decR Sh.dec) els els' else none
    | _ => none
theorem ShB.rt : Rt ShB.enc ShB.dec := by
  intro s b l h r
  cases s with
  | arr c es ty fz =>
    simp only [ShB.dec] at h
    split at h
    · split at h
      · rename_i e
        obtain ⟨rfl, rfl, rfl⟩ := e
        simp only [Option.bind_eq_some_iff] at h
        obtain ⟨x, hx, h⟩ := h
        cases h
        obtain ⟨hc, rfl⟩ := castL_eq hx
        subst hc
        simp only [List.cons_append, ShB.enc, List.nil_append]
        rw [castD_self (.w (.sl _)) _]
      · cases h
    · cases h
  | raw els es ty pr fz =>
    simp only [ShB.dec] at h
    split at h
    · split at h
      · rename_i e
        obtain ⟨rfl, rfl, rfl, rfl⟩ := e
        simp only [ShB.enc, Sh.rt.row.row _ _ _ h]
      · cases h
    · cases h

/-- A call's shape, or an answer's. -/
structure FS where
  vs : List ShV
  bs : List ShB
def FS.ts (s : FS) : List Lt := s.vs.flatMap ShV.ts ++ s.bs.flatMap ShB.ts
def FS.en (s : FS) (l : List Leaf) : (List V2 × List Blk2) × List Leaf := (fun p => (fun q => ((p.1, q.1), q.2)) (encR ShB.enc s.bs p.2)) (encR ShV.enc s.vs l)
def FS.de (s : FS) (a : List V2 × List Blk2) : Option (List Leaf) := (decR ShV.dec s.vs a.1).bind fun x => (decR ShB.dec s.bs a.2).bind fun y => some (x ++ y)
@[reducible] def FS.D (s : FS) : Type := Tp s.ts
def FS.enc (s : FS) (x : s.D) : List V2 × List Blk2 := (s.en (toL _ x)).1
def FS.dec (s : FS) (a : List V2 × List Blk2) : Option s.D := (s.de a).bind (ofL _)
theorem FS.rt : Rt FS.en FS.de := by
  intro s a l h r
  simp only [FS.de, Option.bind_eq_some_iff] at h
  obtain ⟨y, h1, z, h2, h⟩ := h
  cases h
  simp only [FS.en, List.append_assoc, ShV.rt.row _ _ _ h1, ShB.rt.row _ _ _ h2]
theorem FS.dec_eq {s : FS} {a : List V2 × List Blk2} {x : s.D} (h : s.dec a = some x) : s.enc x = a := by
  simp only [FS.dec, Option.bind_eq_some_iff] at h
  obtain ⟨l, h1, h2⟩ := h
  have := FS.rt s a l h1 []
  rw [List.append_nil] at this
  simp only [FS.enc, ofL_eq h2, this]
/-- One of several. -/
@[reducible] def DS {α : Type} (D : α → Type) : List α → Type
  | [] => Empty
  | [a] => D a
  | a :: b :: r => D a ⊕ DS D (b :: r)
def encS {α β : Type} {D : α → Type} (enc : (s : α) → D s → β) : (l : List α) → DS D l → β
  | [], x => nomatch x
  | [a], x => enc a x
  | a :: b :: r, x => match x with
    | .inl x => enc a x
    | .inr x => encS enc (b :: r) x
def putS {α β : Type} {D : α → Type} (dec : (s : α) → β → Option (D s)) : (l : List α) → β → Option (DS D l)
  | [], _ => none
  | [a], x => dec a x
  | a :: b :: r, x => match dec a x with
    | some y => some (.inl y)
    | none => match putS dec (b :: r) x with
      | some y => some (.inr y)
      | none => none
def eitherK {α β R : Type} (x : α ⊕ β) (f : α → Option R) (g : β → Option R) : Option R := match x with
  | .inl x => f x
  | .inr x => g x
def encSK {α β R : Type} {D : α → Type} (enc : (s : α) → D s → β) (K : β → Option R) : (l : List α) → DS D l → Option R
  | [], x => nomatch x
  | [a], x => K (enc a x)
  | a :: b :: r, x => eitherK x (fun x => K (enc a x)) (fun x => encSK enc K (b :: r) x)
theorem encSK_eq {α β R : Type} {D : α → Type} (enc : (s : α) → D s → β) (K : β → Option R) : ∀ (l : List α) (x : DS D l), encSK enc K l x = K (encS enc l x)
  | [], x => nomatch x
  | [a], x => rfl
  | a :: b :: r, .inl x => rfl
  | a :: b :: r, .inr x => encSK_eq enc K (b :: r) x
theorem putS_ok {α β : Type} {D : α → Type} {enc : (s : α) → D s → β} {dec : (s : α) → β → Option (D s)} {Q : β → β → Prop} (H : ∀ s a x, dec s a = some x → Q (enc s x) a) :
    ∀ {l : List α} {a : β} {y : DS D l}, putS dec l a = some y → Q (encS enc l y) a := by
  intro l
  match l with
  | [] => intro a y h; cases h
  | [s] => intro a y h; exact H _ _ _ h
  | s :: t :: r =>
    intro a y h
    simp only [putS] at h
    split at h
    · rename_i z hz; cases h; exact H _ _ _ hz
    · split at h
      · rename_i z hz
        cases h
        exact putS_ok H (l := t :: r) hz
      · cases h
/-- A state's shape. -/
structure SS where
  fr : List (Nat × ShV)
  mem : List (Nat × Option ShB)
  nx : Nat
def tsO (p : Nat × Option ShB) : List Lt := match p.2 with
  | none => []
  | some b => b.ts
def encO (p : Nat × Option ShB) (l : List Leaf) : (Nat × Option Blk2) × List Leaf := match p.2 with
  | none => ((p.1, none), l)
  | some b => (fun q => ((p.1, some q.1), q.2)) (b.enc l)
def decO (p : Nat × Option ShB) (q : Nat × Option Blk2) : Option (List Leaf) := match p.2, q.2 with
  | none, none => if q.1 = p.1 then some [] else none
  | some b, some B => if q.1 = p.1 then b.dec B else none
  | _, _ => none
theorem rtO : Rt encO decO := by
  intro p q l h r
  obtain ⟨m, o⟩ := p
  obtain ⟨m', o'⟩ := q
  cases o with
  | none => cases o' with
    | none =>
      simp only [decO] at h
      split at h
      · rename_i e; cases h; simp [encO, e]
      · cases h
    | some B => cases h
  | some b => cases o' with
    | none => cases h
    | some B =>
      simp only [decO] at h
      split at h
      · rename_i e; simp [encO, e, ShB.rt _ _ _ h]
      · cases h
def encF (p : Nat × ShV) (l : List Leaf) : (Nat × Sv2) × List Leaf := (fun q => ((p.1, .v q.1), q.2)) (p.2.enc l)
def SS.ts (s : SS) : List Lt := (s.fr.flatMap fun p => p.2.ts) ++ s.mem.flatMap tsO
@[reducible] def SS.D (s : SS) : Type := Tp s.ts
def SS.en (s : SS) (l : List Leaf) : St2 := (fun p => { fr := p.1, mem := (encR encO s.mem p.2).1, nx := s.nx }) (encR encF s.fr l)
def SS.enc (s : SS) (x : s.D) : St2 := s.en (toL _ x)
/-- The slots named are read, others left. -/
def decFr (fr : List (Nat × Sv2)) : List (Nat × ShV) → Option (List Leaf)
  | [] => some []
  | p :: r => match lk fr p.1 with
    | some (.v v) => (p.2.dec v).bind fun x => (decFr fr r).bind fun y => some (x ++ y)
    | _ => none
def SS.de (s : SS) (σ : St2) : Option (List Leaf) := (decFr σ.fr s.fr).bind fun x => (decR decO s.mem σ.mem).bind fun y => if σ.nx = s.nx then some (x ++ y) else none
def SS.dec (s : SS) (σ : St2) : Option s.D := (s.de σ).bind (ofL _)
theorem decFr_ok {fr : List (Nat × Sv2)} : ∀ {l : List (Nat × ShV)} {x : List Leaf}, decFr fr l = some x → ∀ r, ∃ fr', encR encF l (x ++ r) = (fr', r) ∧ ∀ t v, lk fr' t = some v → lk fr t = some v := by
  intro l
  induction l with
  | nil => intro x h r; cases h; exact ⟨[], rfl, fun t v h => by cases h⟩
  | cons p l ih =>
    intro x h r
    simp only [decFr] at h
    split at h
    · rename_i v' hv'
      simp only [Option.bind_eq_some_iff] at h
      obtain ⟨y, h1, z, h2, h⟩ := h
      cases h
      obtain ⟨fr', h3, h4⟩ := ih h2 r
      refine ⟨(p.1, .v v') :: fr', ?_, ?_⟩
      · simp only [encR, encF, List.append_assoc, ShV.rt _ _ _ h1, h3]
      · intro t v hv
        simp only [lk] at hv
        split at hv
        · rename_i e
          cases hv
          rw [← e]
          exact hv'
        · exact h4 t v hv
    · cases h
theorem SS.dec_ok {s : SS} {σ2 : St2} {x : s.D} (h : s.dec σ2 = some x) {σ : St} (hs : StR σ2 σ) : StR (s.enc x) σ := by
  simp only [SS.dec, Option.bind_eq_some_iff] at h
  obtain ⟨l, h, h0⟩ := h
  simp only [SS.de, Option.bind_eq_some_iff] at h
  obtain ⟨y, h1, z, h2, h⟩ := h
  split at h
  · rename_i e
    cases h
    obtain ⟨fr', h3, h4⟩ := decFr_ok h1 z
    have h5 := rtO.row _ _ _ h2 []
    rw [List.append_nil] at h5
    simp only [SS.enc, ofL_eq h0, SS.en, h3, h5]
    exact ⟨fun t v hv => hs.fr t v (h4 t v hv), hs.mem, by rw [hs.nx, e]⟩
  · cases h
/-- An end's shape: a block's left, or the function is. -/
structure OS where
  id : Option Nat
  s : SS
@[reducible] def OS.D (o : OS) : Type := o.s.D
def OS.enc (o : OS) (x : o.D) : Out2 := match o.id with
  | some i => .exit i (o.s.enc x)
  | none => .ret (o.s.enc x)
def OS.dec (o : OS) (u : Out2) : Option o.D := match o.id, u with
  | some i, .exit j σ => if j = i then o.s.dec σ else none
  | none, .ret σ => o.s.dec σ
  | _, _ => none
theorem OS.dec_ok (o : OS) (u : Out2) (x : o.D) (h : o.dec u = some x) : ∀ v, OutR u v → OutR (o.enc x) v := by
  obtain ⟨id, s⟩ := o
  intro v hv
  cases id with
  | none =>
    cases u <;> simp only [OS.dec] at h <;> first | cases h | skip
    cases v <;> simp only [OutR] at hv
    exact SS.dec_ok h hv
  | some i =>
    cases u <;> simp only [OS.dec] at h <;> first | cases h | skip
    split at h
    · rename_i e
      cases v <;> simp only [OutR] at hv
      exact ⟨by rw [← e]; exact hv.1, SS.dec_ok h hv.2⟩
    · cases h

/-- A printed function. -/
structure Inst where
  f : FuncId
  sh : FS
  os : List FS
  F : sh.D → Option (DS FS.D os)
/-- A printed loop. -/
structure LInst where
  b : Nat
  hs : List SS
  os : List OS
  F : DS SS.D hs → Option (DS OS.D os)
section
variable {R : Type}
def COt (f : FuncId) (a : List V2) (b : List Blk2) (K : List V2 × List Blk2 → Option R) : List Inst → Option R
  | [] => none
  | i :: r => if i.f = f then (match i.sh.dec (a, b) with
    | some x => (i.F x).bind fun y => encSK FS.enc K i.os y
    | none => COt f a b K r) else COt f a b K r
def LOt (T : TypeId → Option TI) (kp : Nat → List Kp) (p : Nat) (b : Nat) (σ : St2) (K : Out2 → Option R) : List LInst → Option R
  | [] => none
  | i :: r => if i.b = b then (match (head2 T p (kp b) σ).bind (putS SS.dec i.hs) with
    | some x => (i.F x).bind fun y => encSK OS.enc K i.os y
    | none => LOt T kp p b σ K r) else LOt T kp p b σ K r
/-- What a round hands on: to the next one, or out. -/
def nextK (T : TypeId → Option TI) (ks : List Kp) (p : Nat) (hs : List SS) (os : List OS) (F : DS SS.D hs → Option (DS OS.D os)) : Out2 → Option (DS OS.D os)
  | .norm σ => ((head2 T p ks σ).bind (putS SS.dec hs)).bind F
  | o => putS OS.dec os o
end
def InstOk (cl : FuncId → List Vl → List Blk → Option (List Vl × List Blk)) (i : Inst) : Prop :=
  ∀ x y, i.F x = some y → cl i.f ((i.sh.enc x).1.map V2.at) ((i.sh.enc x).2.map Blk2.at) = some ((encS FS.enc i.os y).1.map V2.at, (encS FS.enc i.os y).2.map Blk2.at)
/-- All of a list. -/
def AllI (cl : FuncId → List Vl → List Blk → Option (List Vl × List Blk)) : List Inst → Prop
  | [] => True
  | i :: r => InstOk cl i ∧ AllI cl r
theorem COt_ok {R : Type} {cl : FuncId → List Vl → List Blk → Option (List Vl × List Blk)} : ∀ {l : List Inst}, AllI cl l → COk (fun f a b (K : List V2 × List Blk2 → Option R) => COt f a b K l) cl := by
  intro l
  induction l with
  | nil => intro _ f a b K r e; cases e
  | cons i l ih =>
    intro h f a b K r e
    simp only [COt] at e
    split at e
    · rename_i hf
      subst hf
      split at e
      · rename_i x hx
        simp only [Option.bind_eq_some_iff] at e
        obtain ⟨y, h1, e⟩ := e
        rw [encSK_eq] at e
        refine ⟨_, e, ?_⟩
        have := h.1 x y h1
        rw [FS.dec_eq hx] at this
        exact this
      · exact ih h.2 _ _ _ _ _ e
    · exact ih h.2 _ _ _ _ _ e

theorem heads_ok {hs : List SS} {σ2 : St2} {x : DS SS.D hs} (h : putS SS.dec hs σ2 = some x) {σ : St} (hs' : StR σ2 σ) : StR (encS SS.enc hs x) σ :=
  putS_ok (enc := SS.enc) (dec := SS.dec) (Q := fun a b => ∀ σ, StR b σ → StR a σ) (fun s a x h σ hr => SS.dec_ok h hr) (l := hs) h σ hs'
section
variable {c : Cfg} {callF : FuncId → List Vl → List Blk → Option (List Vl × List Blk)} {kp : Nat → List Kp} {nt k p : Nat}
def LIOk (c : Cfg) (callF : FuncId → List Vl → List Blk → Option (List Vl × List Blk)) (kp : Nat → List Kp) (nt k p : Nat) (b : Nat) (x0 : Code) (i : LInst) : Prop :=
  ∀ x y τ, StR (encS SS.enc i.hs x) τ → i.F x = some y → ∃ o, loopF (headN p (kp b)) (runC c callF kp nt k p b x0) k (some τ) = some o ∧ OutR (encS OS.enc i.os y) o
/-- The loops of a list that stand in the block b. -/
def AllL (c : Cfg) (callF : FuncId → List Vl → List Blk → Option (List Vl × List Blk)) (kp : Nat → List Kp) (nt k p : Nat) (b : Nat) (x0 : Code) : List LInst → Prop
  | [] => True
  | i :: r => (i.b = b → LIOk c callF kp nt k p b x0 i) ∧ AllL c callF kp nt k p b x0 r
theorem LOt_ok {R : Type} {b : Nat} {x0 : Code} : ∀ {l : List LInst}, AllL c callF kp nt k p b x0 l → LOk (fun b _ σ (K : Out2 → Option R) => LOt c.T kp p b σ K l) c callF kp nt k p b x0 := by
  intro l
  induction l with
  | nil => intro _ σ2 σ hs K r e; cases e
  | cons i l ih =>
    intro h σ2 σ hs K r e
    simp only [LOt] at e
    split at e
    · rename_i hb
      split at e
      · rename_i x hx
        simp only [Option.bind_eq_some_iff] at hx
        obtain ⟨S2, h1, h2⟩ := hx
        obtain ⟨S, h3, h4⟩ := head_at hs h1
        simp only [Option.bind_eq_some_iff] at e
        obtain ⟨y, h5, e⟩ := e
        rw [encSK_eq] at e
        obtain ⟨o, h6, h7⟩ := h.1 hb x y S (heads_ok h2 h4) h5
        exact ⟨_, e, o, by rw [loopN_F, h3, h6], h7⟩
      · exact ih h.2 _ _ hs _ _ e
    · exact ih h.2 _ _ hs _ _ e
theorem loop_ok {b : Nat} {x0 : Code} {hs : List SS} {os : List OS} {CO : FuncId → List V2 → List Blk2 → (List V2 × List Blk2 → Option (DS OS.D os)) → Option (DS OS.D os)} {LO : Nat → Code → St2 → (Out2 → Option (DS OS.D os)) → Option (DS OS.D os)}
    (hC : COk CO callF) (hL : LAll (LOk LO c callF kp nt k p) b x0) (F : Nat → DS SS.D hs → Option (DS OS.D os)) (h0 : ∀ x, F 0 x = none)
    (hF : ∀ n x, F (n + 1) x = encSK SS.enc (fun σ => run2 c CO LO nt b x0 σ (nextK c.T (kp b) p hs os (F n))) hs x) : LIOk c callF kp nt k p b x0 ⟨b, hs, os, F k⟩ := by
  have key : ∀ n x y τ, StR (encS SS.enc hs x) τ → F n x = some y → ∃ o, loopF (headN p (kp b)) (runC c callF kp nt k p b x0) n (some τ) = some o ∧ OutR (encS OS.enc os y) o := by
    intro n
    induction n with
    | zero => intro x y τ _ e; rw [h0] at e; cases e
    | succ n ih =>
      intro x y τ ht e
      rw [hF, encSK_eq] at e
      obtain ⟨o2, e, o, h1, h2⟩ := run_at hC x0 b _ _ hL ht _ _ e
      cases o2 with
      | norm σ2 =>
        simp only [nextK, Option.bind_eq_some_iff] at e
        obtain ⟨x', ⟨S2, h3, h4⟩, e⟩ := e
        cases o <;> simp only [OutR] at h2
        rename_i τ'
        obtain ⟨S, h5, h6⟩ := head_at h2 h3
        obtain ⟨o, h7, h8⟩ := ih x' y S (heads_ok h4 h6) e
        refine ⟨o, ?_, h8⟩
        simp only [loopF_succ, h1, seqK, loopN_F, h5, h7]
      | exit i σ2 =>
        have := putS_ok (enc := OS.enc) (Q := fun a b => ∀ v, OutR b v → OutR a v) (fun s a x h => OS.dec_ok s a x h) (l := os) e o h2
        refine ⟨o, ?_, this⟩
        cases o <;> simp only [OutR] at h2
        simp only [loopF_succ, h1, seqK]
      | ret σ2 =>
        have := putS_ok (enc := OS.enc) (Q := fun a b => ∀ v, OutR b v → OutR a v) (fun s a x h => OS.dec_ok s a x h) (l := os) e o h2
        refine ⟨o, ?_, this⟩
        cases o <;> simp only [OutR] at h2
        simp only [loopF_succ, h1, seqK]
  exact fun x y τ ht e => key k x y τ ht e

def bd (f : Func) : Code := f.body.getD .skip
theorem encR_length {α β : Type} (enc : α → List Leaf → β × List Leaf) : ∀ (l : List α) (x : List Leaf), (encR enc l x).1.length = l.length
  | [], _ => rfl
  | s :: r, x => by simp only [encR, List.length_cons, encR_length enc r]
theorem inst_ok {f : FuncId} {fn : Func} {body : Code} {sh : FS} {os : List FS} (hX : c.X f = none) (hf : c.F f = some fn) (hb : fn.body = some body) (hl : sh.vs.length = fn.params.size ∧ sh.vs.length ≤ fn.ntmps)
    {CO : FuncId → List V2 → List Blk2 → (List V2 × List Blk2 → Option (DS FS.D os)) → Option (DS FS.D os)} {LO : Nat → Code → St2 → (Out2 → Option (DS FS.D os)) → Option (DS FS.D os)}
    (hC : COk CO (call c k)) (hL : LAll (LOk LO c (call c k) (c.keep f) fn.ntmps k sh.bs.length) 0 body) (F : sh.D → Option (DS FS.D os))
    (hF : ∀ x, F x = body2 c CO LO f fn.ntmps fn.results.toList body (sh.enc x).1 (sh.enc x).2 (putS FS.dec os)) : InstOk (call c (k + 1)) ⟨f, sh, os, F⟩ := by
  intro x y e
  simp only [] at e
  rw [hF] at e
  have hlen : (sh.enc x).2.length = sh.bs.length := encR_length _ _ _
  rw [← hlen] at hL
  obtain ⟨r, e, h1⟩ := body_at hC f fn body _ _ hL _ _ e
  have h2 := putS_ok (enc := FS.enc) (Q := fun a b => a = b) (fun s a x h => FS.dec_eq h) (l := os) e
  have hlv : (sh.enc x).1.length = sh.vs.length := encR_length _ _ _
  simp only [call, hX, hf, Option.bind_some, hb, bodyK, List.length_map]
  simp only [List.length_map] at h1
  rw [if_pos (by rw [hlv]; exact hl), h1, h2]
end
end Go.Proofs.Ytghdpmejgonjmaa.Am

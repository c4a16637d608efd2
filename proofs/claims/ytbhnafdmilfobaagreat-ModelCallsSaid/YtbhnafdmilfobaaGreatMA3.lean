/- Functions and loops by their shapes: what a printed function says, the abstract machine says. -/
import Derived.Test.YtbhnafdmilfobaaGreatMA2
import Derived.KernelRfl
import Derived.Test.YtbhnafdmilfobaaGreatProg
import Derived.Test.YtbhnafdmilfobaaGreatChecked

set_option linter.unusedVariables false
set_option linter.unusedSimpArgs false
namespace Go.Proofs.YtbhnafdmilfobaaGreat.Am
open Go

section
variable {R : Type} {c : Cfg} {callF : FuncId → List Vl → List Blk → Option (List Vl × List Blk)} {CO : FuncId → List V2 → List Blk2 → (List V2 × List Blk2 → Option R) → Option R}
  {LO : Nat → Code → St2 → (Out2 → Option R) → Option R} {σ2 : St2} {σ : St} {nt : Nat} {kp : Nat → List Kp} {k p : Nat}

theorem qw2 (hs : StR σ2 σ) {v : ResultVar} {x : V2} (e : qmT c σ2 v = some x) : qgJ c σ v = some x.at := by
  cases v with
  | tmp t => exact hs.fr.evV e
  | cell a t =>
    simp only [qmT, Option.bind_eq_some_iff] at e
    obtain ⟨ti, h1, y, h2, e⟩ := e
    simp only [qgJ, h1, Option.bind_some, hs.fr.evA h2]
    split at e
    · simp only [Option.bind_eq_some_iff] at e
      obtain ⟨b, h3, e⟩ := e
      split at e
      · rename_i els hb
        simp only [Option.bind_eq_some_iff] at e
        obtain ⟨el, h4, e⟩ := e
        simp [A2.at, hs.mem, qbL, h3, Blk2.at, hb, Bd.rows, h4, qhe e]
      · cases e
    · cases e
theorem qw3 (T : TypeId → Option TI) : ∀ (vs : List V2) (nx : Nat), qbT nx (vs.map V2.at) = ((qfx T nx vs).1.map V2.at, (qfx T nx vs).2.1.at, (qfx T nx vs).2.2) := by
  intro vs
  induction vs with
  | nil => intro nx; rfl
  | cons a vs ih =>
    intro nx
    cases a with
    | a x => simp only [List.map_cons, V2.at, qbT, qsd T, ih, qfx, qgo]
    | g cs => simp only [List.map_cons, V2.at, qbT, qo5 T, ih, qfx, qgo]
theorem qzD (f : FuncId) (mem : qJ) (l acc : List Nat) : clo (fun m => if c.mutA f then qdG mem.at m else qfs mem.at m) 64 l acc = clo (if c.mutA f then qch A2.nm mem else qch A2.ptrs mem) 64 l acc := qvG f mem l acc
theorem qzE (f : FuncId) (mem : qJ) (a rs0 : List V2) : Snd (R := R) (fun K => if c.ownR f then K a else qf7 (qmQ c mem) rs0 K) fun rs => (if c.ownR f then some (a.map V2.at) else qu (qeg mem.at) (rs0.map V2.at)) = some (rs.map V2.at) := by
  intro K r e
  simp only [] at e
  split at e
  · rename_i h; exact ⟨_, e, by rw [if_pos h]⟩
  · rename_i h
    obtain ⟨x, e1, h1⟩ := qfE (fun v => qty mem v) rs0 _ _ e
    exact ⟨x, e1, by rw [if_neg h]; exact h1⟩
theorem qvM (hs : StR σ2 σ) (f : FuncId) (fn : Func) : Snd (R := R) (qjN c f fn.results.toList p σ2) fun r => qg8 c f fn p σ = some (r.1.map V2.at, r.2.map Blk2.at) := by
  intro K r e
  unfold qjN at e
  simp only [Option.bind_eq_some_iff] at e
  obtain ⟨rs0, h1, e⟩ := e
  have h1' := qdS (p := id) (q := V2.at) (f := qmT c σ2) (g := qgJ c σ) (fun _ _ => qw2 hs) h1
  rw [List.map_id] at h1'
  generalize hq : (if c.ownR f then qfx c.T σ2.nx rs0 else (rs0, [], σ2.nx)) = q at e
  have hq' : (if c.ownR f then qbT σ.nx (rs0.map V2.at) else (rs0.map V2.at, [], σ.nx)) = (q.1.map V2.at, q.2.1.at, q.2.2) := by
    rw [← hq, hs.nx]
    split
    · exact qw3 _ _ _
    · rfl
  obtain ⟨rs, e, h2⟩ := qzE f (qe3 σ2.mem q.2.1) q.1 rs0 _ _ e
  simp only [Option.bind_eq_some_iff] at e
  obtain ⟨rs', h3, e⟩ := e
  generalize hN : clo (if c.mutA f then qch A2.nm (qe3 σ2.mem q.2.1) else qch A2.ptrs (qe3 σ2.mem q.2.1)) 64 (List.range p ++ qdR A2.nm rs) [] = N at e h3
  obtain ⟨bs, e, h4⟩ := qfE (q := Blk2.at) (p := id) (g := fun m => (qn (qJ.at _) m).bind fun b => (if c.mutA f then some b else qfr (qe3 σ2.mem q.2.1).at b).bind (qeh (idx _))) (fun m => qvC _ _ _ _ m) _ _ _ e
  split at e
  · rename_i hp
    refine ⟨_, e, ?_⟩
    rw [List.map_id, qgn, quq] at h4
    have h3' := qdS (fun _ _ => qjO) h3
    unfold qg8
    rw [h1']
    simp only [Option.bind_some, hq', hs.mem, ← qgn, h2, qiz, qtw, qtx, qzD, hN, h3']
    rw [qgn σ2.mem] at h4 ⊢
    rw [h4]
    simp only [Option.bind_some]
    rw [if_pos hp]
  · cases e
theorem qzF {o2 : Out2} {o : Out} (ho : qdi o2 o) (f : FuncId) (fn : Func) {K : List V2 × List Blk2 → Option R} {r : R} (e : qyi c f fn.results.toList p K o2 = some r) :
    ∃ x, K x = some r ∧ qwB c f fn p (some o) = some (x.1.map V2.at, x.2.map Blk2.at) := by
  cases o2 with
  | norm σ2 =>
    cases o <;> simp only [qdi] at ho
    exact qvM ho f fn _ _ e
  | ret σ2 =>
    cases o <;> simp only [qdi] at ho
    exact qvM ho f fn _ _ e
  | exit i σ2 => cases e
theorem qo6 {β γ : Type} (g : β → γ) : ∀ (n : Nat) (l : List β), qdO n (l.map g) = (qdO n l).map fun p => (p.1, g p.2)
  | _, [] => rfl
  | n, x :: l => by simp only [List.map_cons, qdO, qo6 g (n + 1) l]
theorem qzG (hC : COk CO callF) (f : FuncId) (fn : Func) (body : Code) (args : List V2) (blks : List Blk2) (hL : qg (LOk LO c callF kp fn.ntmps k blks.length) 0 body) :
    Snd (qi c CO LO f fn.ntmps fn.results.toList body args blks) fun r =>
      qwB c f fn (blks.map Blk2.at).length (qa8 c callF kp fn.ntmps k (blks.map Blk2.at).length 0 body { fr := qdO 0 ((args.map V2.at).map Sv.v), mem := qdO 0 ((blks.map Blk2.at).map some), nx := (blks.map Blk2.at).length }) = some (r.1.map V2.at, r.2.map Blk2.at) := by
  intro K r e
  unfold qi at e
  simp only [List.length_map]
  have hs : StR { fr := qum args, mem := qdO 0 (blks.map some), nx := blks.length } { fr := qdO 0 ((args.map V2.at).map Sv.v), mem := qdO 0 ((blks.map Blk2.at).map some), nx := blks.length } := by
    refine ⟨?_, ?_, rfl⟩
    · intro t v h
      have : (args.map V2.at).map Sv.v = (args.map Sv2.v).map Sv2.at := by simp [Function.comp_def, Sv2.at]
      simp only [] at h ⊢
      rw [this, qo6, qvL]
      unfold qum at h
      rw [h]; rfl
    · have : (blks.map Blk2.at).map some = (blks.map some).map (fun o => o.map Blk2.at) := by simp [Function.comp_def]
      simp only []
      rw [this, qo6]
      rfl
  obtain ⟨o2, e, o, h1, h2⟩ := qvK hC body 0 _ _ hL hs _ _ e
  obtain ⟨x, e, h3⟩ := qzF h2 f fn e
  exact ⟨x, e, by rw [h1]; exact h3⟩
end

inductive Lt
  | w (c : Cd) | nat
  deriving DecidableEq
@[reducible] def Lt.D : Lt → Type
  | .w c => c.D
  | .nat => Nat
structure Leaf where
  t : Lt
  x : t.D
@[reducible] def Tp : List Lt → Type
  | [] => Unit
  | [t] => t.D
  | t :: u :: r => t.D × Tp (u :: r)
def toL : (ts : List Lt) → Tp ts → List Leaf
  | [], _ => []
  | [t], x => [⟨t, x⟩]
  | t :: u :: r, x => ⟨t, x.1⟩ :: toL (u :: r) x.2
def qgM (a b : Lt) (x : a.D) : Option b.D := if h : a = b then some (h ▸ x) else none
theorem qse {a b : Lt} {x : a.D} {y : b.D} (h : qgM a b x = some y) : (⟨b, y⟩ : Leaf) = ⟨a, x⟩ := by
  unfold qgM at h
  split at h
  · rename_i e; subst e; cases h; rfl
  · cases h
theorem qmU (a : Lt) (x : a.D) : qgM a a x = some x := by simp [qgM]
def ofL : (ts : List Lt) → List Leaf → Option (Tp ts)
  | [], [] => some ()
  | [t], [y] => qgM y.t t y.x
  | t :: u :: r, y :: l => (qgM y.t t y.x).bind fun a => (ofL (u :: r) l).bind fun b => some (a, b)
  | _, _ => none
theorem qsf : ∀ {ts : List Lt} {l : List Leaf} {x : Tp ts}, ofL ts l = some x → toL ts x = l
  | [], l, x, h => by
    cases l with
    | nil => rfl
    | cons y l => cases h
  | [t], l, x, h => by
    match l, h with
    | [y], h => simp only [toL, qse (b := t) h]
    | [], h => cases h
    | _ :: _ :: _, h => cases h
  | t :: u :: r, l, x, h => by
    match l, h with
    | [], h => cases h
    | y :: l, h =>
      simp only [ofL, Option.bind_eq_some_iff] at h
      obtain ⟨a, h1, b, h2, h⟩ := h
      cases h
      simp only [toL, qse h1, qsf h2]

inductive Sh
  | lf (c : Cd) | snil (es ty : Nat) | nilp | ptr (m i o : Nat) | smz (m : Nat) | sms (m : Nat) | fn (f : FuncId)
def Sh.ts : Sh → List Lt
  | .lf c => [.w c]
  | .smz _ => [.nat]
  | .sms _ => [.nat, .nat]
  | _ => []
def Sh.enc : Sh → List Leaf → A2 × List Leaf
  | .lf c, y :: r => ((match qgM y.t (.w c) y.x with | some x => (c.cl x).headD .nilp | none => .nilp), r)
  | .snil es ty, r => (.snil es ty, r)
  | .nilp, r => (.nilp, r)
  | .ptr m i o, r => (.ptr m i o, r)
  | .smz m, ⟨.nat, n⟩ :: r => (.sm m 0 n, r)
  | .sms m, ⟨.nat, lo⟩ :: ⟨.nat, n⟩ :: r => (.sm m lo n, r)
  | .fn f, r => (.fn f, r)
  | _, r => (.nilp, r)
def Sh.dec : Sh → A2 → Option (List Leaf)
  | .lf c, a => (c.dec [a]).bind fun x => some [⟨.w c, x⟩]
  | .snil es ty, .snil es' ty' => if es' = es ∧ ty' = ty then some [] else none
  | .nilp, .nilp => some []
  | .ptr m i o, .ptr m' i' o' => if m' = m ∧ i' = i ∧ o' = o then some [] else none
  | .smz m, .sm m' lo n => if m' = m ∧ lo = 0 then some [⟨.nat, n⟩] else none
  | .sms m, .sm m' lo n => if m' = m then some [⟨.nat, lo⟩, ⟨.nat, n⟩] else none
  | .fn f, .fn f' => if f' = f then some [] else none
  | _, _ => none
def Rt {α β : Type} (enc : α → List Leaf → β × List Leaf) (dec : α → β → Option (List Leaf)) : Prop := ∀ s a l, dec s a = some l → ∀ r, enc s (l ++ r) = (a, r)
theorem Sh.rt : Rt Sh.enc Sh.dec := by
  intro s a l h r
  cases s with
  | lf c =>
    simp only [Sh.dec, Option.bind_eq_some_iff] at h
    obtain ⟨x, h1, h⟩ := h
    cases h
    have := dec_eq (c := c) h1
    simp only [List.cons_append, List.nil_append, Sh.enc]
    rw [qmU (.w c) x]
    simp only [← this, List.headD_cons]
  | nilp =>
    cases a <;> simp only [Sh.dec] at h <;> first | cases h | skip
    rfl
  | _ =>
    cases a <;> simp only [Sh.dec] at h <;> first | cases h | skip
    split at h
    · rename_i e; cases h; simp [Sh.enc, e]
    · cases h
def qfy {α β : Type} (enc : α → List Leaf → β × List Leaf) : List α → List Leaf → List β × List Leaf
  | [], l => ([], l)
  | s :: r, l => (fun p => (fun q => (p.1 :: q.1, q.2)) (qfy enc r p.2)) (enc s l)
def qhZ {α β : Type} (dec : α → β → Option (List Leaf)) : List α → List β → Option (List Leaf)
  | [], [] => some []
  | s :: r, a :: b => (dec s a).bind fun x => (qhZ dec r b).bind fun y => some (x ++ y)
  | _, _ => none
theorem Rt.row {α β : Type} {enc : α → List Leaf → β × List Leaf} {dec : α → β → Option (List Leaf)} (H : Rt enc dec) : Rt (qfy enc) (qhZ dec) := by
  intro l
  induction l with
  | nil => intro zs x h r; cases zs with
    | nil => cases h; rfl
    | cons a zs => cases h
  | cons s l ih =>
    intro zs x h r
    cases zs with
    | nil => cases h
    | cons a zs =>
      simp only [qhZ, Option.bind_eq_some_iff] at h
      obtain ⟨y, h1, z, h2, h⟩ := h
      cases h
      simp only [qfy, List.append_assoc, H _ _ _ h1, ih _ _ h2]
inductive ShV
  | a (s : Sh) | g (ss : List Sh)
def ShV.ts : ShV → List Lt
  | .a s => s.ts
  | .g ss => ss.flatMap Sh.ts
def ShV.enc : ShV → List Leaf → V2 × List Leaf
  | .a s, l => (fun p => (.a p.1, p.2)) (s.enc l)
  | .g ss, l => (fun p => (.g p.1, p.2)) (qfy Sh.enc ss l)
def ShV.dec : ShV → V2 → Option (List Leaf)
  | .a s, .a x => s.dec x
  | .g ss, .g cs => qhZ Sh.dec ss cs
  | _, _ => none
theorem ShV.rt : Rt ShV.enc ShV.dec := by
  intro s a l h r
  cases s with
  | a s => cases a with
    | a y => simp only [ShV.enc, Sh.rt _ _ _ h]
    | g cs => cases h
  | g ss => cases a with
    | a y => cases h
    | g cs => simp only [ShV.enc, Sh.rt.row _ _ _ h]
inductive ShB
  | arr (c : Cd) (es : Nat) (ty : TypeId) (fz : Bool)
  | raw (els : List (List Sh)) (es : Nat) (ty : TypeId) (pr fz : Bool)
def ShB.ts : ShB → List Lt
  | .arr c _ _ _ => [.w (.sl c)]
  | .raw els _ _ _ _ => els.flatMap fun e => e.flatMap Sh.ts
def ShB.enc : ShB → List Leaf → Blk2 × List Leaf
  | .arr c es ty fz, l => match l with
    | y :: r => ((match qgM y.t (.w (.sl c)) y.x with | some x => ⟨.arr c x, es, ty, true, fz⟩ | none => ⟨.raw [], es, ty, true, fz⟩), r)
    | [] => (⟨.raw [], es, ty, true, fz⟩, [])
  | .raw els es ty pr fz, l => (fun p => (⟨.raw p.1, es, ty, pr, fz⟩, p.2)) (qfy (qfy Sh.enc) els l)
def ShB.dec (s : ShB) (b : Blk2) : Option (List Leaf) :=
  match s with
  | .arr c es ty fz => match b with
    | ⟨.arr c' l, es', ty', true, fz'⟩ => if es' = es ∧ ty' = ty ∧ fz' = fz then (qmK c' c l).bind fun l => some [⟨.w (.sl c), l⟩] else none
    | _ => none
  | .raw els es ty pr fz => match b with
    | ⟨.raw els', es', ty', pr', fz'⟩ => if es' = es ∧ ty' = ty ∧ pr' = pr ∧ fz' = fz then qhZ (qhZ Sh.dec) els els' else none
    | _ => none
theorem ShB.rt : Rt ShB.enc ShB.dec := by
  intro s b l h r
  cases s with
  | arr c es ty fz =>
    simp only [ShB.dec] at h
    split at h
    · split at h
      · rename_i e
        obtain ⟨rfl, rfl, rfl⟩ := e
        simp only [Option.bind_eq_some_iff] at h
        obtain ⟨x, hx, h⟩ := h
        cases h
        obtain ⟨hc, rfl⟩ := qlM hx
        subst hc
        simp only [List.cons_append, ShB.enc, List.nil_append]
        rw [qmU (.w (.sl _)) _]
      · cases h
    · cases h
  | raw els es ty pr fz =>
    simp only [ShB.dec] at h
    split at h
    · split at h
      · rename_i e
        obtain ⟨rfl, rfl, rfl, rfl⟩ := e
        simp only [ShB.enc, Sh.rt.row.row _ _ _ h]
      · cases h
    · cases h

structure FS where
  vs : List ShV
  bs : List ShB
def FS.ts (s : FS) : List Lt := s.vs.flatMap ShV.ts ++ s.bs.flatMap ShB.ts
def FS.en (s : FS) (l : List Leaf) : (List V2 × List Blk2) × List Leaf := (fun p => (fun q => ((p.1, q.1), q.2)) (qfy ShB.enc s.bs p.2)) (qfy ShV.enc s.vs l)
def FS.de (s : FS) (a : List V2 × List Blk2) : Option (List Leaf) := (qhZ ShV.dec s.vs a.1).bind fun x => (qhZ ShB.dec s.bs a.2).bind fun y => some (x ++ y)
@[reducible] def FS.D (s : FS) : Type := Tp s.ts
def FS.enc (s : FS) (x : s.D) : List V2 × List Blk2 := (s.en (toL _ x)).1
def FS.dec (s : FS) (a : List V2 × List Blk2) : Option s.D := (s.de a).bind (ofL _)
theorem FS.rt : Rt FS.en FS.de := by
  intro s a l h r
  simp only [FS.de, Option.bind_eq_some_iff] at h
  obtain ⟨y, h1, z, h2, h⟩ := h
  cases h
  simp only [FS.en, List.append_assoc, ShV.rt.row _ _ _ h1, ShB.rt.row _ _ _ h2]
theorem FS.dec_eq {s : FS} {a : List V2 × List Blk2} {x : s.D} (h : s.dec a = some x) : s.enc x = a := by
  simp only [FS.dec, Option.bind_eq_some_iff] at h
  obtain ⟨l, h1, h2⟩ := h
  have := FS.rt s a l h1 []
  rw [List.append_nil] at this
  simp only [FS.enc, qsf h2, this]
@[reducible] def DS {α : Type} (D : α → Type) : List α → Type
  | [] => Empty
  | [a] => D a
  | a :: b :: r => D a ⊕ DS D (b :: r)
def qgp {α β : Type} {D : α → Type} (enc : (s : α) → D s → β) : (l : List α) → DS D l → β
  | [], x => nomatch x
  | [a], x => enc a x
  | a :: b :: r, x => match x with
    | .inl x => enc a x
    | .inr x => qgp enc (b :: r) x
def qj {α β : Type} {D : α → Type} (dec : (s : α) → β → Option (D s)) : (l : List α) → β → Option (DS D l)
  | [], _ => none
  | [a], x => dec a x
  | a :: b :: r, x => match dec a x with
    | some y => some (.inl y)
    | none => match qj dec (b :: r) x with
      | some y => some (.inr y)
      | none => none
def qc {α β R : Type} (x : α ⊕ β) (f : α → Option R) (g : β → Option R) : Option R := match x with
  | .inl x => f x
  | .inr x => g x
def qD {α β R : Type} {D : α → Type} (enc : (s : α) → D s → β) (K : β → Option R) : (l : List α) → DS D l → Option R
  | [], x => nomatch x
  | [a], x => K (enc a x)
  | a :: b :: r, x => qc x (fun x => K (enc a x)) (fun x => qD enc K (b :: r) x)
theorem qh0 {α β R : Type} {D : α → Type} (enc : (s : α) → D s → β) (K : β → Option R) : ∀ (l : List α) (x : DS D l), qD enc K l x = K (qgp enc l x)
  | [], x => nomatch x
  | [a], x => rfl
  | a :: b :: r, .inl x => rfl
  | a :: b :: r, .inr x => qh0 enc K (b :: r) x
theorem qhf {α β : Type} {D : α → Type} {enc : (s : α) → D s → β} {dec : (s : α) → β → Option (D s)} {Q : β → β → Prop} (H : ∀ s a x, dec s a = some x → Q (enc s x) a) :
    ∀ {l : List α} {a : β} {y : DS D l}, qj dec l a = some y → Q (qgp enc l y) a := by
  intro l
  match l with
  | [] => intro a y h; cases h
  | [s] => intro a y h; exact H _ _ _ h
  | s :: t :: r =>
    intro a y h
    simp only [qj] at h
    split at h
    · rename_i z hz; cases h; exact H _ _ _ hz
    · split at h
      · rename_i z hz
        cases h
        exact qhf H (l := t :: r) hz
      · cases h
structure SS where
  fr : List (Nat × ShV)
  mem : List (Nat × Option ShB)
  nx : Nat
def tsO (p : Nat × Option ShB) : List Lt := match p.2 with
  | none => []
  | some b => b.ts
def qur (p : Nat × Option ShB) (l : List Leaf) : (Nat × Option Blk2) × List Leaf := match p.2 with
  | none => ((p.1, none), l)
  | some b => (fun q => ((p.1, some q.1), q.2)) (b.enc l)
def qus (p : Nat × Option ShB) (q : Nat × Option Blk2) : Option (List Leaf) := match p.2, q.2 with
  | none, none => if q.1 = p.1 then some [] else none
  | some b, some B => if q.1 = p.1 then b.dec B else none
  | _, _ => none
theorem rtO : Rt qur qus := by
  intro p q l h r
  obtain ⟨m, o⟩ := p
  obtain ⟨m', o'⟩ := q
  cases o with
  | none => cases o' with
    | none =>
      simp only [qus] at h
      split at h
      · rename_i e; cases h; simp [qur, e]
      · cases h
    | some B => cases h
  | some b => cases o' with
    | none => cases h
    | some B =>
      simp only [qus] at h
      split at h
      · rename_i e; simp [qur, e, ShB.rt _ _ _ h]
      · cases h
def qw4 (p : Nat × ShV) (l : List Leaf) : (Nat × Sv2) × List Leaf := (fun q => ((p.1, .v q.1), q.2)) (p.2.enc l)
def SS.ts (s : SS) : List Lt := (s.fr.flatMap fun p => p.2.ts) ++ s.mem.flatMap tsO
@[reducible] def SS.D (s : SS) : Type := Tp s.ts
def SS.en (s : SS) (l : List Leaf) : St2 := (fun p => { fr := p.1, mem := (qfy qur s.mem p.2).1, nx := s.nx }) (qfy qw4 s.fr l)
def SS.enc (s : SS) (x : s.D) : St2 := s.en (toL _ x)
def qp8 (fr : List (Nat × Sv2)) : List (Nat × ShV) → Option (List Leaf)
  | [] => some []
  | p :: r => match lk fr p.1 with
    | some (.v v) => (p.2.dec v).bind fun x => (qp8 fr r).bind fun y => some (x ++ y)
    | _ => none
def SS.de (s : SS) (σ : St2) : Option (List Leaf) := (qp8 σ.fr s.fr).bind fun x => (qhZ qus s.mem σ.mem).bind fun y => if σ.nx = s.nx then some (x ++ y) else none
def SS.dec (s : SS) (σ : St2) : Option s.D := (s.de σ).bind (ofL _)
theorem qw5 {fr : List (Nat × Sv2)} : ∀ {l : List (Nat × ShV)} {x : List Leaf}, qp8 fr l = some x → ∀ r, ∃ fr', qfy qw4 l (x ++ r) = (fr', r) ∧ ∀ t v, lk fr' t = some v → lk fr t = some v := by
  intro l
  induction l with
  | nil => intro x h r; cases h; exact ⟨[], rfl, fun t v h => by cases h⟩
  | cons p l ih =>
    intro x h r
    simp only [qp8] at h
    split at h
    · rename_i v' hv'
      simp only [Option.bind_eq_some_iff] at h
      obtain ⟨y, h1, z, h2, h⟩ := h
      cases h
      obtain ⟨fr', h3, h4⟩ := ih h2 r
      refine ⟨(p.1, .v v') :: fr', ?_, ?_⟩
      · simp only [qfy, qw4, List.append_assoc, ShV.rt _ _ _ h1, h3]
      · intro t v hv
        simp only [lk] at hv
        split at hv
        · rename_i e
          cases hv
          rw [← e]
          exact hv'
        · exact h4 t v hv
    · cases h
theorem SS.dec_ok {s : SS} {σ2 : St2} {x : s.D} (h : s.dec σ2 = some x) {σ : St} (hs : StR σ2 σ) : StR (s.enc x) σ := by
  simp only [SS.dec, Option.bind_eq_some_iff] at h
  obtain ⟨l, h, h0⟩ := h
  simp only [SS.de, Option.bind_eq_some_iff] at h
  obtain ⟨y, h1, z, h2, h⟩ := h
  split at h
  · rename_i e
    cases h
    obtain ⟨fr', h3, h4⟩ := qw5 h1 z
    have h5 := rtO.row _ _ _ h2 []
    rw [List.append_nil] at h5
    simp only [SS.enc, qsf h0, SS.en, h3, h5]
    exact ⟨fun t v hv => hs.fr t v (h4 t v hv), hs.mem, by rw [hs.nx, e]⟩
  · cases h
structure OS where
  id : Option Nat
  s : SS
@[reducible] def OS.D (o : OS) : Type := o.s.D
def OS.enc (o : OS) (x : o.D) : Out2 := match o.id with
  | some i => .exit i (o.s.enc x)
  | none => .ret (o.s.enc x)
def OS.dec (o : OS) (u : Out2) : Option o.D := match o.id, u with
  | some i, .exit j σ => if j = i then o.s.dec σ else none
  | none, .ret σ => o.s.dec σ
  | _, _ => none
theorem OS.dec_ok (o : OS) (u : Out2) (x : o.D) (h : o.dec u = some x) : ∀ v, qdi u v → qdi (o.enc x) v := by
  obtain ⟨id, s⟩ := o
  intro v hv
  cases id with
  | none =>
    cases u <;> simp only [OS.dec] at h <;> first | cases h | skip
    cases v <;> simp only [qdi] at hv
    exact SS.dec_ok h hv
  | some i =>
    cases u <;> simp only [OS.dec] at h <;> first | cases h | skip
    split at h
    · rename_i e
      cases v <;> simp only [qdi] at hv
      exact ⟨by rw [← e]; exact hv.1, SS.dec_ok h hv.2⟩
    · cases h

structure Inst where
  f : FuncId
  sh : FS
  os : List FS
  F : sh.D → Option (DS FS.D os)
structure LInst where
  b : Nat
  hs : List SS
  os : List OS
  F : DS SS.D hs → Option (DS OS.D os)
section
variable {R : Type}
def COt (f : FuncId) (a : List V2) (b : List Blk2) (K : List V2 × List Blk2 → Option R) : List Inst → Option R
  | [] => none
  | i :: r => if i.f = f then (match i.sh.dec (a, b) with
    | some x => (i.F x).bind fun y => qD FS.enc K i.os y
    | none => COt f a b K r) else COt f a b K r
def LOt (T : TypeId → Option TI) (kp : Nat → List Kp) (p : Nat) (b : Nat) (σ : St2) (K : Out2 → Option R) : List LInst → Option R
  | [] => none
  | i :: r => if i.b = b then (match (qp7 T p (kp b) σ).bind (qj SS.dec i.hs) with
    | some x => (i.F x).bind fun y => qD OS.enc K i.os y
    | none => LOt T kp p b σ K r) else LOt T kp p b σ K r
def qH (T : TypeId → Option TI) (ks : List Kp) (p : Nat) (hs : List SS) (os : List OS) (F : DS SS.D hs → Option (DS OS.D os)) : Out2 → Option (DS OS.D os)
  | .norm σ => ((qp7 T p ks σ).bind (qj SS.dec hs)).bind F
  | o => qj OS.dec os o
end
def qf (cl : FuncId → List Vl → List Blk → Option (List Vl × List Blk)) (i : Inst) : Prop :=
  ∀ x y, i.F x = some y → cl i.f ((i.sh.enc x).1.map V2.at) ((i.sh.enc x).2.map Blk2.at) = some ((qgp FS.enc i.os y).1.map V2.at, (qgp FS.enc i.os y).2.map Blk2.at)
def qk (cl : FuncId → List Vl → List Blk → Option (List Vl × List Blk)) : List Inst → Prop
  | [] => True
  | i :: r => qf cl i ∧ qk cl r
theorem qd {R : Type} {cl : FuncId → List Vl → List Blk → Option (List Vl × List Blk)} : ∀ {l : List Inst}, qk cl l → COk (fun f a b (K : List V2 × List Blk2 → Option R) => COt f a b K l) cl := by
  intro l
  induction l with
  | nil => intro _ f a b K r e; cases e
  | cons i l ih =>
    intro h f a b K r e
    simp only [COt] at e
    split at e
    · rename_i hf
      subst hf
      split at e
      · rename_i x hx
        simp only [Option.bind_eq_some_iff] at e
        obtain ⟨y, h1, e⟩ := e
        rw [qh0] at e
        refine ⟨_, e, ?_⟩
        have := h.1 x y h1
        rw [FS.dec_eq hx] at this
        exact this
      · exact ih h.2 _ _ _ _ _ e
    · exact ih h.2 _ _ _ _ _ e

theorem qsg {hs : List SS} {σ2 : St2} {x : DS SS.D hs} (h : qj SS.dec hs σ2 = some x) {σ : St} (hs' : StR σ2 σ) : StR (qgp SS.enc hs x) σ :=
  qhf (enc := SS.enc) (dec := SS.dec) (Q := fun a b => ∀ σ, StR b σ → StR a σ) (fun s a x h σ hr => SS.dec_ok h hr) (l := hs) h σ hs'
section
variable {c : Cfg} {callF : FuncId → List Vl → List Blk → Option (List Vl × List Blk)} {kp : Nat → List Kp} {nt k p : Nat}
def qY (c : Cfg) (callF : FuncId → List Vl → List Blk → Option (List Vl × List Blk)) (kp : Nat → List Kp) (nt k p : Nat) (b : Nat) (x0 : Code) (i : LInst) : Prop :=
  ∀ x y τ, StR (qgp SS.enc i.hs x) τ → i.F x = some y → ∃ o, qp1 (qfP p (kp b)) (qa8 c callF kp nt k p b x0) k (some τ) = some o ∧ qdi (qgp OS.enc i.os y) o
def qAp (c : Cfg) (callF : FuncId → List Vl → List Blk → Option (List Vl × List Blk)) (kp : Nat → List Kp) (nt k p : Nat) (b : Nat) (x0 : Code) : List LInst → Prop
  | [] => True
  | i :: r => (i.b = b → qY c callF kp nt k p b x0 i) ∧ qAp c callF kp nt k p b x0 r
theorem qw {R : Type} {b : Nat} {x0 : Code} : ∀ {l : List LInst}, qAp c callF kp nt k p b x0 l → LOk (fun b _ σ (K : Out2 → Option R) => LOt c.T kp p b σ K l) c callF kp nt k p b x0 := by
  intro l
  induction l with
  | nil => intro _ σ2 σ hs K r e; cases e
  | cons i l ih =>
    intro h σ2 σ hs K r e
    simp only [LOt] at e
    split at e
    · rename_i hb
      split at e
      · rename_i x hx
        simp only [Option.bind_eq_some_iff] at hx
        obtain ⟨S2, h1, h2⟩ := hx
        obtain ⟨S, h3, h4⟩ := qtC hs h1
        simp only [Option.bind_eq_some_iff] at e
        obtain ⟨y, h5, e⟩ := e
        rw [qh0] at e
        obtain ⟨o, h6, h7⟩ := h.1 hb x y S (qsg h2 h4) h5
        exact ⟨_, e, o, by rw [qtu, h3, h6], h7⟩
      · exact ih h.2 _ _ hs _ _ e
    · exact ih h.2 _ _ hs _ _ e
theorem qr {b : Nat} {x0 : Code} {hs : List SS} {os : List OS} {CO : FuncId → List V2 → List Blk2 → (List V2 × List Blk2 → Option (DS OS.D os)) → Option (DS OS.D os)} {LO : Nat → Code → St2 → (Out2 → Option (DS OS.D os)) → Option (DS OS.D os)}
    (hC : COk CO callF) (hL : qg (LOk LO c callF kp nt k p) b x0) (F : Nat → DS SS.D hs → Option (DS OS.D os)) (h0 : ∀ x, F 0 x = none)
    (hF : ∀ n x, F (n + 1) x = qD SS.enc (fun σ => qF c CO LO nt b x0 σ (qH c.T (kp b) p hs os (F n))) hs x) : qY c callF kp nt k p b x0 ⟨b, hs, os, F k⟩ := by
  have key : ∀ n x y τ, StR (qgp SS.enc hs x) τ → F n x = some y → ∃ o, qp1 (qfP p (kp b)) (qa8 c callF kp nt k p b x0) n (some τ) = some o ∧ qdi (qgp OS.enc os y) o := by
    intro n
    induction n with
    | zero => intro x y τ _ e; rw [h0] at e; cases e
    | succ n ih =>
      intro x y τ ht e
      rw [hF, qh0] at e
      obtain ⟨o2, e, o, h1, h2⟩ := qvK hC x0 b _ _ hL ht _ _ e
      cases o2 with
      | norm σ2 =>
        simp only [qH, Option.bind_eq_some_iff] at e
        obtain ⟨x', ⟨S2, h3, h4⟩, e⟩ := e
        cases o <;> simp only [qdi] at h2
        rename_i τ'
        obtain ⟨S, h5, h6⟩ := qtC h2 h3
        obtain ⟨o, h7, h8⟩ := ih x' y S (qsg h4 h6) e
        refine ⟨o, ?_, h8⟩
        simp only [qhS, h1, qgl, qtu, h5, h7]
      | exit i σ2 =>
        have := qhf (enc := OS.enc) (Q := fun a b => ∀ v, qdi b v → qdi a v) (fun s a x h => OS.dec_ok s a x h) (l := os) e o h2
        refine ⟨o, ?_, this⟩
        cases o <;> simp only [qdi] at h2
        simp only [qhS, h1, qgl]
      | ret σ2 =>
        have := qhf (enc := OS.enc) (Q := fun a b => ∀ v, qdi b v → qdi a v) (fun s a x h => OS.dec_ok s a x h) (l := os) e o h2
        refine ⟨o, ?_, this⟩
        cases o <;> simp only [qdi] at h2
        simp only [qhS, h1, qgl]
  exact fun x y τ ht e => key k x y τ ht e

def bd (f : Func) : Code := f.body.getD .skip
theorem qgY {α β : Type} (enc : α → List Leaf → β × List Leaf) : ∀ (l : List α) (x : List Leaf), (qfy enc l x).1.length = l.length
  | [], _ => rfl
  | s :: r, x => by simp only [qfy, List.length_cons, qgY enc r]
theorem qe {f : FuncId} {fn : Func} {body : Code} {sh : FS} {os : List FS} (hX : c.X f = none) (hf : c.F f = some fn) (hb : fn.body = some body) (hl : sh.vs.length = fn.params.size ∧ sh.vs.length ≤ fn.ntmps)
    {CO : FuncId → List V2 → List Blk2 → (List V2 × List Blk2 → Option (DS FS.D os)) → Option (DS FS.D os)} {LO : Nat → Code → St2 → (Out2 → Option (DS FS.D os)) → Option (DS FS.D os)}
    (hC : COk CO (call c k)) (hL : qg (LOk LO c (call c k) (c.keep f) fn.ntmps k sh.bs.length) 0 body) (F : sh.D → Option (DS FS.D os))
    (hF : ∀ x, F x = qi c CO LO f fn.ntmps fn.results.toList body (sh.enc x).1 (sh.enc x).2 (qj FS.dec os)) : qf (call c (k + 1)) ⟨f, sh, os, F⟩ := by
  intro x y e
  simp only [] at e
  rw [hF] at e
  have hlen : (sh.enc x).2.length = sh.bs.length := qgY _ _ _
  rw [← hlen] at hL
  obtain ⟨r, e, h1⟩ := qzG hC f fn body _ _ hL _ _ e
  have h2 := qhf (enc := FS.enc) (Q := fun a b => a = b) (fun s a x h => FS.dec_eq h) (l := os) e
  have hlv : (sh.enc x).1.length = sh.vs.length := qgY _ _ _
  simp only [call, hX, hf, Option.bind_some, hb, qtT, List.length_map]
  simp only [List.length_map] at h1
  rw [if_pos (by rw [hlv]; exact hl), h1, h2]
end
end Go.Proofs.YtbhnafdmilfobaaGreat.Am

/- The tables are the program's: by reckoning. -/
set_option linter.unusedVariables false
set_option linter.unusedSimpArgs false
namespace Go.Proofs.YtbhnafdmilfobaaGreat.Am
open Go

def zB : At → Value → Bool
  | .int k n, .int k' n' => decide (k = k') && decide (n = n')
  | .bool b, .bool b' => b == b'
  | .str s, .string s' => s.data.toList.isEmpty && s'.data.toList.isEmpty
  | .snil _ _, .slice none 0 0 => true
  | .nilp, .pointer none => true
  | _, _ => false
theorem qw6 {h : Hp} {x : At} {v : Value} (e : zB x v = true) : RP h x v ∧ x.pr = true := by
  unfold zB at e
  split at e
  · simp only [Bool.and_eq_true, decide_eq_true_eq] at e
    obtain ⟨rfl, rfl⟩ := e
    exact ⟨.int _ _, rfl⟩
  · simp only [beq_iff_eq] at e; subst e; exact ⟨.bool _, rfl⟩
  · rename_i s s'
    simp only [Bool.and_eq_true, List.isEmpty_iff] at e
    obtain ⟨h1, h2⟩ := e
    obtain ⟨⟨l⟩⟩ := s
    obtain ⟨⟨l'⟩⟩ := s'
    simp only at h1 h2
    subst h1 h2
    exact ⟨.str _, rfl⟩
  · exact ⟨.snil _ _, rfl⟩
  · exact ⟨.nilp, rfl⟩
  · cases e

def zBs : List At → List Value → Bool
  | [], [] => true
  | x :: xs, v :: vs => zB x v && zBs xs vs
  | _, _ => false
theorem qpL {h : Hp} : ∀ {xs : List At} {vs : List Value}, zBs xs vs = true → xs.length = vs.length ∧ (∀ (j : Nat) (x : At), xs[j]? = some x → ∃ u, vs[j]? = some u ∧ RP h x u) ∧ ∀ x ∈ xs, x.pr = true := by
  intro xs
  induction xs with
  | nil => intro vs e; cases vs with
    | nil => exact ⟨rfl, by simp, by simp⟩
    | cons v vs => cases e
  | cons x xs ih =>
    intro vs e
    cases vs with
    | nil => cases e
    | cons v vs =>
      simp only [zBs, Bool.and_eq_true] at e
      obtain ⟨h1, h2⟩ := qw6 (h := h) e.1
      obtain ⟨i1, i2, i3⟩ := ih e.2
      refine ⟨by simp [i1], fun j y hj => ?_, fun y hy => ?_⟩
      · cases j with
        | zero => simp at hj; subst hj; exact ⟨v, rfl, h1⟩
        | succ j => simp at hj; simpa using i2 j y hj
      · rcases List.mem_cons.1 hy with rfl | hy
        · exact h2
        · exact i3 y hy

def qjR (P : Program) : List (Nat × Nat) → List TypeId → List Field → Bool
  | [], [], [] => true
  | p :: ps, t :: ts, f :: fs => f.offset == p.1 && f.type == t && (match P.info? f.type with | some ti => ti.size == p.2 | none => false) && qjR P ps ts fs
  | _, _, _ => false
theorem qpY {P : Program} : ∀ {ps : List (Nat × Nat)} {ts : List TypeId} {fs : List Field}, qjR P ps ts fs = true →
    ps.length = fs.length ∧ (∀ (j : Nat) (p : Nat × Nat), ps[j]? = some p → ∃ f, fs[j]? = some f ∧ f.offset = p.1 ∧ ∃ ti, P.info? f.type = some ti ∧ ti.size = p.2) ∧ (fs.map fun f => f.type) = ts := by
  intro ps
  induction ps with
  | nil => intro ts fs e; cases ts <;> cases fs <;> first | exact ⟨rfl, by simp, rfl⟩ | cases e
  | cons p ps ih =>
    intro ts fs e
    cases ts with
    | nil => cases e
    | cons t ts =>
      cases fs with
      | nil => cases e
      | cons f fs =>
        simp only [qjR, Bool.and_eq_true, beq_iff_eq] at e
        obtain ⟨⟨⟨e1, e2⟩, e3⟩, e4⟩ := e
        obtain ⟨i1, i2, i3⟩ := ih e4
        refine ⟨by simp [i1], fun j q hj => ?_, by simp [e2, i3]⟩
        cases j with
        | zero =>
          simp at hj
          subst hj
          refine ⟨f, rfl, e1, ?_⟩
          split at e3
          · rename_i ti hti
            exact ⟨ti, hti, by simpa using e3⟩
          · cases e3
        | succ j => simp at hj; simpa using i2 j q hj

def tdB (P : Program) : TD → TypeDesc → Bool
  | .int k, .int k' => decide (k = k')
  | .bool, .bool => true
  | .str, .string => true
  | .ptr, .pointer _ => true
  | .sl e, .slice e' => e == e'
  | .st ps ts, .struct F => qjR P ps ts F.toList
  | .arr n e, .array n' e' => n == n' && e == e'
  | .oth, _ => true
  | _, _ => false
theorem qvN {P : Program} {d : TD} {e : TypeDesc} (h : tdB P d e = true) : qwC P d e := by
  unfold tdB at h
  split at h
  · simp only [decide_eq_true_eq] at h; subst h; exact rfl
  · exact rfl
  · exact rfl
  · exact ⟨_, rfl⟩
  · simp only [beq_iff_eq] at h; subst h; exact rfl
  · rename_i ps ts F
    obtain ⟨h1, h2, h3⟩ := qpY h
    refine ⟨F, rfl, by simpa using h1, fun j p hj => ?_, h3⟩
    obtain ⟨f, q1, q2⟩ := h2 j p hj
    exact ⟨f, by simpa using q1, q2⟩
  · simp only [Bool.and_eq_true, beq_iff_eq] at h; obtain ⟨rfl, rfl⟩ := h; exact rfl
  · trivial
  · cases h

def qAq (P : Program) (t : TypeId) (i : TI) : Bool :=
  (match P.info? t with
    | some ti => ti.size == i.size && ti.bytes == i.bytes && (i.zero.length != i.size || (match ti.zero with | some z => z.cells.size == i.size && zBs i.zero z.cells.toList | none => false))
    | none => false) &&
  (match P.underlying t with
    | some d => tdB P i.d d && (qmA d == i.agg) && (!i.eqs || (match d with | .struct fs => !P.eqGuardType P.depth t && !P.stoodInHeld t && qjI P 0 fs.toList | _ => false))
    | none => false)
theorem qAr {P : Program} {t : TypeId} {i : TI} (h : qAq P t i = true) : TOk P t i := by
  unfold qAq at h
  rw [Bool.and_eq_true] at h
  obtain ⟨h1, h2⟩ := h
  split at h1
  · rename_i ti hti
    simp only [Bool.and_eq_true, beq_iff_eq, Bool.or_eq_true, bne_iff_ne] at h1
    obtain ⟨⟨a1, a2⟩, a3⟩ := h1
    refine ⟨⟨ti, hti, a1, a2⟩, ?_, fun hz => ?_, fun he => ?_⟩
    · split at h2
      · rename_i d hd
        simp only [Bool.and_eq_true, beq_iff_eq] at h2
        exact ⟨d, hd, qvN h2.1.1, h2.1.2⟩
      · cases h2
    · rcases a3 with a3 | a3
      · exact absurd hz a3
      · split at a3
        · rename_i z hzz
          simp only [Bool.and_eq_true, beq_iff_eq] at a3
          obtain ⟨b1, b2⟩ := a3
          refine ⟨ti, z, hti, hzz, b1, fun h j x hj => ?_, (qpL (h := fun _ => none) b2).2.2⟩
          obtain ⟨u, g1, g2⟩ := (qpL (h := h) b2).2.1 j x hj
          exact ⟨u, by simpa using g1, g2⟩
        · cases a3
    · split at h2
      · rename_i d hd
        simp only [Bool.and_eq_true, beq_iff_eq, he, Bool.not_true, Bool.false_or] at h2
        obtain ⟨_, h3⟩ := h2
        split at h3
        · rename_i fs _
          simp only [Bool.and_eq_true, Bool.not_eq_true'] at h3
          exact ⟨h3.1.1, h3.1.2, fs, hd, h3.2⟩
        · cases h3
      · cases h2
  · cases h1

theorem qw7 {P : Program} (h : (P.funcs.toList.all fun fn => !(fn.name == "runtime.NumGoroutine")) = true) {f : FuncId} {fn : Func} (e : P.funcs[f]? = some fn) : P.funcs[f]? = some fn ∧ (fn.name == "runtime.NumGoroutine") = false := by
  refine ⟨e, ?_⟩
  rw [List.all_eq_true] at h
  have := h fn (by simpa using Array.mem_of_getElem? e)
  simpa using this
end Go.Proofs.YtbhnafdmilfobaaGreat.Am

/- The tables of this seat's program as the abstract machine reads them. -/
namespace Go.Proofs.YtbhnafdmilfobaaGreat.Am
open Go
def Ty : TypeId → Option TI
  | 0 => some ⟨.oth, 1, 0, false, [], false⟩
  | 2 => some ⟨.int .i64, 1, 8, false, [.int .i64 0], false⟩
  | 3 => some ⟨.int .i64, 1, 8, false, [.int .i64 0], false⟩
  | 4 => some ⟨.bool, 1, 1, false, [.bool false], false⟩
  | 5 => some ⟨.int .u8, 1, 1, false, [.int .u8 0], false⟩
  | 9 => some ⟨.str, 1, 16, false, [.str ⟨#[]⟩], false⟩
  | 22 => some ⟨.sl 48, 1, 24, false, [.snil 2 48], false⟩
  | 24 => some ⟨.st [(0, 1), (1, 1), (2, 1), (3, 1)] [9, 5, 22, 22], 4, 72, true, [.str ⟨#[]⟩, .int .u8 0, .snil 2 48, .snil 2 48], false⟩
  | 25 => some ⟨.sl 68, 1, 24, false, [.snil 1 68], false⟩
  | 27 => some ⟨.st [(0, 1), (1, 1)] [4, 25], 2, 32, true, [.bool false, .snil 1 68], false⟩
  | 29 => some ⟨.st [(0, 2), (2, 2)] [27, 27], 4, 64, true, [.bool false, .snil 1 68, .bool false, .snil 1 68], false⟩
  | 32 => some ⟨.int .i64, 1, 8, false, [.int .i64 0], false⟩
  | 33 => some ⟨.oth, 1, 0, false, [], false⟩
  | 35 => some ⟨.oth, 1, 0, false, [], false⟩
  | 37 => some ⟨.oth, 1, 0, false, [], false⟩
  | 39 => some ⟨.oth, 1, 0, false, [], false⟩
  | 48 => some ⟨.st [(0, 1), (1, 1)] [2, 3], 2, 16, true, [.int .i64 0, .int .i64 0], true⟩
  | 50 => some ⟨.sl 3, 1, 24, false, [.snil 1 3], false⟩
  | 52 => some ⟨.st [(0, 1), (1, 1), (2, 1)] [3, 22, 50], 3, 56, true, [.int .i64 0, .snil 2 48, .snil 1 3], false⟩
  | 55 => some ⟨.oth, 1, 0, false, [], false⟩
  | 57 => some ⟨.oth, 1, 0, false, [], false⟩
  | 59 => some ⟨.oth, 1, 0, false, [], false⟩
  | 63 => some ⟨.oth, 1, 0, false, [], false⟩
  | 66 => some ⟨.oth, 1, 0, false, [], false⟩
  | 68 => some ⟨.int .u32, 1, 4, false, [.int .u32 0], false⟩
  | 70 => some ⟨.ptr, 1, 8, false, [.nilp], false⟩
  | 72 => some ⟨.st [(0, 1), (1, 1)] [4, 25], 2, 32, true, [.bool false, .snil 1 68], false⟩
  | 74 => some ⟨.st [(0, 2), (2, 2)] [72, 72], 4, 64, true, [.bool false, .snil 1 68, .bool false, .snil 1 68], false⟩
  | 81 => some ⟨.st [(0, 1), (1, 1)] [4, 50], 2, 32, true, [.bool false, .snil 1 3], false⟩
  | 83 => some ⟨.st [(0, 2), (2, 2)] [81, 81], 4, 64, true, [.bool false, .snil 1 3, .bool false, .snil 1 3], false⟩
  | 84 => some ⟨.oth, 1, 0, false, [], false⟩
  | 98 => some ⟨.arr 2 22, 2, 48, true, [.snil 2 48, .snil 2 48], false⟩
  | 112 => some ⟨.ptr, 1, 8, false, [.nilp], false⟩
  | 125 => some ⟨.oth, 1, 0, false, [], false⟩
  | 135 => some ⟨.sl 5, 1, 24, false, [.snil 1 5], false⟩
  | 138 => some ⟨.oth, 1, 0, false, [], false⟩
  | 145 => some ⟨.int .u64, 1, 8, false, [.int .u64 0], false⟩
  | 147 => some ⟨.int .u64, 1, 8, false, [.int .u64 0], false⟩
  | 148 => some ⟨.oth, 1, 0, false, [], false⟩
  | 156 => some ⟨.oth, 1, 0, false, [], false⟩
  | 161 => some ⟨.oth, 1, 0, false, [], false⟩
  | 163 => some ⟨.oth, 1, 0, false, [], false⟩
  | _ => none
def kps : FuncId → Nat → List Kp
  | 4, 0 => [.b 2, .b 5, .s 25, .s 26, .s 27]
  | 7, 0 => [.s 1, .b 2, .b 4, .b 5, .s 8, .s 9]
  | 11, 0 => [.b 2, .b 3, .s 6]
  | 12, 0 => [.b 2, .b 3, .s 7]
  | 13, 0 => [.b 1, .s 3]
  | 13, 2 => [.b 1, .s 4]
  | 15, 0 => [.b 1, .s 18, .s 19]
  | 15, 2 => [.b 1, .s 18, .s 19, .s 22, .s 23, .s 24]
  | 15, 5 => [.b 1, .s 7]
  | 20, 0 => [.b 1, .s 9, .s 10, .s 11]
  | 20, 2 => [.b 1, .s 20, .s 21, .s 22]
  | 20, 5 => [.b 1, .s 7]
  | 21, 0 => [.b 1, .s 3]
  | 21, 2 => [.b 1, .s 4]
  | 24, 1 => [.s 1, .s 36, .s 37, .s 38]
  | 25, 0 => [.s 1, .b 2, .s 6, .s 7]
  | 25, 2 => [.s 1, .b 2, .s 6, .s 8, .s 9]
  | 46, 0 => [.s 0, .s 3]
  | 50, 0 => [.b 2, .b 3, .s 5]
  | 51, 0 => [.s 14, .s 15, .s 16]
  | 54, 0 => [.s 0, .s 1, .s 5]
  | 55, 0 => [.s 0, .s 3]
  | 58, 0 => [.s 1, .b 2, .s 5]
  | 63, 1 => [.s 1, .b 2, .b 4, .s 5, .s 10]
  | 64, 0 => [.s 5, .s 6, .s 7, .s 29]
  | 65, 0 => [.b 2, .b 3, .s 5]
  | 72, 0 => [.s 0, .s 3, .s 4]
  | 72, 2 => [.s 0, .s 3, .s 4, .s 6, .s 7]
  | 72, 4 => [.s 3, .s 8, .s 9]
  | 75, 0 => [.s 0, .s 1, .s 2, .s 7, .s 29, .s 30, .s 31]
  | 75, 2 => [.s 0, .s 1, .s 2, .s 7, .s 8, .s 9, .s 10, .s 29, .s 30, .s 31, .s 39, .s 40, .s 41]
  | 85, 0 => [.b 1, .b 2, .b 3, .s 4]
  | 90, 0 => [.b 2, .b 3, .b 4]
  | 91, 0 => [.b 1, .b 2, .s 3, .s 4]
  | 92, 0 => [.s 0, .b 2, .b 3]
  | 93, 0 => [.b 2, .b 3, .b 4, .s 5, .s 6]
  | 93, 2 => [.b 2, .b 3, .b 4, .s 5, .s 6, .s 7, .s 8]
  | 94, 0 => [.b 2, .b 3, .s 4]
  | 96, 0 => [.s 0, .b 2, .b 3, .s 4]
  | 101, 0 => [.b 1, .s 4, .s 5]
  | 107, 0 => [.s 0, .s 3]
  | 108, 0 => [.s 0, .s 1, .s 6, .s 7, .s 8]
  | 111, 0 => [.s 5, .s 6]
  | 117, 0 => [.s 0, .s 1, .s 5]
  | 121, 0 => [.b 2, .b 3, .b 4, .b 5, .s 6, .s 7, .s 8]
  | 122, 0 => [.s 0, .s 3]
  | 124, 0 => [.s 3, .s 4, .s 7, .s 8]
  | 125, 0 => [.s 0, .s 4, .s 5]
  | 131, 0 => [.s 0, .s 1, .s 5, .s 6, .s 21, .s 22]
  | 132, 0 => [.s 0, .s 1, .s 5, .s 6, .s 13, .s 14]
  | 133, 0 => [.s 0, .s 1, .s 5, .s 6, .s 7]
  | 134, 0 => [.s 0, .s 1, .s 5]
  | 135, 0 => [.s 0, .s 1, .s 5, .s 6, .s 7]
  | 136, 0 => [.s 0, .s 1, .s 5, .s 6]
  | 137, 0 => [.s 0, .s 1, .s 6]
  | 137, 2 => [.s 4, .s 6, .s 7, .s 8, .s 9, .s 10]
  | 137, 4 => [.s 4, .s 6, .s 7, .s 8, .s 9, .s 10, .s 12, .s 13]
  | 137, 6 => [.s 4, .s 5, .s 6, .s 8, .s 139, .s 140]
  | 138, 0 => [.s 1, .s 5, .s 13, .s 14, .s 15]
  | 139, 0 => [.s 0, .s 1, .s 2, .s 7, .s 8, .s 14, .s 15]
  | 139, 2 => [.s 0, .s 1, .s 2, .s 7, .s 61, .s 62]
  | _, _ => []
def qJi : FuncId → Bool
  | 139 => true
  | 122 => true
  | 26 => true
  | _ => false
def qJj : FuncId → Bool
  | 70 => true
  | 106 => true
  | 122 => true
  | 138 => true
  | 19 => true
  | 6 => true
  | _ => false
-- types: 0, 2, 3, 4, 5, 9, 22, 24, 25, 27, 29, 32, 33, 35, 37, 39, 48, 50, 52, 55, 57, 59, 63, 66, 68, 70, 72, 74, 81, 83, 84, 98, 112, 125, 135, 138, 145, 147, 148, 156, 161, 163
-- funcs: 3 shunt/shuntlaw05.ModelCalls, 4 shunt/shuntlaw04.WaveCalls, 5 shunt/shuntlaw05.awake, 6 shunt/shuntlaw05.lent, 7 shunt/model.Part, 8 shunt/shuntref05.Part, 9 shunt/model.Side, 10 shunt/shuntref05.Side, 11 shunt/model.Find, 12 shunt/shuntref05.Find, 13 shunt/shuntref05.Valid, 14 shunt/shuntref02.Same, 15 shunt/model.Valid, 16 shunt/model.Count, 17 shunt/shuntref05.Same, 18 shunt/shuntlaw04.awake, 19 shunt/shuntlaw04.lent, 20 shunt/wave.Valid, 21 shunt/shuntref04.Valid, 22 shunt/wave.At, 23 shunt/shuntref04.At, 24 shunt/wave.Next, 25 shunt/shuntref04.Next, 26 shunt/shuntlaw04.whole, 27 shunt/rat.Make, 28 shunt/limb.Of, 29 shunt/limb.Text, 30 shunt/model.check, 31 (*shunt/big.Rat).Sub, 32 shunt/model.value, 33 (*shunt/big.Rat).Add, 34 (*shunt/big.Rat).Mul, 35 shunt/model.knot, 36 shunt/wide.Frac, 37 shunt/shuntref05.Fault, 38 shunt/shuntref05.Line, 39 shunt/shuntref02.Give, 40 shunt/rat.Check, 41 shunt/wide.Rat, 42 (*shunt/big.Rat).Cmp, 43 shunt/shuntref02.Fault, 44 shunt/shuntref05.Lies, 45 shunt/shuntref02.Take, 46 shunt/shuntref05.Name, 47 shunt/shuntref03.Valid, 48 shunt/shuntref02.Held, 49 shunt/shuntref03.Of, 50 shunt/shuntref01.Same, 51 shunt/model.Name, 52 shunt/num.Valid, 53 shunt/num.Cmp, 54 shunt/shuntref03.Same, 55 shunt/shuntref04.rising, 56 shunt/wave.value, 57 shunt/wave.pulse, 58 shunt/wave.pwl, 59 shunt/big.NewRat, 60 shunt/rat.Round, 61 shunt/shuntref02.Grid, 62 shunt/shuntref03.Billion, 63 shunt/shuntref04.Says, 64 shunt/wave.corners, 65 shunt/shuntref04.Same, 66 shunt/limb.Check, 67 shunt/rat.answer, 68 shunt/big.Frac, 69 shunt/wide.Take, 70 shunt/wide.Give, 71 shunt/big.NewInt, 72 (*shunt/big.Int).String, 73 (*shunt/big.Rat).Neg, 74 shunt/num.Value, 75 (*shunt/big.Int).Mul, 76 (*shunt/big.Rat).Denom, 77 (*shunt/big.Rat).frac, 78 (*shunt/big.Int).Add, 79 (*shunt/big.Rat).Num, 80 shunt/shuntref02.Of, 81 shunt/shuntref05.Knot, 82 shunt/shuntref02.Less, 83 shunt/shuntref02.Plus, 84 shunt/shuntref02.Times, 85 shunt/shuntref01.Give, 86 shunt/limb.Gcd, 87 (*shunt/big.Int).Cmp, 88 shunt/shuntref01.Right, 89 shunt/shuntref01.Held, 90 shunt/shuntref01.Common, 91 shunt/shuntref01.Take, 92 shunt/shuntref01.Small, 93 shunt/shuntref01.Times, 94 shunt/shuntref01.Wide, 95 shunt/shuntref02.Lowest, 96 shunt/shuntref03.power, 97 shunt/num.frac, 98 shunt/wave.between, 99 shunt/rat.Grid, 100 shunt/rat.Near, 101 shunt/shuntref01.Whole, 102 shunt/shuntref02.Near, 103 shunt/shuntref04.line, 104 shunt/big.Of, 105 (*shunt/big.Int).Sign, 106 (*shunt/big.Int).Words, 107 shunt/big.trim, 108 shunt/big.short, 109 (*shunt/big.Int).Neg, 110 (*shunt/big.Int).set, 111 shunt/big.Gcd, 112 (*shunt/big.Int).Quo, 113 (*shunt/big.Int).sum, 114 shunt/shuntref02.Minus, 115 shunt/shuntref01.Plus, 116 shunt/limb.both, 117 shunt/big.cmp, 118 shunt/shuntref01.Sign, 119 shunt/shuntref01.Less, 120 shunt/shuntref01.Abs, 121 shunt/shuntref01.Divide, 122 shunt/shuntref01.trim, 123 shunt/shuntref01.Minus, 124 shunt/big.Ten, 125 (*shunt/big.Int).Int64, 126 (*shunt/big.Int).QuoRem, 127 (*shunt/big.Int).Abs, 128 (*shunt/big.Int).Odd, 129 shunt/shuntref02.Over, 130 shunt/big.divide, 131 shunt/big.add, 132 shunt/big.sub, 133 shunt/shuntref01.plus, 134 shunt/shuntref01.mags, 135 shunt/shuntref01.minus, 136 shunt/shuntref01.digit, 137 shunt/big.long, 138 shunt/big.shift, 139 shunt/big.take
noncomputable def cf : Cfg := { T := Ty, F := fun f => Tryz.prog.funcs[f]?, X := fun _ => none, mutA := qJi, ownR := qJj, keep := kps }
end Go.Proofs.YtbhnafdmilfobaaGreat.Am

/- Layer 45Z: the tables are the program's. -/
set_option linter.unusedVariables false
set_option maxRecDepth 100000
namespace Go.Proofs.YtbhnafdmilfobaaGreat.Am
open Go
theorem qEy : qcp Tryz.prog Ty := by
  intro t i h
  unfold Ty at h
  split at h <;> first | (cases h; done) | (cases h; exact qAr (by kernel_rfl))
theorem qgN : (Tryz.prog.funcs.toList.all fun fn => !(fn.name == "runtime.NumGoroutine")) = true := by kernel_rfl
theorem qAs : CfgOk Tryz.prog cf :=
  { ty := qEy, fn := fun f fn e => qw7 qgN e, ext := (fun f g args rs e _ => by cases e), mo := by kernel_rfl }
end Go.Proofs.YtbhnafdmilfobaaGreat.Am

/- A law's arguments, opened as typed words; the law's call. -/
set_option linter.unusedVariables false
set_option linter.unusedSimpArgs false
namespace Go.Proofs.YtbhnafdmilfobaaGreat.Am
open Go Go.RowKit Go.WideShapes

def qsR (f : TypeId → Option Cd) : List Field → Option Cd
  | [] => none
  | [x] => f x.type
  | x :: r => (f x.type).bind fun a => (qsR f r).bind fun b => some (.pr a b)
def Cd.by : Cd → Nat
  | .int .i8 | .int .u8 | .bool => 1
  | .int .i16 | .int .u16 => 2
  | .int .i32 | .int .u32 => 4
  | .int _ => 8
  | .str => 16
  | .sl _ => 24
  | .pr a b => a.by + b.by
def cdP (P : Program) : Nat → TypeId → Option Cd
  | 0, _ => none
  | k + 1, t => match P.underlying t with
    | some (.int k) => some (.int k)
    | some .bool => some .bool
    | some .string => some .str
    | some (.slice e) => (cdP P k e).bind fun c => if P.cellsOf e = c.sz ∧ c.by ≤ P.bytesOf e then some (.sl c) else none
    | some (.struct fs) => if qgc P fs.toList 0 (P.cellsOf t) = true then qsR (cdP P k) fs.toList else none
    | _ => none
def Wfd : (c : Cd) → c.D → Prop
  | .int k, n => (Lit.int k n).wf = true
  | .bool, _ => True
  | .str, s => s.size ≤ maxLen ∧ s.size ≤ reachBytes
  | .sl c, l => (l.length ≤ maxLen ∧ l.length * c.by ≤ reachBytes) ∧ ∀ x ∈ l, Wfd c x
  | .pr a b, x => Wfd a x.1 ∧ Wfd b x.2

section
variable {P : Program}
theorem qxX : ∀ (k : Nat) (t : TypeId) (c : Cd), cdP P k t = some c → ∀ xs : List At, Typed P t xs → ∃ y : c.D, xs = c.at y ∧ Wfd c y := by
  intro k
  induction k with
  | zero => intro t c h; cases h
  | succ k ih =>
    intro t c h xs ht
    simp only [cdP] at h
    split at h
    · rename_i kk hu
      cases h
      obtain ⟨n, rfl, hw⟩ := qvy hu ht
      exact ⟨n, rfl, hw⟩
    · rename_i hu
      cases h
      obtain ⟨b, rfl⟩ := qub hu ht
      exact ⟨b, rfl, trivial⟩
    · rename_i hu
      cases h
      obtain ⟨s, rfl, hs⟩ := qvz hu ht
      exact ⟨s, rfl, hs⟩
    · rename_i e hu
      simp only [Option.bind_eq_some_iff] at h
      obtain ⟨c', h1, h⟩ := h
      split at h
      · rename_i hz
        cases h
        obtain ⟨els, rfl, hn, hnb, hel⟩ := qwQ hu ht
        have key : ∀ els : List (List At), (∀ el ∈ els, Typed P e el) → ∃ l : List c'.D, els = l.map c'.at ∧ ∀ x ∈ l, Wfd c' x := by
          intro els
          induction els with
          | nil => intro _; exact ⟨[], rfl, by simp⟩
          | cons x r ih2 =>
            intro hx
            obtain ⟨y, rfl, hw⟩ := ih e c' h1 x (hx x (List.mem_cons_self ..))
            obtain ⟨l, rfl, hl⟩ := ih2 fun el hm => hx el (List.mem_cons_of_mem _ hm)
            exact ⟨y :: l, rfl, fun z hz => by
              rcases List.mem_cons.1 hz with rfl | hz
              · exact hw
              · exact hl z hz⟩
        obtain ⟨l, rfl, hl⟩ := key els hel
        rw [List.length_map] at hn hnb ⊢
        exact ⟨l, by simp only [Cd.at, hz.1], ⟨hn, Nat.le_trans (Nat.mul_le_mul_left _ hz.2) hnb⟩, hl⟩
      · cases h
    · rename_i fs hu
      split at h
      · rename_i htile
        obtain ⟨hcl, hf⟩ := qwR hu ht
        have key : ∀ (l : List Field) (o : Nat) (c : Cd), qsR (cdP P k) l = some c → qgc P l o (P.cellsOf t) = true → (∀ f ∈ l, Typed P f.type ((xs.drop f.offset).take (P.cellsOf f.type))) → ∃ y : c.D, xs.drop o = c.at y ∧ Wfd c y := by
          intro l
          induction l with
          | nil => intro o c h; cases h
          | cons f r ih2 =>
            intro o c h ho hfs
            simp only [qgc, Bool.and_eq_true, beq_iff_eq] at ho
            obtain ⟨rfl, ho⟩ := ho
            have h0 := hfs f (List.mem_cons_self ..)
            cases r with
            | nil =>
              simp only [qsR] at h
              simp only [qgc, beq_iff_eq] at ho
              obtain ⟨y, h2, h3⟩ := ih f.type c h _ h0
              refine ⟨y, ?_, h3⟩
              rw [← h2, List.take_of_length_le]
              rw [List.length_drop]; omega
            | cons g r =>
              simp only [qsR, Option.bind_eq_some_iff] at h
              obtain ⟨a, h4, b, h5, h⟩ := h
              cases h
              obtain ⟨y, h2, h3⟩ := ih f.type a h4 _ h0
              obtain ⟨z, h6, h7⟩ := ih2 _ b h5 ho fun g hg => hfs g (List.mem_cons_of_mem _ hg)
              refine ⟨(y, z), ?_, h3, h7⟩
              simp only [Cd.at]
              rw [← h2, ← h6, ← List.drop_drop, List.take_append_drop]
        obtain ⟨y, h1, h2⟩ := key fs.toList 0 c h htile fun f hfm => by
          obtain ⟨i, hi⟩ := List.getElem?_of_mem hfm
          exact hf i f (by simpa using hi)
        exact ⟨y, by simpa using h1, h2⟩
      · cases h
    · cases h

def qzh (P : Program) (t : TypeId) : Bool := match P.underlying t with
  | some (.struct _) => true
  | _ => false
def qig (st : Bool) (c : Cd) (y : c.D) : V2 := if st then .g (c.cl y) else .a ((c.cl y).headD .nilp)
variable {H : Type} {enc : TypeId × Value → H} {w : World} {base : Nat} {sp : Nat → Bool} {held : Bool}
theorem qpA {d base' : Nat} {t : TypeId} {c : Cd} (st : Bool) (ht : qf0 P d t = true) (hc : cdP P 9 t = some c) (hst : qzh P t = st) {v : Value} (hval : Value.okWide P w .any base' t v) {D : DataW H} {ps : List MemPlace}
    (hd : DataW.Trod enc P w base sp held t v D ps) (hwt : (DataW.weights P t D).all (· ≤ reachBytes) = true) : ∃ y : c.D, RV (fun _ => none) (view w) (qig st c y).at v ∧ qh [(qig st c y).at] = [] ∧ Wfd c y := by
  obtain ⟨x, h1, h2, h3, h4, h5⟩ := qwP ht hval hd hwt
  obtain ⟨y, h6, h7⟩ := qxX 9 t c hc _ h3
  have hx : x = (qig st c y).at := by
    unfold qzh at hst
    cases hu : P.underlying t with
    | none => rw [hu] at hst; simp only at hst; subst hst
              rcases h4 with ⟨z, rfl⟩ | ⟨fs, e⟩
              · simp only [qig, Bool.false_eq_true, if_false, V2.at]
                simp only [Vl.cells] at h6
                rw [← qfS] at h6
                match hq : c.cl y, h6 with
                | [], h6 => cases h6
                | q :: r, h6 => simp only [List.map_cons, List.cons.injEq] at h6; rw [h6.1]; rfl
              · rw [hu] at e; cases e
    | some dd =>
      cases st with
      | true =>
        have hs : ∃ fs, P.underlying t = some (.struct fs) := by
          rw [hu] at hst
          cases dd <;> simp only at hst <;> first | exact ⟨_, hu⟩ | cases hst
        rcases h5 with ⟨ys, rfl⟩ | e
        · simp only [qig, if_true, V2.at, qfS]
          rw [← h6]; rfl
        · exact absurd hs e
      | false =>
        rcases h4 with ⟨z, rfl⟩ | ⟨fs, e⟩
        · simp only [qig, Bool.false_eq_true, if_false, V2.at]
          simp only [Vl.cells] at h6
          rw [← qfS] at h6
          match hq : c.cl y, h6 with
          | [], h6 => cases h6
          | q :: r, h6 => simp only [List.map_cons, List.cons.injEq] at h6; rw [h6.1]; rfl
        · rw [hu] at e hst; cases e; cases hst
  subst hx
  exact ⟨y, h1, h2, h7⟩
theorem qzS {ι : Io} {h : Hp} : RVs ι h [] [] := ⟨rfl, by simp⟩
theorem qmr {ι : Io} {h : Hp} {x : Vl} {v : Value} {xs : List Vl} {vs : List Value} (h1 : RV ι h x v) (h2 : RVs ι h xs vs) : RVs ι h (x :: xs) (v :: vs) := by
  refine ⟨by simp [h2.1], fun j y e => ?_⟩
  cases j with
  | zero => simp at e; subst e; exact ⟨v, rfl, h1⟩
  | succ j => simp at e; simpa using h2.2 j y e
theorem qih {x : Vl} {xs : List Vl} (h1 : qh [x] = []) (h2 : qh xs = []) : qh (x :: xs) = [] := by
  simp only [qh, List.flatMap_cons, List.flatMap_nil, List.append_nil] at h1 h2 ⊢
  rw [h1, h2]; rfl
theorem qxY {c : Cfg} (hk : CfgOk P c) {k : Nat} {i : Inst} (hi : qf (call c k) i) {x : i.sh.D} {y : DS FS.D i.os} (h : i.F x = some y) (hy : qgp FS.enc i.os y = ([.a (.bool true)], []))
    {args : List V2} (ha : i.sh.enc x = (args, [])) {vals : Array Value} (hr : RVs (fun _ => none) (view w) (args.map V2.at) vals.toList) (hn : qh (args.map V2.at) = []) :
    Calls P i.f vals w fun e w' => e = .returned (.bool true) ∧ Below w.heap.size w w' := by
  have := hi x y h
  rw [hy, ha] at this
  exact qvx hk hr hn this
end
end Go.Proofs.YtbhnafdmilfobaaGreat.Am

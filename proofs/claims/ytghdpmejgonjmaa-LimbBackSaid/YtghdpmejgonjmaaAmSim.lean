/- The abstract machine's states and the program's own: what it means that one stands for the other. -/
import Derived.Test.YtghdpmejgonjmaaAmDefs
import Derived.ProofKit
import Derived.Below
import Derived.Laws.AppendOwn
import Derived.Maps.AppendAt
import Derived.Laws.Rows
import Derived.Laws.Cells
import Derived.Laws.Tables
import Derived.Laws.CopyRow
import Derived.Deep.MidRow
set_option linter.unusedVariables false
set_option linter.unusedSimpArgs false
namespace Go.Proofs.Ytghdpmejgonjmaa.Am
open Go

structure Loc where
  b : Nat
  sz : Nat
  es : Nat
abbrev Io := Nat → Option Loc
abbrev Hp := Nat → Option Obj

inductive RP (h : Hp) : At → Value → Prop
  | int (k n) : RP h (.int k n) (.int k n)
  | bool (b) : RP h (.bool b) (.bool b)
  | str (s) : RP h (.str s) (.string s)
  | snil (es ty) : RP h (.snil es ty) (.slice none 0 0)
  | nilp : RP h .nilp (.pointer none)
  | fn (f) : RP h (.fn f) (.func (.func f) #[] #[])
  | sl0 (es A c) : RP h (.sl es 0 []) (.slice A 0 c)
  | sl (n : Nat) (els : List (List At)) (b off c es : Nat) (C : Array Value) (t : TypeId) (z : Nat × Nat) (us : Nat → Nat → Value)
      (hb : h b = some (.cells C t z)) (hn : els.length = n) (hc : n ≤ c)
      (hl : ∀ (i : Nat) (e : List At), els[i]? = some e → e.length = es)
      (hu : ∀ (i : Nat) (e : List At) (j : Nat) (x : At), els[i]? = some e → e[j]? = some x → C[off + (i * es + j)]? = some (us i j))
      (hr : ∀ (i : Nat) (e : List At) (j : Nat) (x : At), els[i]? = some e → e[j]? = some x → RP h x (us i j)) : RP h (.sl es n els) (.slice (some ⟨b, off, none⟩) n c)
  | pp (e : List At) (o b off : Nat) (C : Array Value) (t : TypeId) (z : Nat × Nat) (us : Nat → Value)
      (hb : h b = some (.cells C t z))
      (hu : ∀ (j : Nat) (x : At), e[j]? = some x → C[off + j]? = some (us j))
      (hr : ∀ (j : Nat) (x : At), e[j]? = some x → RP h x (us j)) : RP h (.pp e o) (.pointer (some ⟨b, off + o, none⟩))

def Sub (h h' : Hp) : Prop := ∀ b o, h b = some o → h' b = some o
theorem Sub.refl (h : Hp) : Sub h h := fun _ _ e => e
theorem Sub.trans {a b c : Hp} (x : Sub a b) (y : Sub b c) : Sub a c := fun i o e => y i o (x i o e)

theorem RP.mono {h h' : Hp} (hs : Sub h h') {x : At} {v : Value} (hr : RP h x v) : RP h' x v := by
  induction hr with
  | int k n => exact .int k n
  | bool b => exact .bool b
  | str s => exact .str s
  | snil a b => exact .snil a b
  | nilp => exact .nilp
  | fn f => exact .fn f
  | sl0 a b c => exact .sl0 a b c
  | sl n els b off c es C t z us hb hn hc hl hu hr ih => exact .sl n els b off c es C t z us (hs _ _ hb) hn hc hl hu ih
  | pp e o b off C t z us hb hu hr ih => exact .pp e o b off C t z us (hs _ _ hb) hu ih

def RA (ι : Io) (h : Hp) : At → Value → Prop
  | .ptr m i o, v => ∃ L, ι m = some L ∧ v = .pointer (some ⟨L.b, i * L.es + o, none⟩)
  | .sm m lo n, v => (∃ L c, ι m = some L ∧ v = .slice (some ⟨L.b, lo * L.es, none⟩) n c ∧ (lo + c) * L.es = L.sz ∧ n ≤ c ∧ c ≤ maxLen) ∨
      (ι m = none ∧ lo = 0 ∧ n = 0 ∧ v = .slice none 0 0)
  | x, v => RP h x v

theorem RA.ofRP {ι : Io} {h : Hp} {x : At} {v : Value} (hr : RP h x v) : RA ι h x v := by
  cases hr <;> first | exact .int _ _ | exact .bool _ | exact .str _ | exact .snil _ _ | exact .nilp | exact .fn _ | exact .sl0 _ _ _ | skip
  · exact .sl _ _ _ _ _ _ _ _ _ _ ‹_› ‹_› ‹_› ‹_› ‹_› ‹_›
  · exact .pp _ _ _ _ _ _ _ _ ‹_› ‹_› ‹_›
theorem RA.toRP {ι : Io} {h : Hp} {x : At} {v : Value} (hp : x.pr = true) (hr : RA ι h x v) : RP h x v := by
  cases x <;> first | exact hr | simp [At.pr] at hp

theorem RA.mono {ι ι' : Io} {h h' : Hp} (hs : Sub h h') {x : At} {v : Value} (hi : ∀ m ∈ x.nm, ι' m = ι m) (hr : RA ι h x v) : RA ι' h' x v := by
  cases x with
  | ptr m i o => obtain ⟨L, e, rfl⟩ := hr; exact ⟨L, by rw [hi m (by simp [At.nm]), e], rfl⟩
  | sm m lo n =>
    rcases hr with ⟨L, c, e, r⟩ | ⟨e, r⟩
    · exact .inl ⟨L, c, by rw [hi m (by simp [At.nm]), e], r⟩
    · exact .inr ⟨by rw [hi m (by simp [At.nm]), e], r⟩
  | _ => exact RP.mono hs hr

theorem RP.oneCell {h : Hp} {x : At} {v : Value} (hr : RP h x v) : v.oneCell' = true := by cases hr <;> rfl
theorem RA.oneCell {ι : Io} {h : Hp} {x : At} {v : Value} (hr : RA ι h x v) : v.oneCell' = true := by
  cases x with
  | ptr m i o => obtain ⟨L, e, rfl⟩ := hr; rfl
  | sm m lo n => rcases hr with ⟨L, c, e, rfl, _⟩ | ⟨e, _, _, rfl⟩ <;> rfl
  | _ => exact RP.oneCell hr
theorem cells_of_oneCell {v : Value} (h : v.oneCell' = true) : v.cells = #[v] := by
  cases v <;> first | rfl | (simp [Value.oneCell'] at h)

def RL (ι : Io) (h : Hp) (cs : List At) (us : List Value) : Prop := cs.length = us.length ∧ ∀ (j : Nat) (x : At), cs[j]? = some x → ∃ u, us[j]? = some u ∧ RA ι h x u
theorem RL.nil {ι : Io} {h : Hp} : RL ι h [] [] := ⟨rfl, by simp⟩
theorem RL.cons {ι : Io} {h : Hp} {x : At} {u : Value} {cs : List At} {us : List Value} (h1 : RA ι h x u) (h2 : RL ι h cs us) : RL ι h (x :: cs) (u :: us) := by
  refine ⟨by simp [h2.1], fun j y e => ?_⟩
  cases j with
  | zero => simp at e; subst e; exact ⟨u, rfl, h1⟩
  | succ j => simp at e; simpa using h2.2 j y e
theorem RL.append {ι : Io} {h : Hp} {cs ds : List At} {us vs : List Value} (h1 : RL ι h cs us) (h2 : RL ι h ds vs) : RL ι h (cs ++ ds) (us ++ vs) := by
  refine ⟨by simp [h1.1, h2.1], fun j y e => ?_⟩
  rw [List.getElem?_append] at e ⊢
  by_cases hj : j < cs.length
  · rw [if_pos hj] at e; rw [if_pos (by rw [← h1.1]; exact hj)]; exact h1.2 j y e
  · rw [if_neg hj] at e; rw [if_neg (by rw [← h1.1]; exact hj), ← h1.1]; exact h2.2 _ y e
theorem RL.take {ι : Io} {h : Hp} {cs : List At} {us : List Value} (h1 : RL ι h cs us) (n : Nat) : RL ι h (cs.take n) (us.take n) := by
  refine ⟨by simp [h1.1], fun j y e => ?_⟩
  rw [List.getElem?_take] at e ⊢
  split at e
  · rw [if_pos ‹_›]; exact h1.2 j y e
  · simp at e
theorem RL.drop {ι : Io} {h : Hp} {cs : List At} {us : List Value} (h1 : RL ι h cs us) (n : Nat) : RL ι h (cs.drop n) (us.drop n) := by
  refine ⟨by simp [h1.1], fun j y e => ?_⟩
  rw [List.getElem?_drop] at e ⊢
  exact h1.2 _ y e
theorem RL.mono {ι ι' : Io} {h h' : Hp} (hs : Sub h h') {cs : List At} {us : List Value} (hi : ∀ x ∈ cs, ∀ m ∈ x.nm, ι' m = ι m) (hr : RL ι h cs us) : RL ι' h' cs us :=
  ⟨hr.1, fun j x e => let ⟨u, e1, e2⟩ := hr.2 j x e; ⟨u, e1, e2.mono hs (hi x (List.mem_of_getElem? e))⟩⟩
theorem RL.put {ι : Io} {h : Hp} {cs xs : List At} {us vs : List Value} (h1 : RL ι h cs us) (h2 : RL ι h xs vs) (o : Nat) : RL ι h (putAt cs o xs) (us.take o ++ vs ++ us.drop (o + vs.length)) := by
  unfold putAt
  rw [h2.1]
  exact ((h1.take o).append h2).append (h1.drop _)

def RV (ι : Io) (h : Hp) : Vl → Value → Prop
  | .a x, v => RA ι h x v
  | .g cs, v => ∃ U : Array Value, v = .agg U ∧ RL ι h cs U.toList
theorem RV.cells {ι : Io} {h : Hp} {x : Vl} {v : Value} (hr : RV ι h x v) : RL ι h x.cells v.cells.toList := by
  cases x with
  | a x => rw [cells_of_oneCell (RA.oneCell hr)]; exact RL.cons hr RL.nil
  | g cs => obtain ⟨U, rfl, hl⟩ := hr; exact hl
theorem RV.mono {ι ι' : Io} {h h' : Hp} (hs : Sub h h') {x : Vl} {v : Value} (hi : ∀ y ∈ x.cells, ∀ m ∈ y.nm, ι' m = ι m) (hr : RV ι h x v) : RV ι' h' x v := by
  cases x with
  | a x => exact RA.mono hs (hi x (by simp [Vl.cells])) hr
  | g cs => obtain ⟨U, rfl, hl⟩ := hr; exact ⟨U, rfl, hl.mono hs hi⟩

def RVs (ι : Io) (h : Hp) (xs : List Vl) (vs : List Value) : Prop := xs.length = vs.length ∧ ∀ (j : Nat) (x : Vl), xs[j]? = some x → ∃ u, vs[j]? = some u ∧ RV ι h x u
def Vl.nms (x : Vl) : List Nat := x.cells.flatMap At.nm
theorem RVs.mono {ι ι' : Io} {h h' : Hp} (hs : Sub h h') {xs : List Vl} {vs : List Value} (hi : ∀ m ∈ namesV xs, ι' m = ι m) (hr : RVs ι h xs vs) : RVs ι' h' xs vs :=
  ⟨hr.1, fun j x e => let ⟨u, e1, e2⟩ := hr.2 j x e; ⟨u, e1, e2.mono hs fun y hy m hm => hi m (by
    simp only [namesV, List.mem_flatMap]
    exact ⟨x, List.mem_of_getElem? e, y, hy, hm⟩)⟩⟩

def RS (ι : Io) (h : Hp) : Sv → Value → Prop
  | .v x, v => RV ι h x v
  | .t xs, v => ∃ U : Array Value, v = .tuple U ∧ RVs ι h xs U.toList
  | .u, v => v = undef
def Sv.nms : Sv → List Nat
  | .v x => namesV [x]
  | .t xs => namesV xs
  | .u => []
theorem RS.mono {ι ι' : Io} {h h' : Hp} (hs : Sub h h') {x : Sv} {v : Value} (hi : ∀ m ∈ x.nms, ι' m = ι m) (hr : RS ι h x v) : RS ι' h' x v := by
  cases x with
  | v x => exact RV.mono hs (fun y hy m hm => hi m (by simp only [Sv.nms, namesV, List.mem_flatMap]; exact ⟨x, by simp, y, hy, hm⟩)) hr
  | t xs => obtain ⟨U, rfl, hl⟩ := hr; exact ⟨U, rfl, hl.mono hs hi⟩
  | u => exact hr

def RBs (ι : Io) (h : Hp) (C : Array Value) (es : Nat) (els : List (List At)) : Prop :=
  ∀ (i : Nat) (e : List At), els[i]? = some e → e.length = es ∧ ∀ (j : Nat) (x : At), e[j]? = some x → ∃ u, C[i * es + j]? = some u ∧ RA ι h x u
def RB (ι : Io) (h : Hp) (w : World) (m : Nat) (B : Blk) : Prop :=
  match ι m with
  | none => B.els = []
  | some L => ∃ C, w.heap[L.b]? = some (.cells C B.ty (0, 0)) ∧ C.size = L.sz ∧ L.es = B.es ∧ RBs ι h C B.es B.els
def Blk.nms (B : Blk) : List Nat := B.els.flatMap fun e => e.flatMap At.nm
theorem RBs.mono {ι ι' : Io} {h h' : Hp} (hs : Sub h h') {C : Array Value} {es : Nat} {els : List (List At)} (hi : ∀ m ∈ els.flatMap (fun e => e.flatMap At.nm), ι' m = ι m) (hr : RBs ι h C es els) : RBs ι' h' C es els :=
  fun i e he => ⟨(hr i e he).1, fun j x hx => let ⟨u, e1, e2⟩ := (hr i e he).2 j x hx; ⟨u, e1, e2.mono hs fun m hm => hi m (by
    simp only [List.mem_flatMap]
    exact ⟨e, List.mem_of_getElem? he, x, List.mem_of_getElem? hx, hm⟩)⟩⟩

/-- Every name in a value, or in a block, is one of the memory's. -/
structure Sim (n : Nat) (w0 : World) (M0 : Bool → Nat → Prop) (U : Nat → Prop) (ι : Io) (h : Hp) (fr : List (Nat × Sv)) (mem : Mem) (a : Act) (w : World) : Prop where
  hsize : a.tmps.size = n
  hdefers : a.defers = []
  hfr : ∀ t v, lk fr t = some v → ∃ u, a.tmps[t]? = some u ∧ RS ι h v u
  hmem : ∀ m B, mget mem m = some B → RB ι h w m B
  hinj : ∀ m m' B B' L L', mget mem m = some B → mget mem m' = some B' → ι m = some L → ι m' = some L' → L.b = L'.b → m = m'
  hsub : ∀ b o, h b = some o → w.heap[b]? = some o
  hmut : ∀ m B L, mget mem m = some B → B.fz = false → ι m = some L → h L.b = none
  hfrz : ∀ m B L, mget mem m = some B → B.fz = true → ι m = some L → h L.b = w.heap[L.b]?
  hown : ∀ m B L, mget mem m = some B → B.fz = false → ι m = some L → w0.heap.size ≤ L.b ∨ M0 false L.b
  hown2 : ∀ m B L, mget mem m = some B → ι m = some L → w0.heap.size ≤ L.b ∨ M0 true L.b
  hframe : ∀ b, b < w0.heap.size → ¬ M0 false b → w.heap[b]? = w0.heap[b]?
  hgrow : w0.heap.size ≤ w.heap.size
  hos : w.os = w0.os
  htape : w.tape = w0.tape
  houtput : w.output = w0.output
  hnm : ∀ t v, lk fr t = some v → ∀ m ∈ v.nms, U m
  hnb : ∀ m B, mget mem m = some B → U m ∧ ∀ m' ∈ B.nms, U m'
  hdom : ∀ m L, ι m = some L → U m ∧ L.b < w.heap.size
  hpr : ∀ m B, mget mem m = some B → B.pr = true → ∀ e ∈ B.els, ∀ x ∈ e, x.pr = true

/-! lists and memories -/
theorem lk_cons {β : Type} (k : Nat) (v : β) (r : List (Nat × β)) (t : Nat) : lk ((k, v) :: r) t = if k = t then some v else lk r t := rfl
theorem lk_set1 (m : Mem) (p : Nat × Option Blk) (t : Nat) : lk (set1 m p) t = if p.1 = t then some p.2 else lk m t := by
  induction m with
  | nil => rfl
  | cons q r ih =>
    obtain ⟨k, b⟩ := q
    obtain ⟨n, c⟩ := p
    simp only [set1]
    by_cases hk : k = n
    · subst hk
      simp only [if_true, lk_cons]
      by_cases h : k = t <;> simp [h]
    · simp only [if_neg hk, lk_cons, ih]
      by_cases h : n = t
      · subst h
        simp [hk]
      · simp [h]
theorem lk_updM (u : Mem) : ∀ (m : Mem) (t : Nat), lk (updM m u) t = (lk u.reverse t).or (lk m t) := by
  induction u with
  | nil => intro m t; rfl
  | cons p r ih =>
    intro m t
    simp only [updM, ih, lk_set1, List.reverse_cons]
    have : ∀ (l : Mem), lk (l ++ [p]) t = (lk l t).or (if p.1 = t then some p.2 else none) := by
      intro l
      induction l with
      | nil => rfl
      | cons q l ih2 =>
        obtain ⟨k, b⟩ := q
        simp only [List.cons_append, lk_cons, ih2]
        by_cases h : k = t <;> simp [h]
    rw [this]
    cases lk r.reverse t with
    | some x => simp
    | none => by_cases h : p.1 = t <;> simp [h]

theorem mapO_some {α β : Type} {f : α → Option β} : ∀ {l : List α} {r : List β}, mapO f l = some r → r.length = l.length ∧ ∀ (j : Nat) (x : α), l[j]? = some x → ∃ y, r[j]? = some y ∧ f x = some y := by
  intro l
  induction l with
  | nil => intro r h; simp [mapO] at h; subst h; simp
  | cons a l ih =>
    intro r h
    simp only [mapO, Option.bind_eq_some_iff] at h
    obtain ⟨y, hy, ys, hys, h⟩ := h
    simp at h
    subst h
    obtain ⟨h1, h2⟩ := ih hys
    refine ⟨by simp [h1], fun j x e => ?_⟩
    cases j with
    | zero => simp at e; subst e; exact ⟨y, rfl, hy⟩
    | succ j => simp at e; simpa using h2 j x e
theorem mapO_some_inv {α β : Type} {f : α → Option β} {l : List α} {r : List β} (h : mapO f l = some r) : ∀ (j : Nat) (y : β), r[j]? = some y → ∃ x, l[j]? = some x ∧ f x = some y := by
  obtain ⟨h1, h2⟩ := mapO_some h
  intro j y e
  have hj : j < l.length := by
    rcases Nat.lt_or_ge j l.length with h' | h'
    · exact h'
    · rw [List.getElem?_eq_none (by omega)] at e; simp at e
  obtain ⟨y', e', hf⟩ := h2 j l[j] (List.getElem?_eq_getElem hj)
  rw [e] at e'
  simp at e'
  subst e'
  exact ⟨_, List.getElem?_eq_getElem hj, hf⟩

theorem mget_set1 (m : Mem) (k : Nat) (b : Option Blk) (t : Nat) : mget (set1 m (k, b)) t = if k = t then b else mget m t := by
  unfold mget
  rw [lk_set1]
  by_cases h : k = t
  · simp only [h, if_true]; cases b <;> rfl
  · simp [h]

/-- What the world's cells are to be behind a store: one block's cells anew. -/
theorem heap_setRow (w : World) (g b : Nat) (C cur : Array Value) (t : TypeId) (hg : w.heap[g]? = some (.cells cur t (0, 0))) :
    (w.setRow g C).heap[b]? = if b = g then some (.cells C t (0, 0)) else w.heap[b]? := by
  by_cases hb : b = g
  · subst hb
    simp [World.setRow, Array.getElem?_modify, hg]
  · simp only [World.setRow, Array.getElem?_modify, if_neg hb]
    rw [if_neg (Ne.symm hb)]

section
variable {n : Nat} {w0 : World} {M0 : Bool → Nat → Prop} {U : Nat → Prop} {ι : Io} {h : Hp} {fr : List (Nat × Sv)} {mem : Mem} {a : Act} {w : World}

theorem Sim.weak (hs : Sim n w0 M0 U ι h fr mem a w) {U' : Nat → Prop} (hu : ∀ m, U m → U' m) : Sim n w0 M0 U' ι h fr mem a w :=
  { hs with hnm := fun t v e m hm => hu m (hs.hnm t v e m hm), hnb := fun m B e => ⟨hu m (hs.hnb m B e).1, fun m' hm => hu m' ((hs.hnb m B e).2 m' hm)⟩,
            hdom := fun m L e => ⟨hu m (hs.hdom m L e).1, (hs.hdom m L e).2⟩ }

def Io.set (ι : Io) (m : Nat) (L : Loc) : Io := fun x => if x = m then some L else ι x

theorem Sim.hlt (hs : Sim n w0 M0 U ι h fr mem a w) {b : Nat} {o : Obj} (e : h b = some o) : b < w.heap.size := by
  have := hs.hsub b o e
  exact (Array.getElem?_eq_some_iff.1 this).1

/-- A block made anew. -/
theorem Sim.alloc (hs : Sim n w0 M0 U ι h fr mem a w) (m : Nat) (hm : ¬ U m) (B : Blk) (C : Array Value) (hr : RBs ι h C B.es B.els) (hfz : B.fz = false)
    (hn : ∀ m' ∈ B.nms, U m') (hp : B.pr = true → ∀ e ∈ B.els, ∀ x ∈ e, x.pr = true) :
    Sim n w0 M0 (fun x => U x ∨ x = m) (ι.set m ⟨w.heap.size, C.size, B.es⟩) h fr (set1 mem (m, some B)) a (w.alloc (.cells C B.ty)) := by
  have hι : ∀ x, U x → (ι.set m ⟨w.heap.size, C.size, B.es⟩) x = ι x := fun x hx => by
    unfold Io.set; rw [if_neg]; rintro rfl; exact hm hx
  have hold : ∀ b, b < w.heap.size → (w.alloc (.cells C B.ty)).heap[b]? = w.heap[b]? := fun b hb => Go.RowKit.Below.heap_alloc _ _ _ hb
  have hh : ∀ x B', mget (set1 mem (m, some B)) x = some B' → (x = m ∧ B' = B) ∨ (x ≠ m ∧ mget mem x = some B') := by
    intro x B' e
    rw [mget_set1] at e
    by_cases hx : m = x
    · rw [if_pos hx] at e; exact .inl ⟨hx.symm, by simpa using e.symm⟩
    · rw [if_neg hx] at e; exact .inr ⟨Ne.symm hx, e⟩
  have hset : (ι.set m ⟨w.heap.size, C.size, B.es⟩) m = some ⟨w.heap.size, C.size, B.es⟩ := by simp [Io.set]
  refine
    { hsize := hs.hsize, hdefers := hs.hdefers, hfr := ?_, hmem := ?_, hinj := ?_, hsub := ?_, hmut := ?_, hfrz := ?_, hown := ?_, hown2 := ?_, hframe := ?_, hgrow := ?_,
      hos := hs.hos, htape := hs.htape, houtput := hs.houtput, hnm := ?_, hnb := ?_, hdom := ?_, hpr := ?_ }
  · intro t v e
    obtain ⟨u, e1, e2⟩ := hs.hfr t v e
    exact ⟨u, e1, e2.mono (Sub.refl h) fun x hx => hι x (hs.hnm t v e x hx)⟩
  · intro x B' e
    rcases hh x B' e with ⟨rfl, rfl⟩ | ⟨hx, e'⟩
    · unfold RB
      rw [hset]
      refine ⟨C, ?_, rfl, rfl, hr.mono (Sub.refl h) fun x hx => hι x (hn x hx)⟩
      show (w.heap.push _)[w.heap.size]? = _
      simp
    · have hb := hs.hmem x B' e'
      have hu := hs.hnb x B' e'
      unfold RB at hb ⊢
      rw [hι x hu.1]
      cases hL : ι x with
      | none => rw [hL] at hb; exact hb
      | some L =>
        rw [hL] at hb
        obtain ⟨C', e1, e2, e3, e4⟩ := hb
        exact ⟨C', by rw [hold _ (hs.hdom x L hL).2]; exact e1, e2, e3, e4.mono (Sub.refl h) fun y hy => hι y (hu.2 y hy)⟩
  · intro x y B1 B2 L1 L2 e1 e2 l1 l2 hb
    rcases hh x B1 e1 with ⟨rfl, rfl⟩ | ⟨hx, e1'⟩
    · rcases hh y B2 e2 with ⟨rfl, rfl⟩ | ⟨hy, e2'⟩
      · rfl
      · rw [hset] at l1
        rw [hι y (hs.hnb y B2 e2').1] at l2
        have := (hs.hdom y L2 l2).2
        cases l1
        simp at hb
        omega
    · rw [hι x (hs.hnb x B1 e1').1] at l1
      rcases hh y B2 e2 with ⟨rfl, rfl⟩ | ⟨hy, e2'⟩
      · rw [hset] at l2
        have := (hs.hdom x L1 l1).2
        cases l2
        simp at hb
        omega
      · rw [hι y (hs.hnb y B2 e2').1] at l2
        exact hs.hinj x y B1 B2 L1 L2 e1' e2' l1 l2 hb
  · intro b o e
    rw [hold b (hs.hlt e)]
    exact hs.hsub b o e
  · intro x B' L e hz l
    rcases hh x B' e with ⟨rfl, rfl⟩ | ⟨hx, e'⟩
    · rw [hset] at l
      cases l
      cases hq : h w.heap.size with
      | none => rfl
      | some o => exact absurd (hs.hlt hq) (by omega)
    · rw [hι x (hs.hnb x B' e').1] at l
      exact hs.hmut x B' L e' hz l
  · intro x B' L e hz l
    rcases hh x B' e with ⟨rfl, rfl⟩ | ⟨hx, e'⟩
    · rw [hfz] at hz; cases hz
    · rw [hι x (hs.hnb x B' e').1] at l
      rw [hold _ (hs.hdom x L l).2]
      exact hs.hfrz x B' L e' hz l
  · intro x B' L e hz l
    rcases hh x B' e with ⟨rfl, rfl⟩ | ⟨hx, e'⟩
    · rw [hset] at l
      cases l
      exact .inl hs.hgrow
    · rw [hι x (hs.hnb x B' e').1] at l
      exact hs.hown x B' L e' hz l
  · intro x B' L e l
    rcases hh x B' e with ⟨rfl, rfl⟩ | ⟨hx, e'⟩
    · rw [hset] at l
      cases l
      exact .inl hs.hgrow
    · rw [hι x (hs.hnb x B' e').1] at l
      exact hs.hown2 x B' L e' l
  · intro b hb hM
    rw [hold b (Nat.lt_of_lt_of_le hb hs.hgrow)]
    exact hs.hframe b hb hM
  · show w0.heap.size ≤ (w.heap.push _).size
    have := hs.hgrow
    simp
    omega
  · intro t v e x hx
    exact .inl (hs.hnm t v e x hx)
  · intro x B' e
    rcases hh x B' e with ⟨rfl, rfl⟩ | ⟨hx, e'⟩
    · exact ⟨.inr rfl, fun y hy => .inl (hn y hy)⟩
    · exact ⟨.inl (hs.hnb x B' e').1, fun y hy => .inl ((hs.hnb x B' e').2 y hy)⟩
  · intro x L l
    unfold Io.set at l
    have hsz : (w.alloc (.cells C B.ty)).heap.size = w.heap.size + 1 := by show (w.heap.push _).size = _; simp
    rw [hsz]
    by_cases hx : x = m
    · rw [if_pos hx] at l; cases l; exact ⟨.inr hx, by simp⟩
    · rw [if_neg hx] at l; have := hs.hdom x L l; exact ⟨.inl this.1, by omega⟩
  · intro x B' e hp'
    rcases hh x B' e with ⟨rfl, rfl⟩ | ⟨hx, e'⟩
    · exact hp hp'
    · exact hs.hpr x B' e' hp'

/-- A block of one's own written. -/
theorem Sim.write (hs : Sim n w0 M0 U ι h fr mem a w) {m : Nat} {B B' : Blk} {L : Loc} (he : mget mem m = some B) (hz : B.fz = false) (hL : ι m = some L) {C cur : Array Value}
    (hcur : w.heap[L.b]? = some (.cells cur B.ty (0, 0))) (hsz : C.size = L.sz) (hes : B'.es = B.es) (hty : B'.ty = B.ty) (hfz : B'.fz = false) (hr : RBs ι h C B'.es B'.els)
    (hLe : L.es = B.es) (hn : ∀ m' ∈ B'.nms, U m') (hp : B'.pr = true → ∀ e ∈ B'.els, ∀ x ∈ e, x.pr = true) :
    Sim n w0 M0 U ι h fr (set1 mem (m, some B')) a (w.setRow L.b C) := by
  have hh : ∀ x B1, mget (set1 mem (m, some B')) x = some B1 → (x = m ∧ B1 = B') ∨ (x ≠ m ∧ mget mem x = some B1) := by
    intro x B1 e
    rw [mget_set1] at e
    by_cases hx : m = x
    · rw [if_pos hx] at e; exact .inl ⟨hx.symm, by simpa using e.symm⟩
    · rw [if_neg hx] at e; exact .inr ⟨Ne.symm hx, e⟩
  have hheap := fun b => heap_setRow w L.b b C cur B.ty hcur
  have hhn := hs.hmut m B L he hz hL
  have hsize : (w.setRow L.b C).heap.size = w.heap.size := by simp [World.setRow]
  refine
    { hsize := hs.hsize, hdefers := hs.hdefers, hfr := hs.hfr, hmem := ?_, hinj := ?_, hsub := ?_, hmut := ?_, hfrz := ?_, hown := ?_, hown2 := ?_, hframe := ?_, hgrow := ?_,
      hos := hs.hos, htape := hs.htape, houtput := hs.houtput, hnm := hs.hnm, hnb := ?_, hdom := ?_, hpr := ?_ }
  · intro x B1 e
    rcases hh x B1 e with ⟨rfl, rfl⟩ | ⟨hx, e'⟩
    · unfold RB
      rw [hL]
      exact ⟨C, by rw [hheap, if_pos rfl, hty], hsz, by rw [hLe, hes], hr⟩
    · have hb := hs.hmem x B1 e'
      unfold RB at hb ⊢
      cases hL1 : ι x with
      | none => rw [hL1] at hb; exact hb
      | some L1 =>
        rw [hL1] at hb
        obtain ⟨C', e1, e2⟩ := hb
        have hne : L1.b ≠ L.b := fun hq => hx (hs.hinj x m B1 B L1 L e' he hL1 hL hq)
        exact ⟨C', by rw [hheap, if_neg hne]; exact e1, e2⟩
  · intro x y B1 B2 L1 L2 e1 e2 l1 l2 hb
    have f1 : ∃ B3, mget mem x = some B3 := by
      rcases hh x B1 e1 with ⟨rfl, rfl⟩ | ⟨hx, e'⟩
      · exact ⟨B, he⟩
      · exact ⟨_, e'⟩
    have f2 : ∃ B3, mget mem y = some B3 := by
      rcases hh y B2 e2 with ⟨rfl, rfl⟩ | ⟨hx, e'⟩
      · exact ⟨B, he⟩
      · exact ⟨_, e'⟩
    obtain ⟨B3, f1⟩ := f1
    obtain ⟨B4, f2⟩ := f2
    exact hs.hinj x y B3 B4 L1 L2 f1 f2 l1 l2 hb
  · intro b o e
    rw [hheap, if_neg]
    · exact hs.hsub b o e
    · rintro rfl
      rw [hhn] at e
      cases e
  · intro x B1 L1 e hz1 l
    rcases hh x B1 e with ⟨rfl, rfl⟩ | ⟨hx, e'⟩
    · exact hs.hmut x B L1 he hz l
    · exact hs.hmut x B1 L1 e' hz1 l
  · intro x B1 L1 e hz1 l
    rcases hh x B1 e with ⟨rfl, rfl⟩ | ⟨hx, e'⟩
    · rw [hfz] at hz1; cases hz1
    · have hne : L1.b ≠ L.b := fun hq => hx (hs.hinj x m B1 B L1 L e' he l hL hq)
      rw [hheap, if_neg hne]
      exact hs.hfrz x B1 L1 e' hz1 l
  · intro x B1 L1 e hz1 l
    rcases hh x B1 e with ⟨rfl, rfl⟩ | ⟨hx, e'⟩
    · exact hs.hown x B L1 he hz l
    · exact hs.hown x B1 L1 e' hz1 l
  · intro x B1 L1 e l
    rcases hh x B1 e with ⟨rfl, rfl⟩ | ⟨hx, e'⟩
    · exact hs.hown2 x B L1 he l
    · exact hs.hown2 x B1 L1 e' l
  · intro b hb hM
    rw [hheap, if_neg]
    · exact hs.hframe b hb hM
    · rintro rfl
      rcases hs.hown m B L he hz hL with h1 | h1
      · omega
      · exact hM h1
  · rw [hsize]; exact hs.hgrow
  · intro x B1 e
    rcases hh x B1 e with ⟨rfl, rfl⟩ | ⟨hx, e'⟩
    · exact ⟨(hs.hnb x B he).1, hn⟩
    · exact hs.hnb x B1 e'
  · intro x L1 l
    rw [hsize]
    exact hs.hdom x L1 l
  · intro x B1 e hp1
    rcases hh x B1 e with ⟨rfl, rfl⟩ | ⟨hx, e'⟩
    · exact hp hp1
    · exact hs.hpr x B1 e' hp1

/-- A block is given up. -/
theorem Sim.drop (hs : Sim n w0 M0 U ι h fr mem a w) (m : Nat) : Sim n w0 M0 U ι h fr (set1 mem (m, none)) a w := by
  have hh : ∀ x B1, mget (set1 mem (m, none)) x = some B1 → mget mem x = some B1 := by
    intro x B1 e
    rw [mget_set1] at e
    by_cases hx : m = x
    · rw [if_pos hx] at e; cases e
    · rw [if_neg hx] at e; exact e
  exact { hs with
    hmem := fun x B e => hs.hmem x B (hh x B e)
    hinj := fun x y B1 B2 L1 L2 e1 e2 => hs.hinj x y B1 B2 L1 L2 (hh _ _ e1) (hh _ _ e2)
    hmut := fun x B L e => hs.hmut x B L (hh _ _ e)
    hfrz := fun x B L e => hs.hfrz x B L (hh _ _ e)
    hown := fun x B L e => hs.hown x B L (hh _ _ e)
    hown2 := fun x B L e => hs.hown2 x B L (hh _ _ e)
    hnb := fun x B e => hs.hnb x B (hh _ _ e)
    hpr := fun x B e => hs.hpr x B (hh _ _ e) }

/-- A draw turns nothing. -/
theorem Sim.drew (hs : Sim n w0 M0 U ι h fr mem a w) : Sim n w0 M0 U ι h fr mem a { w with drawn := w.drawn + 1 } :=
  { hs with
    hmem := fun m B e => by have := hs.hmem m B e; unfold RB at *; exact this }

/-- A block becomes one that only reads. -/
theorem Sim.freeze (hs : Sim n w0 M0 U ι h fr mem a w) {m : Nat} {B : Blk} (he : mget mem m = some B) :
    ∃ h', Sub h h' ∧ (∀ L, ι m = some L → h' L.b = w.heap[L.b]?) ∧ (∀ b, (∀ L, ι m = some L → b ≠ L.b) → h' b = h b) ∧ Sim n w0 M0 U ι h' fr (set1 mem (m, some { B with fz := true })) a w := by
  have hh : ∀ x B1, mget (set1 mem (m, some { B with fz := true })) x = some B1 → (x = m ∧ B1 = { B with fz := true }) ∨ (x ≠ m ∧ mget mem x = some B1) := by
    intro x B1 e
    rw [mget_set1] at e
    by_cases hx : m = x
    · rw [if_pos hx] at e; exact .inl ⟨hx.symm, by simpa using e.symm⟩
    · rw [if_neg hx] at e; exact .inr ⟨Ne.symm hx, e⟩
  let h' : Hp := fun b => match ι m with | some L => if b = L.b then w.heap[b]? else h b | none => h b
  have hsub : Sub h h' := by
    intro b o e
    show (match ι m with | some L => if b = L.b then w.heap[b]? else h b | none => h b) = _
    cases hL : ι m with
    | none => exact e
    | some L =>
      by_cases hb : b = L.b
      · simp only [hb, if_true]; rw [← hb]; exact hs.hsub b o e
      · simp only [if_neg hb]; exact e
  have hat : ∀ L, ι m = some L → h' L.b = w.heap[L.b]? := by
    intro L hL
    show (match ι m with | some L' => if L.b = L'.b then w.heap[L.b]? else h L.b | none => h L.b) = _
    rw [hL]
    simp
  have hoff : ∀ b, (∀ L, ι m = some L → b ≠ L.b) → h' b = h b := by
    intro b hb
    show (match ι m with | some L' => if b = L'.b then w.heap[b]? else h b | none => h b) = _
    cases hL : ι m with
    | none => rfl
    | some L => simp [hb L hL]
  refine ⟨h', hsub, hat, hoff, ?_⟩
  refine
    { hsize := hs.hsize, hdefers := hs.hdefers, hfr := ?_, hmem := ?_, hinj := ?_, hsub := ?_, hmut := ?_, hfrz := ?_, hown := ?_, hown2 := ?_, hframe := hs.hframe, hgrow := hs.hgrow,
      hos := hs.hos, htape := hs.htape, houtput := hs.houtput, hnm := hs.hnm, hnb := ?_, hdom := hs.hdom, hpr := ?_ }
  · intro t v e
    obtain ⟨u, e1, e2⟩ := hs.hfr t v e
    exact ⟨u, e1, e2.mono hsub fun _ _ => rfl⟩
  · intro x B1 e
    have key : ∀ x B1, mget mem x = some B1 → RB ι h' w x B1 := by
      intro x B1 e
      have hb := hs.hmem x B1 e
      unfold RB at hb ⊢
      cases hL : ι x with
      | none => rw [hL] at hb; exact hb
      | some L =>
        rw [hL] at hb
        obtain ⟨C', e1, e2, e3, e4⟩ := hb
        exact ⟨C', e1, e2, e3, e4.mono hsub fun _ _ => rfl⟩
    rcases hh x B1 e with ⟨rfl, rfl⟩ | ⟨hx, e'⟩
    · exact key x B he
    · exact key x B1 e'
  · intro x y B1 B2 L1 L2 e1 e2 l1 l2 hb
    have f1 : ∃ B3, mget mem x = some B3 := by
      rcases hh x B1 e1 with ⟨rfl, rfl⟩ | ⟨hx, e'⟩
      · exact ⟨B, he⟩
      · exact ⟨_, e'⟩
    have f2 : ∃ B3, mget mem y = some B3 := by
      rcases hh y B2 e2 with ⟨rfl, rfl⟩ | ⟨hx, e'⟩
      · exact ⟨B, he⟩
      · exact ⟨_, e'⟩
    obtain ⟨B3, f1⟩ := f1
    obtain ⟨B4, f2⟩ := f2
    exact hs.hinj x y B3 B4 L1 L2 f1 f2 l1 l2 hb
  · intro b o e
    by_cases hb : ∃ L, ι m = some L ∧ b = L.b
    · obtain ⟨L, hL, rfl⟩ := hb
      rw [hat L hL] at e
      exact e
    · rw [hoff b fun L hL hq => hb ⟨L, hL, hq⟩] at e
      exact hs.hsub b o e
  · intro x B1 L e hz l
    rcases hh x B1 e with ⟨rfl, rfl⟩ | ⟨hx, e'⟩
    · cases hz
    · rw [hoff]
      · exact hs.hmut x B1 L e' hz l
      · intro L' hL' hq
        exact hx (hs.hinj x m B1 B L L' e' he l hL' hq)
  · intro x B1 L e hz l
    rcases hh x B1 e with ⟨rfl, rfl⟩ | ⟨hx, e'⟩
    · exact hat L l
    · by_cases hb : ∃ L', ι m = some L' ∧ L.b = L'.b
      · obtain ⟨L', hL', hq⟩ := hb
        exact absurd (hs.hinj x m B1 B L L' e' he l hL' hq) hx
      · rw [hoff _ fun L' hL' hq => hb ⟨L', hL', hq⟩]
        exact hs.hfrz x B1 L e' hz l
  · intro x B1 L e hz l
    rcases hh x B1 e with ⟨rfl, rfl⟩ | ⟨hx, e'⟩
    · cases hz
    · exact hs.hown x B1 L e' hz l
  · intro x B1 L e l
    rcases hh x B1 e with ⟨rfl, rfl⟩ | ⟨hx, e'⟩
    · exact hs.hown2 x B L he l
    · exact hs.hown2 x B1 L e' l
  · intro x B1 e
    rcases hh x B1 e with ⟨rfl, rfl⟩ | ⟨hx, e'⟩
    · exact hs.hnb x B he
    · exact hs.hnb x B1 e'
  · intro x B1 e hp
    rcases hh x B1 e with ⟨rfl, rfl⟩ | ⟨hx, e'⟩
    · exact hs.hpr x B he hp
    · exact hs.hpr x B1 e' hp
end

end Go.Proofs.Ytghdpmejgonjmaa.Am

/- What the typed machine says the abstract machine says: words, memory, names, freezing. -/
import Derived.Test.YtghdpmejgonjmaaAmK
set_option linter.unusedVariables false
set_option linter.unusedSimpArgs false
namespace Go.Proofs.Ytghdpmejgonjmaa.Am
open Go

theorem cl_at : ∀ (c : Cd) (x : c.D), (c.cl x).map A2.at = c.at x
  | .int k, x => rfl
  | .bool, b => rfl
  | .str, s => rfl
  | .sl c, l => rfl
  | .pr a b, x => by simp only [Cd.cl, Cd.at, List.map_append, cl_at a, cl_at b]
theorem castL_eq {a b : Cd} {l : List a.D} {m : List b.D} (h : castL a b l = some m) : ∃ e : a = b, m = e ▸ l := by
  unfold castL at h
  split at h
  · rename_i e; exact ⟨e, by cases h; rfl⟩
  · cases h
theorem de_eq : ∀ {c : Cd} {cs : List A2} {x : c.D} {r : List A2}, c.de cs = some (x, r) → cs = c.cl x ++ r := by
  intro c
  induction c with
  | int k =>
    intro cs x r h
    match cs, h with
    | .int k' n :: r', h =>
      simp only [Cd.de] at h
      split at h
      · rename_i h'; subst h'; cases h; rfl
      · cases h
  | bool =>
    intro cs x r h
    match cs, h with
    | .bool b :: r', h => cases h; rfl
  | str =>
    intro cs x r h
    match cs, h with
    | .str b :: r', h => cases h; rfl
  | sl c ih =>
    intro cs x r h
    match cs, h with
    | .sl c' l :: r', h =>
      simp only [Cd.de, Option.bind_eq_some_iff] at h
      obtain ⟨m, h1, h⟩ := h
      cases h
      obtain ⟨e, rfl⟩ := castL_eq h1
      cases e
      rfl
  | pr a b iha ihb =>
    intro cs x r h
    simp only [Cd.de, Option.bind_eq_some_iff] at h
    obtain ⟨p, h1, q, h2, h⟩ := h
    cases h
    rw [iha (x := p.1) (r := p.2) h1, ihb (x := q.1) (r := q.2) h2]
    simp [Cd.cl]
theorem dec_eq {c : Cd} {cs : List A2} {x : c.D} (h : c.dec cs = some x) : cs = c.cl x := by
  simp only [Cd.dec, Option.bind_eq_some_iff] at h
  obtain ⟨p, h1, h⟩ := h
  split at h
  · rename_i e
    cases h
    have := de_eq (x := p.1) (r := p.2) h1
    rw [e, List.append_nil] at this
    exact this
  · cases h
theorem dec_at {c : Cd} {cs : List A2} {x : c.D} (h : c.dec cs = some x) : cs.map A2.at = c.at x := by rw [dec_eq h, cl_at]
theorem decs_at {c : Cd} : ∀ {els : List (List A2)} {l : List c.D}, mapO c.dec els = some l → els.map (fun e => e.map A2.at) = l.map c.at := by
  intro els
  induction els with
  | nil => intro l h; cases h; rfl
  | cons e els ih =>
    intro l h
    simp only [mapO, Option.bind_eq_some_iff] at h
    obtain ⟨y, h1, ys, h2, h⟩ := h
    cases h
    rw [List.map_cons, List.map_cons, dec_at h1, ih h2]
theorem packB_rows (c : Option Cd) (els : List (List A2)) : (packB c els).rows = els.map fun e => e.map A2.at := by
  unfold packB
  split
  · split
    · rename_i h; exact (decs_at h).symm
    · rfl
  · rfl

theorem nm_at (a : A2) : a.at.nm = a.nm := by cases a <;> rfl
theorem smn_at (a : A2) : a.at.smn = a.smn := by cases a <;> rfl
theorem ptrs_at (a : A2) : a.at.ptrs = a.ptrs := by cases a <;> rfl
theorem pr_at (a : A2) : a.at.pr = a.pr := by cases a <;> rfl
theorem noSl_at (a : A2) : a.at.noSl = a.noSl := by cases a <;> rfl
theorem cd_names : ∀ (c : Cd) (x : c.D), ∀ y ∈ c.at x, y.nm = [] ∧ y.smn = [] ∧ y.ptrs = [] ∧ y.pr = true
  | .int k, x => by simp [Cd.at, At.nm, At.smn, At.ptrs, At.pr]
  | .bool, b => by simp [Cd.at, At.nm, At.smn, At.ptrs, At.pr]
  | .str, s => by simp [Cd.at, At.nm, At.smn, At.ptrs, At.pr]
  | .sl c, l => by simp [Cd.at, At.nm, At.smn, At.ptrs, At.pr]
  | .pr a b, x => by
    intro y hy
    rcases List.mem_append.1 hy with hy | hy
    · exact cd_names a _ y hy
    · exact cd_names b _ y hy

theorem cells_at (v : V2) : v.at.cells = v.cells.map A2.at := by cases v <;> rfl
theorem lk_at (m : Mem2) (n : Nat) : lk m.at n = (lk m n).map fun o => o.map Blk2.at := by
  induction m with
  | nil => rfl
  | cons p m ih =>
    simp only [Mem2.at, List.map_cons, lk, oAt] at ih ⊢
    split
    · rfl
    · exact ih
theorem mget_at (m : Mem2) (n : Nat) : mget m.at n = (mget2 m n).map Blk2.at := by
  unfold mget mget2
  rw [lk_at]
  cases lk m n with
  | none => rfl
  | some o => cases o <;> rfl
theorem set_at (m : Mem2) (p : Nat × Option Blk2) : (set2 m p).at = set1 m.at (oAt p) := by
  induction m with
  | nil => rfl
  | cons q m ih =>
    simp only [set2, Mem2.at, List.map_cons, set1, oAt] at ih ⊢
    split
    · rfl
    · simp only [List.map_cons, oAt, ih]
theorem upd_at (m u : Mem2) : (upd2 m u).at = updM m.at u.at := by
  induction u generalizing m with
  | nil => rfl
  | cons p u ih =>
    simp only [upd2, ih, set_at]
    rfl
theorem app_at (a b : Mem2) : Mem2.at (a ++ b) = a.at ++ b.at := by simp [Mem2.at]
theorem cons_at (p : Nat × Option Blk2) (b : Mem2) : Mem2.at (p :: b) = oAt p :: b.at := rfl
theorem keys_at (u : Mem2) : u.at.map (·.1) = u.map (·.1) := by simp [Mem2.at, oAt, Function.comp_def]

theorem namesV_at (vs : List V2) : namesV (vs.map V2.at) = namesV2 A2.nm vs := by
  simp only [namesV, namesV2, List.flatMap_map]
  congr 1; funext v
  rw [cells_at, List.flatMap_map]
  congr 1; funext a; exact nm_at a
theorem smnV_at (vs : List V2) : smnV (vs.map V2.at) = namesV2 A2.smn vs := by
  simp only [smnV, namesV2, List.flatMap_map]
  congr 1; funext v
  rw [cells_at, List.flatMap_map]
  congr 1; funext a; exact smn_at a
theorem rows_names {f : At → List Nat} {g : A2 → List Nat} (h1 : ∀ a : A2, f a.at = g a) (h2 : ∀ (c : Cd) (x : c.D), ∀ y ∈ c.at x, f y = []) (b : Bd) :
    (b.rows.flatMap fun e => e.flatMap f) = b.els2.flatMap fun e => e.flatMap g := by
  cases b with
  | arr c l =>
    simp only [Bd.rows, Bd.els2, List.flatMap_nil, List.flatMap_eq_nil_iff, List.mem_map]
    rintro e ⟨x, _, rfl⟩ y hy
    exact h2 c x y hy
  | raw els =>
    simp only [Bd.rows, Bd.els2, List.flatMap_map]
    congr 1; funext e; congr 1; funext a; exact h1 a
theorem namesM_at (m : Mem2) : namesM m.at = names2 A2.nm m := by
  funext n
  unfold namesM names2
  rw [mget_at]
  cases mget2 m n with
  | none => rfl
  | some b =>
    simp only [Option.map_some, namesB, Blk2.at]
    split
    · rfl
    · exact rows_names nm_at (fun c x y hy => (cd_names c x y hy).1) b.bd
theorem ptrsM_at (m : Mem2) : ptrsM m.at = names2 A2.ptrs m := by
  funext n
  unfold ptrsM names2
  rw [mget_at]
  cases mget2 m n with
  | none => rfl
  | some b =>
    simp only [Option.map_some, Blk2.at]
    split
    · rfl
    · exact rows_names ptrs_at (fun c x y hy => (cd_names c x y hy).2.2.1) b.bd
theorem smnM_at (m : Mem2) : smnM m.at = names2 A2.smn m := by
  funext n
  unfold smnM names2
  rw [mget_at]
  cases mget2 m n with
  | none => rfl
  | some b =>
    simp only [Option.map_some, Blk2.at]
    split
    · rfl
    · exact rows_names smn_at (fun c x y hy => (cd_names c x y hy).2.1) b.bd

theorem mapO_at {α β α' β' : Type} {f : α → Option β} {g : α' → Option β'} {p : α → α'} {q : β → β'} (h : ∀ x y, f x = some y → g (p x) = some (q y)) :
    ∀ {l : List α} {ys : List β}, mapO f l = some ys → mapO g (l.map p) = some (ys.map q) := by
  intro l
  induction l with
  | nil => intro ys e; cases e; rfl
  | cons x l ih =>
    intro ys e
    simp only [mapO, Option.bind_eq_some_iff] at e
    obtain ⟨y, e1, zs, e2, e⟩ := e
    cases e
    simp only [List.map_cons, mapO, h _ _ e1, ih e2, Option.bind_some]
theorem renA_at {ρ : Nat → Option Nat} {a b : A2} (h : renA2 ρ a = some b) : renA ρ a.at = some b.at := by
  cases a <;> simp only [renA2, Option.bind_eq_some_iff] at h
  case ptr m i o => obtain ⟨m', h1, h⟩ := h; cases h; simp [A2.at, renA, h1]
  case sm m i o => obtain ⟨m', h1, h⟩ := h; cases h; simp [A2.at, renA, h1]
  all_goals (cases h; rfl)
theorem renV_at {ρ : Nat → Option Nat} {a b : V2} (h : renV2 ρ a = some b) : renV ρ a.at = some b.at := by
  cases a with
  | a x =>
    simp only [renV2, Option.bind_eq_some_iff] at h
    obtain ⟨y, h1, h⟩ := h
    cases h
    simp [V2.at, renV, renA_at h1]
  | g cs =>
    simp only [renV2, Option.bind_eq_some_iff] at h
    obtain ⟨y, h1, h⟩ := h
    cases h
    simp [V2.at, renV, mapO_at (fun _ _ => renA_at) h1]
theorem renB_at {ρ : Nat → Option Nat} {a b : Blk2} (h : renB2 ρ a = some b) : renB ρ a.at = some b.at := by
  unfold renB2 at h
  unfold renB
  split at h
  · rename_i hp
    cases h
    rw [if_pos (by exact hp)]
  · rename_i hp
    rw [if_neg (by exact hp)]
    split at h
    · rename_i els hb
      simp only [Option.bind_eq_some_iff] at h
      obtain ⟨els', h1, h⟩ := h
      cases h
      have := mapO_at (p := List.map A2.at) (q := List.map A2.at) (fun _ _ h => mapO_at (fun _ _ => renA_at) h) h1
      simp only [Blk2.at, hb, Bd.rows, this, Option.bind_some]
    · cases h

/-- What a step in passing style says: it hands on something of which P holds. -/
def Snd {R α : Type} (m : (α → Option R) → Option R) (Q : α → Prop) : Prop := ∀ K r, m K = some r → ∃ x, K x = some r ∧ Q x
theorem mapK_at {R α β α' β' : Type} {f : α → (β → Option R) → Option R} {g : α' → Option β'} {p : α → α'} {q : β → β'} (h : ∀ x, Snd (f x) fun y => g (p x) = some (q y)) :
    ∀ l : List α, Snd (mapK f l) fun ys => mapO g (l.map p) = some (ys.map q) := by
  intro l
  induction l with
  | nil => intro K r e; exact ⟨[], e, rfl⟩
  | cons x l ih =>
    intro K r e
    simp only [mapK] at e
    obtain ⟨y, e1, h1⟩ := h x _ _ e
    obtain ⟨ys, e2, h2⟩ := ih _ _ e1
    exact ⟨y :: ys, e2, by simp only [List.map_cons, mapO, h1, h2, Option.bind_some]⟩

section
variable {R : Type} {c : Cfg}
theorem frzA_at (mem : Mem2) (a : A2) : Snd (frzAK (R := R) c mem a) fun y => frzA mem.at a.at = some y.at := by
  intro K r e
  cases a <;> simp only [frzAK] at e
  case sm m lo n =>
    simp only [Option.bind_eq_some_iff] at e
    obtain ⟨b, e1, e⟩ := e
    split at e
    · rename_i hp
      split at e
      · rename_i d l hb
        split at e
        · rename_i hz
          split at e
          · rename_i hl
            refine ⟨_, e, ?_⟩
            have hrows : b.at.els = l.map d.at := by simp [Blk2.at, hb, Bd.rows]
            simp only [A2.at, frzA, mget_at, e1, Option.map_some, Option.bind_some, hrows]
            rw [if_pos ⟨hp, by simpa using hl⟩]
            simp only [Blk2.at, hz, List.map_take, List.map_drop, List.length_take, List.length_drop]
            rw [show min n (l.length - lo) = n by omega]
          · cases e
        · cases e
      · cases e
    · cases e
  case snil es ty =>
    simp only [Option.bind_eq_some_iff] at e
    obtain ⟨d, e1, e⟩ := e
    split at e
    · rename_i hz
      exact ⟨_, e, by simp [A2.at, frzA, hz]⟩
    · cases e
  all_goals exact ⟨_, e, rfl⟩
theorem frzV_at (mem : Mem2) (v : V2) : Snd (frzVK (R := R) c mem v) fun y => frzV mem.at v.at = some y.at := by
  intro K r e
  cases v with
  | a x =>
    obtain ⟨y, e1, h1⟩ := frzA_at mem x (fun y => K (.a y)) r e
    exact ⟨_, e1, by simp [V2.at, frzV, h1]⟩
  | g cs =>
    obtain ⟨y, e1, h1⟩ := mapK_at (fun a => frzA_at mem a) cs (fun ys => K (.g ys)) r e
    exact ⟨_, e1, by simp [V2.at, frzV, h1]⟩
theorem frzB_at (mem : Mem2) (b : Blk2) : Snd (frzBK (R := R) c mem b) fun y => frzB mem.at b.at = some y.at := by
  intro K r e
  unfold frzBK at e
  unfold frzB
  split at e
  · rename_i hp
    exact ⟨_, e, by rw [if_pos (by exact hp)]⟩
  · rename_i hp
    split at e
    · rename_i els hb
      obtain ⟨y, e1, h1⟩ := mapK_at (p := List.map A2.at) (q := List.map A2.at) (fun l => mapK_at (fun a => frzA_at mem a) l) els _ _ e
      refine ⟨_, e1, ?_⟩
      rw [if_neg (by exact hp)]
      simp only [Blk2.at, hb, Bd.rows, h1, Option.bind_some]
    · cases e
theorem blk_at (mu : Bool) (mem mem1 : Mem2) (ρ : Nat → Option Nat) (m : Nat) :
    Snd (blk2K (R := R) c mu mem mem1 ρ m) fun y => ((mget mem1.at m).bind fun b => (if mu then some b else frzB mem.at b).bind (renB ρ)) = some y.at := by
  intro K r e
  simp only [blk2K, Option.bind_eq_some_iff] at e
  obtain ⟨b, e1, e⟩ := e
  split at e
  · rename_i hm
    simp only [Option.bind_eq_some_iff] at e
    obtain ⟨b', e2, e⟩ := e
    exact ⟨b', e, by simp [mget_at, e1, hm, renB_at e2]⟩
  · rename_i hm
    obtain ⟨b1, e2, h1⟩ := frzB_at mem b _ _ e
    simp only [Option.bind_eq_some_iff] at e2
    obtain ⟨b', e3, e2⟩ := e2
    exact ⟨b', e2, by simp [mget_at, e1, hm, h1, renB_at e3]⟩
theorem fz_at (mem : Mem2) (F : List Nat) : (fz2 mem F).at = fzUpd mem.at F := by
  induction F with
  | nil => rfl
  | cons m F ih =>
    simp only [fz2, fzUpd, mget_at]
    cases mget2 mem m with
    | none => exact ih
    | some b => rw [Option.map_some, ← ih]; rfl
theorem zip_at (N : List Nat) (bs : List Blk2) : (zip2 N bs).at = zipU N (bs.map Blk2.at) := by
  induction N generalizing bs with
  | nil => rfl
  | cons n N ih =>
    cases bs with
    | nil => rfl
    | cons b bs => simp only [zip2, List.map_cons, zipU, ← ih]; rfl
theorem cnt_len {α β : Type} : ∀ (n : Nat) (a : List α) (b : List β), a.length = b.length → cnt n a = cnt n b
  | _, [], [], _ => rfl
  | n, _ :: a, _ :: b, h => by rw [cnt, cnt, cnt_len (n + 1) a b (by simpa using h)]
  | _, [], _ :: _, h => by simp at h
  | _, _ :: _, [], h => by simp at h
theorem res_at (rs : List V2) : (res2 rs).at = resV (rs.map V2.at) := by
  match rs with
  | [] => rfl
  | [x] => rfl
  | x :: y :: r => rfl
end
end Go.Proofs.Ytghdpmejgonjmaa.Am

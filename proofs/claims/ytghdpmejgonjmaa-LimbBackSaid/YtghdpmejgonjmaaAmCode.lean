/- Code: a loop's head keeps what is named; every code that the machine runs. -/
import Derived.Test.YtghdpmejgonjmaaAmDraw2
import Derived.LoopN
set_option linter.unusedVariables false
set_option linter.unusedSimpArgs false
namespace Go.Proofs.Ytghdpmejgonjmaa.Am
open Go

section
variable {P : Program} {n : Nat} {w0 : World} {M0 : Bool → Nat → Prop} {U : Nat → Prop} {ι ι' ι0 : Io} {h h1 h2 h0 : Hp} {fr fr' : List (Nat × Sv)} {mem mem' : Mem} {a : Act} {w w' : World} {p : Nat}
  {c : Cfg} {callF : FuncId → List Vl → List Blk → Option (List Vl × List Blk)} {o : Oper} {nx : Nat} {e : Eff}

/-- A block told in other words: the same cells. -/
theorem Sim.reword (hs : Sim n w0 M0 U ι h fr mem a w) {m : Nat} {B B' : Blk} (he : mget mem m = some B) (hes : B'.es = B.es) (hty : B'.ty = B.ty) (hfz : B'.fz = B.fz)
    (hnil : B.els = [] → B'.els = []) (hr : ∀ C, RBs ι h C B.es B.els → RBs ι h C B'.es B'.els) (hn : ∀ m' ∈ B'.nms, U m') (hp : B'.pr = true → ∀ e ∈ B'.els, ∀ x ∈ e, x.pr = true) :
    Sim n w0 M0 U ι h fr (set1 mem (m, some B')) a w := by
  have hh : ∀ x B1, mget (set1 mem (m, some B')) x = some B1 → (x = m ∧ B1 = B') ∨ (x ≠ m ∧ mget mem x = some B1) := by
    intro x B1 e
    rw [mget_set1] at e
    by_cases hx : m = x
    · rw [if_pos hx] at e; exact .inl ⟨hx.symm, by simpa using e.symm⟩
    · rw [if_neg hx] at e; exact .inr ⟨Ne.symm hx, e⟩
  have hh2 : ∀ x B1, mget (set1 mem (m, some B')) x = some B1 → ∃ B2, mget mem x = some B2 ∧ B1.fz = B2.fz := by
    intro x B1 e
    rcases hh x B1 e with ⟨rfl, rfl⟩ | ⟨hx, e'⟩
    · exact ⟨B, he, hfz⟩
    · exact ⟨B1, e', rfl⟩
  refine { hs with hmem := ?_, hinj := ?_, hmut := ?_, hfrz := ?_, hown := ?_, hown2 := ?_, hnb := ?_, hpr := ?_ }
  · intro x B1 e
    rcases hh x B1 e with ⟨rfl, rfl⟩ | ⟨hx, e'⟩
    · have hb := hs.hmem x B he
      unfold RB at hb ⊢
      cases hL : ι x with
      | none => rw [hL] at hb; exact hnil hb
      | some L =>
        rw [hL] at hb
        obtain ⟨C, q1, q2, q3, q4⟩ := hb
        exact ⟨C, by rw [q1, hty], q2, by rw [q3, hes], hr C q4⟩
    · exact hs.hmem x B1 e'
  · intro x y B1 B2 L1 L2 e1 e2
    obtain ⟨B3, f1, _⟩ := hh2 x B1 e1
    obtain ⟨B4, f2, _⟩ := hh2 y B2 e2
    exact hs.hinj x y B3 B4 L1 L2 f1 f2
  · intro x B1 L e hz
    obtain ⟨B2, f1, f2⟩ := hh2 x B1 e
    exact hs.hmut x B2 L f1 (by rw [← f2]; exact hz)
  · intro x B1 L e hz
    obtain ⟨B2, f1, f2⟩ := hh2 x B1 e
    exact hs.hfrz x B2 L f1 (by rw [← f2]; exact hz)
  · intro x B1 L e hz
    obtain ⟨B2, f1, f2⟩ := hh2 x B1 e
    exact hs.hown x B2 L f1 (by rw [← f2]; exact hz)
  · intro x B1 L e
    obtain ⟨B2, f1, f2⟩ := hh2 x B1 e
    exact hs.hown2 x B2 L f1
  · intro x B1 e
    rcases hh x B1 e with ⟨rfl, rfl⟩ | ⟨hx, e'⟩
    · exact ⟨(hs.hnb x B he).1, hn⟩
    · exact hs.hnb x B1 e'
  · intro x B1 e hq
    rcases hh x B1 e with ⟨rfl, rfl⟩ | ⟨hx, e'⟩
    · exact hp hq
    · exact hs.hpr x B1 e' hq

/-- One empty slice gets a name. -/
theorem ownA_sound (hs : Sim n w0 M0 (fun m => m < nx) ι h fr mem a w) {x : At} {v : Value} (hr : RA ι h x v) (hn : ∀ m ∈ x.nm, m < nx) :
    nx ≤ (ownA nx x).2.2 ∧ Sim n w0 M0 (fun m => m < (ownA nx x).2.2) ι h fr (updM mem (ownA nx x).2.1) a w ∧ RA ι h (ownA nx x).1 v ∧ ∀ m ∈ (ownA nx x).1.nm, m < (ownA nx x).2.2 := by
  have same : (ownA nx x) = (x, [], nx) → _ := fun (e : ownA nx x = (x, [], nx)) => (show nx ≤ (ownA nx x).2.2 ∧ Sim n w0 M0 (fun m => m < (ownA nx x).2.2) ι h fr (updM mem (ownA nx x).2.1) a w ∧ RA ι h (ownA nx x).1 v ∧ ∀ m ∈ (ownA nx x).1.nm, m < (ownA nx x).2.2 by
    rw [e]; exact ⟨Nat.le_refl _, hs, hr, hn⟩)
  cases x with
  | snil es ty =>
    simp only [ownA, updM]
    have h1 := hs.nameNil nx (by simp) { els := [], es := es, ty := ty, pr := true, fz := false } rfl
    refine ⟨by omega, h1.weak fun m hm => by rcases hm with hm | hm <;> omega, ?_, by simp [At.nm]⟩
    have hr : RP h _ _ := hr
    cases hr
    refine .inr ⟨?_, rfl, rfl, rfl⟩
    cases hL : ι nx with
    | none => rfl
    | some L => have := (hs.hdom nx L hL).1; simp at this
  | _ => exact same rfl

theorem ownL_sound : ∀ {cs : List At} {nx : Nat} {mem : Mem} {us : List Value}, Sim n w0 M0 (fun m => m < nx) ι h fr mem a w → RL ι h cs us → (∀ x ∈ cs, ∀ m ∈ x.nm, m < nx) →
    nx ≤ (ownL nx cs).2.2 ∧ Sim n w0 M0 (fun m => m < (ownL nx cs).2.2) ι h fr (updM mem (ownL nx cs).2.1) a w ∧ RL ι h (ownL nx cs).1 us ∧ ∀ x ∈ (ownL nx cs).1, ∀ m ∈ x.nm, m < (ownL nx cs).2.2 := by
  intro cs
  induction cs with
  | nil => intro nx mem us hs hr hn; exact ⟨Nat.le_refl _, hs, hr, hn⟩
  | cons x r ih =>
    intro nx mem us hs hr hn
    cases us with
    | nil => exact absurd hr.1 (by simp)
    | cons u us =>
      have hx : RA ι h x u := by obtain ⟨u', e1, e2⟩ := hr.2 0 x rfl; simp at e1; subst e1; exact e2
      have hr' : RL ι h r us := ⟨by simpa using hr.1, fun j y e => by simpa using hr.2 (j + 1) y (by simpa using e)⟩
      obtain ⟨a1, a2, a3, a4⟩ := ownA_sound hs hx (hn x (List.mem_cons_self ..))
      obtain ⟨b1, b2, b3, b4⟩ := ih a2 hr' fun y hy m hm => Nat.lt_of_lt_of_le (hn y (List.mem_cons_of_mem _ hy) m hm) a1
      simp only [ownL]
      refine ⟨Nat.le_trans a1 b1, by rw [updM_append]; exact b2, RL.cons a3 b3, fun y hy m hm => ?_⟩
      rcases List.mem_cons.1 hy with rfl | hy
      · exact Nat.lt_of_lt_of_le (a4 m hm) b1
      · exact b4 y hy m hm

/-- Slots that are told in a list of their own. -/
def Slots (ι : Io) (h : Hp) (a : Act) (k : Nat) (frs : List (Nat × Sv)) : Prop := ∀ p ∈ frs, ∃ x u, p.2 = .v x ∧ a.tmps[p.1]? = some u ∧ RV ι h x u ∧ ∀ m ∈ namesV [x], m < k
theorem Slots.mono {k k' : Nat} {frs : List (Nat × Sv)} (hs : Slots ι h a k frs) (hk : k ≤ k') : Slots ι h a k' frs := fun q hq => by
  obtain ⟨x, u, q1, q2, q3, q4⟩ := hs q hq
  exact ⟨x, u, q1, q2, q3, fun m hm => Nat.lt_of_lt_of_le (q4 m hm) hk⟩

theorem keepL_sound {σ : St} (hs : Sim n w0 M0 (fun m => m < σ.nx) ι h σ.fr σ.mem a w) : ∀ {ks : List Kp} {q : List (Nat × Sv) × Mem × Nat}, keepL σ ks = some q →
    σ.nx ≤ q.2.2 ∧ Sim n w0 M0 (fun m => m < q.2.2) ι h σ.fr (updM σ.mem q.2.1) a w ∧ Slots ι h a q.2.2 q.1 := by
  intro ks
  induction ks with
  | nil => intro q e; cases e; exact ⟨Nat.le_refl _, hs, fun p hp => by cases hp⟩
  | cons k r ih =>
    intro q e
    cases k with
    | s t =>
      simp only [keepL, Option.bind_eq_some_iff] at e
      obtain ⟨q0, e0, e⟩ := e
      obtain ⟨i1, i2, i3⟩ := ih e0
      split at e
      · rename_i x hl
        cases e
        obtain ⟨u, f1, f2⟩ := i2.hfr t _ hl
        obtain ⟨a1, a2, a3, a4⟩ := ownA_sound i2 (x := x) (v := u) f2 fun m hm => i2.hnm t _ hl m (by simpa [Sv.nms, namesV, Vl.cells] using hm)
        refine ⟨Nat.le_trans i1 a1, by simp only; rw [updM_append]; exact a2, fun q hq => ?_⟩
        rcases List.mem_cons.1 hq with rfl | hq
        · exact ⟨_, u, rfl, f1, a3, fun m hm => a4 m (by simpa [namesV, Vl.cells] using hm)⟩
        · exact i3.mono a1 q hq
      · rename_i cs hl
        cases e
        obtain ⟨u, f1, f2⟩ := i2.hfr t _ hl
        obtain ⟨A, rfl, f3⟩ : RV ι h (.g cs) u := f2
        obtain ⟨a1, a2, a3, a4⟩ := ownL_sound i2 f3 fun x hx m hm => i2.hnm t _ hl m (by simp only [Sv.nms, namesV, Vl.cells, List.flatMap_cons, List.flatMap_nil, List.append_nil, List.mem_flatMap]; exact ⟨x, hx, hm⟩)
        refine ⟨Nat.le_trans i1 a1, by simp only; rw [updM_append]; exact a2, fun q hq => ?_⟩
        rcases List.mem_cons.1 hq with rfl | hq
        · refine ⟨_, _, rfl, f1, ⟨A, rfl, a3⟩, fun m hm => ?_⟩
          simp only [namesV, Vl.cells, List.flatMap_cons, List.flatMap_nil, List.append_nil, List.mem_flatMap] at hm
          obtain ⟨x, hx, hm⟩ := hm
          exact a4 x hx m hm
        · exact i3.mono a1 q hq
      · cases e
    | b t =>
      simp only [keepL, Option.bind_eq_some_iff] at e
      obtain ⟨q0, e0, e⟩ := e
      obtain ⟨i1, i2, i3⟩ := ih e0
      split at e
      · rename_i m o hl
        simp only [Option.bind_eq_some_iff] at e
        obtain ⟨B, e1, e⟩ := e
        split at e
        · rename_i el hel
          cases e
          obtain ⟨u, f1, f2⟩ := i2.hfr t _ hl
          have hL0 : ∃ L, ι m = some L := by obtain ⟨L, hL, _⟩ : RA ι h (.ptr m 0 o) u := f2; exact ⟨L, hL⟩
          obtain ⟨L, hL⟩ := hL0
          have hb := i2.hmem m B e1
          unfold RB at hb
          rw [hL] at hb
          obtain ⟨C, c1, c2, c3, c4⟩ := hb
          -- the cells' values
          have hcells : ∀ C, RBs ι h C B.es B.els → ∃ us : List Value, RL ι h el us ∧ ∀ j u, us[j]? = some u → j < el.length → C[0 * B.es + j]? = some u := by
            intro C hC
            obtain ⟨k1, k2⟩ := hC 0 el (by rw [hel]; rfl)
            refine ⟨(List.range el.length).map fun j => (C[0 * B.es + j]?).getD undef, ⟨by simp, fun j x hx => ?_⟩, fun j u hu hj => ?_⟩
            · obtain ⟨u, g1, g2⟩ := k2 j x hx
              have hj : j < el.length := by
                rcases Nat.lt_or_ge j el.length with h' | h'
                · exact h'
                · rw [List.getElem?_eq_none (by omega)] at hx; cases hx
              exact ⟨u, by simp [hj]; simpa using congrArg (·.getD undef) g1, g2⟩
            · simp [hj] at hu
              obtain ⟨u', g1, g2⟩ := k2 j el[j] (List.getElem?_eq_getElem hj)
              rw [g1]
              simp at g1
              rw [g1] at hu
              simpa using hu
          obtain ⟨us, r1, r2⟩ := hcells C c4
          have hnm : ∀ x ∈ el, ∀ m' ∈ x.nm, m' < q0.2.2 := fun x hx m' hm' => (i2.hnb m B e1).2 m' (by
            simp only [Blk.nms, List.mem_flatMap]; exact ⟨el, by rw [hel]; simp, x, hx, hm'⟩)
          obtain ⟨a1, a2, a3, a4⟩ := ownL_sound i2 r1 hnm
          have hkeep : ∀ (cs : List At) (k : Nat) (mem : Mem), m < k → mget (updM mem (ownL k cs).2.1) m = mget mem m := by
            intro cs
            induction cs with
            | nil => intro k mem _; rfl
            | cons x r ih =>
              intro k mem hk
              simp only [ownL, updM_append]
              have h1 : k ≤ (ownA k x).2.2 := by cases x <;> simp [ownA]
              rw [ih _ _ (Nat.lt_of_lt_of_le hk h1)]
              cases x <;> simp only [ownA, updM]
              rw [mget_set1, if_neg (by omega)]
          have hmm : m < q0.2.2 := (i2.hnb m B e1).1
          have e1' := (hkeep el q0.2.2 (updM σ.mem q0.2.1) hmm).trans e1
          have a5 := a2.reword (B' := { B with els := [(ownL q0.2.2 el).1], pr := (ownL q0.2.2 el).1.all At.pr }) e1' rfl rfl rfl (by rw [hel]; simp)
            (fun C hC => by
              obtain ⟨us, r1, r2⟩ := hcells C hC
              obtain ⟨_, _, b3, _⟩ := ownL_sound i2 r1 hnm
              have hlen := (hC 0 el (by rw [hel]; rfl)).1
              intro i e' he'
              cases i with
              | succ i => simp at he'
              | zero =>
                simp at he'
                subst he'
                refine ⟨by rw [b3.1, ← r1.1, hlen], fun j x hx => ?_⟩
                obtain ⟨u, g1, g2⟩ := b3.2 j x hx
                have hj : j < el.length := by
                  rw [r1.1]
                  exact (List.getElem?_eq_some_iff.1 g1).1
                exact ⟨u, r2 j u g1 hj, g2⟩)
            (fun m' hm' => by
              simp only [Blk.nms, List.flatMap_cons, List.flatMap_nil, List.append_nil, List.mem_flatMap] at hm'
              obtain ⟨x, hx, hm'⟩ := hm'
              exact a4 x hx m' hm')
            (fun hq e he x hx => by
              simp only [List.mem_singleton] at he
              subst he
              exact List.all_eq_true.1 hq x hx)
          refine ⟨Nat.le_trans i1 a1, ?_, fun q hq => ?_⟩
          · simp only
            rw [updM_append, updM_append]
            exact a5
          · rcases List.mem_cons.1 hq with rfl | hq
            · exact ⟨_, u, rfl, f1, f2, fun m' hm' => by simp [namesV, Vl.cells, At.nm] at hm'; subst hm'; exact Nat.lt_of_lt_of_le hmm a1⟩
            · exact i3.mono a1 q hq
        · cases e
      · cases e

theorem renS_sound {ρ : Nat → Option Nat} {k k' : Nat} {ι' : Io} : ∀ {frs fr' : List (Nat × Sv)}, Slots ι h a k frs → renS ρ frs = some fr' → (∀ m m', ρ m = some m' → ι' m' = ι m ∧ m' < k') →
    ∀ t v, lk fr' t = some v → ∃ u, a.tmps[t]? = some u ∧ RS ι' h v u ∧ ∀ m ∈ v.nms, m < k' := by
  intro frs
  induction frs with
  | nil => intro fr' _ e _ t v hl; cases e; cases hl
  | cons q r ih =>
    intro fr' hs e hρ t v hl
    obtain ⟨t0, v0⟩ := q
    obtain ⟨x, u, q1, q2, q3, q4⟩ := hs _ (List.mem_cons_self ..)
    simp only at q1 q2
    subst q1
    simp only [renS, Option.bind_eq_some_iff] at e
    obtain ⟨y, e1, s, e2, e⟩ := e
    cases e
    rw [lk_cons] at hl
    split at hl
    · rename_i ht
      cases hl
      subst ht
      refine ⟨u, q2, q3.ren e1 fun m m' hq => (hρ m m' hq).1, fun m hm => ?_⟩
      obtain ⟨m0, _, hq⟩ := renV_nm e1 m hm
      exact (hρ m0 m hq).2
    · exact ih (fun q hq => hs q (List.mem_cons_of_mem _ hq)) e2 hρ t v hl

/-- Blocks by their places, as a memory. -/
theorem mget_range (bs : List Blk) (m : Nat) : mget (zipU (List.range bs.length) bs) m = bs[m]? := by
  have key : ∀ (bs : List Blk) (k : Nat), mget (zipU (List.range' k bs.length) bs) m = if k ≤ m then bs[m - k]? else none := by
    intro bs
    induction bs with
    | nil => intro k; simp [zipU, mget, lk]
    | cons b bs ih =>
      intro k
      simp only [List.length_cons, List.range'_succ, zipU]
      unfold mget
      rw [lk_cons]
      by_cases hk : k = m
      · subst hk; simp
      · rw [if_neg hk]
        have := ih (k + 1)
        unfold mget at this
        rw [this]
        by_cases h2 : k ≤ m
        · rw [if_pos (by omega), if_pos h2]
          have : m - k = (m - (k + 1)) + 1 := by omega
          rw [this]
          rfl
        · rw [if_neg (by omega), if_neg h2]
  have := key bs 0
  rw [List.range_eq_range']
  rw [this]
  simp

/-- Blocks by their places are a memory of the machine's. -/
theorem Mm.sim {bs : List Blk} (hm : Mm ι h w bs) (hι : ∀ i L, ι i = some L → i < bs.length) (hsize : a.tmps.size = n) (hd : a.defers = [])
    (hf : ∀ t v, lk fr t = some v → ∃ u, a.tmps[t]? = some u ∧ RS ι h v u ∧ ∀ m ∈ v.nms, m < bs.length)
    (hown : ∀ (i : Nat) (B : Blk) (L : Loc), bs[i]? = some B → B.fz = false → ι i = some L → w0.heap.size ≤ L.b ∨ M0 false L.b)
    (hown2 : ∀ (i : Nat) (B : Blk) (L : Loc), bs[i]? = some B → ι i = some L → w0.heap.size ≤ L.b ∨ M0 true L.b)
    (hframe : ∀ b, b < w0.heap.size → ¬ M0 false b → w.heap[b]? = w0.heap[b]?) (hgrow : w0.heap.size ≤ w.heap.size) (hos : w.os = w0.os) (htape : w.tape = w0.tape) (hout : w.output = w0.output)
    (hmem : ∀ m, mget mem m = bs[m]?) : Sim n w0 M0 (fun m => m < bs.length) ι h fr mem a w := by
  have hlt : ∀ {i : Nat} {B : Blk}, bs[i]? = some B → i < bs.length := fun {i B} e => (List.getElem?_eq_some_iff.1 e).1
  refine { hsize := hsize, hdefers := hd, hfr := fun t v e => let ⟨u, q1, q2, _⟩ := hf t v e; ⟨u, q1, q2⟩, hmem := ?_, hinj := ?_, hsub := hm.sub, hmut := ?_, hfrz := ?_, hown := ?_, hown2 := ?_,
           hframe := hframe, hgrow := hgrow, hos := hos, htape := htape, houtput := hout, hnm := fun t v e => let ⟨_, _, _, q3⟩ := hf t v e; q3, hnb := ?_, hdom := ?_, hpr := ?_ }
  · intro m B e; rw [hmem] at e; exact hm.rb m B e
  · intro m m' B B' L L' e e' l l' hq; rw [hmem] at e e'; exact hm.inj m m' B B' L L' e e' l l' hq
  · intro m B L e hz l; rw [hmem] at e; exact hm.mut' m B L e hz l
  · intro m B L e hz l; rw [hmem] at e; exact hm.frz m B L e hz l
  · intro m B L e hz l; rw [hmem] at e; exact hown m B L e hz l
  · intro m B L e l; rw [hmem] at e; exact hown2 m B L e l
  · intro m B e; rw [hmem] at e; exact ⟨hlt e, hm.nm m B e⟩
  · intro m L l
    have := hι m L l
    exact ⟨this, hm.dom m _ L (List.getElem?_eq_getElem this) l⟩
  · intro m B e; rw [hmem] at e; exact hm.pr m B e

theorem headN_sound {ks : List Kp} {σ σ' : St} (e : headN p ks σ = some σ') (hc : Cnf n w0 M0 p ι0 h0 σ a w) : Cnf n w0 M0 p ι0 h0 σ' a w := by
  obtain ⟨ι, h, hs, hh, hp⟩ := hc
  unfold headN at e
  simp only [Option.bind_eq_some_iff] at e
  obtain ⟨q, e1, fr', e2, bs, e3, e⟩ := e
  split at e
  · rename_i hNp
    cases e
    obtain ⟨i1, i2, i3⟩ := keepL_sound hs e1
    generalize hN : clo (namesM (updM σ.mem q.2.1)) 64 (List.range p ++ namesV (q.1.filterMap fun s => match s.2 with | .v x => some x | _ => none)) [] = N at *
    have hNd : N.Nodup := by rw [← hN]; exact clo_nodup _ _ _ _ List.nodup_nil
    have hpN : p ≤ N.length := by
      have := congrArg List.length hNp
      simp at this
      omega
    obtain ⟨hmm, hbl, hbf⟩ := pack_sound i2 i2 (Fzn.refl _) (Sub.refl h) hNd (cv := true) (fun hq => by cases hq) (bs := bs) (by simpa using e3)
    have hlt : ∀ {i m : Nat}, N[i]? = some m → i < N.length := fun {i m} e => (List.getElem?_eq_some_iff.1 e).1
    refine ⟨fun j => (N[j]?).bind ι, h, ?_, ⟨hh.sub, fun i hi => ?_, hh.view⟩, hpN⟩
    · simp only
      rw [← hbl]
      refine hmm.sim ?_ i2.hsize i2.hdefers ?_ ?_ ?_ i2.hframe i2.hgrow i2.hos i2.htape i2.houtput (mget_range bs)
      · intro i L hL
        rw [hbl]
        simp only [Option.bind_eq_some_iff] at hL
        obtain ⟨m, h1, _⟩ := hL
        exact hlt h1
      · refine renS_sound i3 e2 fun m m' hq => ?_
        have := idx_spec hq
        refine ⟨by simp [this], by rw [hbl]; exact hlt this⟩
      · intro i B L hB hz hL
        obtain ⟨m, B1, k1, k2, k3⟩ := hbf i B hB
        simp only [k1, Option.bind_some] at hL
        exact i2.hown m B1 L k2 (by rw [← k3]; exact hz) hL
      · intro i B L hB hL
        obtain ⟨m, B1, k1, k2, k3⟩ := hbf i B hB
        simp only [k1, Option.bind_some] at hL
        exact i2.hown2 m B1 L k2 hL
    · have : N[i]? = some i := by
        have h1 : (N.take p)[i]? = (List.range p)[i]? := by rw [hNp]
        rw [List.getElem?_take, if_pos hi, List.getElem?_range hi] at h1
        exact h1
      simp only [this, Option.bind_some]
      exact hh.same i hi
  · cases e

def outE : Out → Exit
  | .norm _ => .normal
  | .exit i _ => .exit i
  | .ret _ => .ret
def outS : Out → St
  | .norm σ => σ
  | .exit _ σ => σ
  | .ret σ => σ

theorem seq_out {F : St → Option Out} {r : Option Out} {out : Out} (e : seqK F r = some out) : (∃ σ, r = some (.norm σ) ∧ F σ = some out) ∨ (r = some out ∧ outE out ≠ .normal) := by
  cases r with
  | none => cases e
  | some o =>
    cases o with
    | norm σ => exact .inl ⟨σ, rfl, e⟩
    | exit i σ => cases e; exact .inr ⟨rfl, by simp [outE]⟩
    | ret σ => cases e; exact .inr ⟨rfl, by simp [outE]⟩

theorem then_other {K : Act → World → Prop} {Q : Exit → Act → World → Prop} {e : Exit} (he : e ≠ .normal) (hq : Q e a w) : Exit.then K Q e a w := by
  cases e <;> first | exact hq | exact absurd rfl he

theorem runC_sound (hT : TyOk P c.T) (hC : CallOk P callF) (hmo : P.follows .mixedOrders = true) {kp : Nat → List Kp} {k : Nat} :
    ∀ (code : Code) (b : Nat) (σ : St) (out : Out) (Q : Exit → Act → World → Prop) (a : Act) (w : World), runC c callF kp n k p b code σ = some out → Cnf n w0 M0 p ι0 h0 σ a w →
      (∀ a' w', Cnf n w0 M0 p ι0 h0 (outS out) a' w' → Q (outE out) a' w') → code.wp P Q a w := by
  intro code
  induction code with
  | skip => intro b σ out Q a w e hc hQ; simp only [runC] at e; cases e; exact wp_skip (hQ _ _ hc)
  | region id ops draw =>
    intro b σ out Q a w e hc hQ
    simp only [runC] at e
    cases hr : runOps c callF n ops.toList ops.toList σ [] with
    | none => rw [hr] at e; cases e
    | some r =>
      obtain ⟨σ', is⟩ := r
      rw [hr] at e
      simp only [regK] at e
      cases draw with
      | false =>
        simp only [Bool.false_and] at e
        cases e
        refine wp_region ?_
        have := runOps_sound hT hC (ops := ops) (Q := Q) ops.toList 0 σ σ' [] is a w rfl hc hr hQ
        rw [List.range_eq_range']
        simpa using this
      | true =>
        simp only [Bool.true_and] at e
        split at e
        · cases e
        · rename_i hd
          cases e
          exact draw_sound hT hC hmo hr (by simpa using hd) hc hQ
  | seq x y ihx ihy =>
    intro b σ out Q a w e hc hQ
    simp only [runC] at e
    refine wp_seq ?_
    rcases seq_out e with ⟨σ1, h1, h2⟩ | ⟨h1, h2⟩
    · exact ihx b σ _ _ a w h1 hc fun a' w' hc' => ihy b σ1 out Q a' w' h2 hc' hQ
    · exact ihx b σ _ _ a w h1 hc fun a' w' hc' => then_other h2 (hQ a' w' hc')
  | cond o x y ihx ihy =>
    intro b σ out Q a w e hc hQ
    simp only [runC] at e
    cases ht : evB σ.fr o with
    | none => rw [ht] at e; cases e
    | some t =>
      rw [ht] at e
      obtain ⟨ι, h, hs, hh, hp⟩ := hc
      refine wp_cond (hs.evB ht) ?_
      cases t with
      | true => exact ihx b σ out Q a w e ⟨ι, h, hs, hh, hp⟩ hQ
      | false => exact ihy b σ out Q a w e ⟨ι, h, hs, hh, hp⟩ hQ
  | block id x ih =>
    intro b σ out Q a w e hc hQ
    simp only [runC] at e
    refine wp_block ?_
    cases hr : runC c callF kp n k p id x σ with
    | none => rw [hr] at e; cases e
    | some o =>
      rw [hr] at e
      refine ih id σ o _ a w hr hc fun a' w' hc' => ?_
      cases o with
      | norm σ' => cases e; exact hQ a' w' hc'
      | ret σ' => cases e; exact hQ a' w' hc'
      | exit i σ' =>
        simp only [blkK] at e
        simp only [outE, Exit.inBlock]
        split at e
        · cases e; rw [if_pos ‹_›]; exact hQ a' w' hc'
        · cases e; rw [if_neg ‹_›]; exact hQ a' w' hc'
  | loop x ih =>
    intro b σ out Q a w e hc hQ
    simp only [runC] at e
    refine wp_loop_rounds k ?_
    suffices h : ∀ (k' : Nat) (σ : St) (a : Act) (w : World), loopN (headN p (kp b)) (runC c callF kp n k p b x) k' σ = some out → Cnf n w0 M0 p ι0 h0 σ a w → Code.rounds P x Q k' a w from h k σ a w e hc
    intro k'
    induction k' with
    | zero => intro σ a w e; cases e
    | succ k' ih2 =>
      intro σ a w e hc
      simp only [loopN] at e
      rw [rounds_succ]
      cases hh : headN p (kp b) σ with
      | none => rw [hh] at e; cases e
      | some σ1 =>
        rw [hh] at e
        simp only [hdK] at e
        have hc1 := headN_sound hh hc
        rcases seq_out e with ⟨σ2, h1, h2⟩ | ⟨h1, h2⟩
        · exact ih b σ1 _ _ a w h1 hc1 fun a' w' hc' => ih2 σ2 a' w' h2 hc'
        · exact ih b σ1 _ _ a w h1 hc1 fun a' w' hc' => then_other h2 (hQ a' w' hc')
  | exit id => intro b σ out Q a w e hc hQ; simp only [runC] at e; cases e; exact wp_exit (hQ _ _ hc)
  | ret => intro b σ out Q a w e hc hQ; simp only [runC] at e; cases e; exact wp_ret (hQ _ _ hc)
  | _ => intro b σ out Q a w e hc hQ; simp only [runC] at e; cases e

end
end Go.Proofs.Ytghdpmejgonjmaa.Am

/- Each plain operation of the program does what the abstract machine says: conversions, append. -/
import Derived.Test.YtghdpmejgonjmaaAmOps5
import Derived.Maps.AppendAt
set_option linter.unusedVariables false
set_option linter.unusedSimpArgs false
namespace Go.Proofs.Ytghdpmejgonjmaa.Am
open Go

section
variable {P : Program} {n : Nat} {w0 : World} {M0 : Bool → Nat → Prop} {U : Nat → Prop} {ι : Io} {h : Hp} {fr : List (Nat × Sv)} {mem : Mem} {a : Act} {w w' : World}
  {c : Cfg} {callF : FuncId → List Vl → List Blk → Option (List Vl × List Blk)} {o : Oper} {nx : Nat} {e : Eff}

theorem RP.isPr {h : Hp} {x : At} {v : Value} (hr : RP h x v) : x.pr = true := by cases hr <;> rfl

/-- The world has grown; of what was there one block at most was written, and nobody knows of it. -/
theorem Sim.grown (hs : Sim n w0 M0 U ι h fr mem a w) {row : Option Nat} (hg : w.grownBy w' row)
    (hrow : ∀ g, row = some g → (∀ m B L, mget mem m = some B → ι m = some L → L.b ≠ g) ∧ h g = none ∧ (w0.heap.size ≤ g ∨ M0 false g)) : Sim n w0 M0 U ι h fr mem a w' := by
  have hold : ∀ b, b < w.heap.size → some b ≠ row → w'.heap[b]? = w.heap[b]? := hg.block
  have hne : ∀ {b : Nat} {o : Obj}, h b = some o → some b ≠ row := by
    intro b o e hq
    have := (hrow b hq.symm).2.1
    rw [e] at this
    cases this
  have hne2 : ∀ {m B L}, mget mem m = some B → ι m = some L → some L.b ≠ row := by
    intro m B L e l hq
    exact (hrow L.b hq.symm).1 m B L e l rfl
  refine { hs with hmem := ?_, hsub := ?_, hfrz := ?_, hframe := ?_, hgrow := Nat.le_trans hs.hgrow hg.size, hos := hg.os.trans hs.hos, htape := hg.tape.trans hs.htape, houtput := hg.output.trans hs.houtput, hdom := ?_ }
  · intro m B e
    have hb := hs.hmem m B e
    unfold RB at hb ⊢
    cases hL : ι m with
    | none => rw [hL] at hb; exact hb
    | some L =>
      rw [hL] at hb
      obtain ⟨C, e1, e2⟩ := hb
      exact ⟨C, by rw [hold _ (hs.hdom m L hL).2 (hne2 e hL)]; exact e1, e2⟩
  · intro b o e
    rw [hold b (hs.hlt e) (hne e)]
    exact hs.hsub b o e
  · intro m B L e hz l
    rw [hold _ (hs.hdom m L l).2 (hne2 e l)]
    exact hs.hfrz m B L e hz l
  · intro b hb hM
    by_cases hq : some b = row
    · rcases (hrow b hq.symm).2.2 with h1 | h1
      · omega
      · exact absurd h1 hM
    · rw [hold b (Nat.lt_of_lt_of_le hb hs.hgrow) hq]
      exact hs.hframe b hb hM
  · intro m L l
    exact ⟨(hs.hdom m L l).1, Nat.lt_of_lt_of_le (hs.hdom m L l).2 hg.size⟩

/-- A name for a block that none has. -/
theorem Sim.name (hs : Sim n w0 M0 U ι h fr mem a w) (m : Nat) (hm : ¬ U m) (B : Blk) (L : Loc) {C : Array Value} (hb : w.heap[L.b]? = some (.cells C B.ty (0, 0))) (hsz : C.size = L.sz) (hes : L.es = B.es)
    (hr : RBs ι h C B.es B.els) (hfz : B.fz = false) (hno : ∀ m' B' L', mget mem m' = some B' → ι m' = some L' → L'.b ≠ L.b) (hh : h L.b = none) (hown : w0.heap.size ≤ L.b ∨ M0 false L.b) (hown2 : w0.heap.size ≤ L.b ∨ M0 true L.b)
    (hn : ∀ m' ∈ B.nms, U m') (hp : B.pr = true → ∀ e ∈ B.els, ∀ x ∈ e, x.pr = true) :
    Sim n w0 M0 (fun x => U x ∨ x = m) (ι.set m L) h fr (set1 mem (m, some B)) a w := by
  have hι : ∀ x, U x → (ι.set m L) x = ι x := fun x hx => by
    unfold Io.set; rw [if_neg]; rintro rfl; exact hm hx
  have hset : (ι.set m L) m = some L := by simp [Io.set]
  have hk : ∀ x B', mget (set1 mem (m, some B)) x = some B' → (x = m ∧ B' = B) ∨ (x ≠ m ∧ mget mem x = some B') := by
    intro x B' e
    rw [mget_set1] at e
    by_cases hx : m = x
    · rw [if_pos hx] at e; exact .inl ⟨hx.symm, by simpa using e.symm⟩
    · rw [if_neg hx] at e; exact .inr ⟨Ne.symm hx, e⟩
  refine { hs with hfr := ?_, hmem := ?_, hinj := ?_, hmut := ?_, hfrz := ?_, hown := ?_, hown2 := ?_, hnm := ?_, hnb := ?_, hdom := ?_, hpr := ?_ }
  · intro t v e
    obtain ⟨u, e1, e2⟩ := hs.hfr t v e
    exact ⟨u, e1, e2.mono (Sub.refl h) fun x hx => hι x (hs.hnm t v e x hx)⟩
  · intro x B' e
    rcases hk x B' e with ⟨rfl, rfl⟩ | ⟨hx, e'⟩
    · unfold RB
      rw [hset]
      exact ⟨C, hb, hsz, hes, hr.mono (Sub.refl h) fun x hx => hι x (hn x hx)⟩
    · have hb := hs.hmem x B' e'
      have hu := hs.hnb x B' e'
      unfold RB at hb ⊢
      rw [hι x hu.1]
      cases hL : ι x with
      | none => rw [hL] at hb; exact hb
      | some L1 =>
        rw [hL] at hb
        obtain ⟨C', e1, e2, e3, e4⟩ := hb
        exact ⟨C', e1, e2, e3, e4.mono (Sub.refl h) fun y hy => hι y (hu.2 y hy)⟩
  · intro x y B1 B2 L1 L2 e1 e2 l1 l2 hq
    rcases hk x B1 e1 with ⟨rfl, rfl⟩ | ⟨hx, e1'⟩
    · rcases hk y B2 e2 with ⟨rfl, rfl⟩ | ⟨hy, e2'⟩
      · rfl
      · rw [hset] at l1
        cases l1
        rw [hι y (hs.hnb y B2 e2').1] at l2
        exact absurd hq.symm (hno y B2 L2 e2' l2)
    · rw [hι x (hs.hnb x B1 e1').1] at l1
      rcases hk y B2 e2 with ⟨rfl, rfl⟩ | ⟨hy, e2'⟩
      · rw [hset] at l2
        cases l2
        exact absurd hq (hno x B1 L1 e1' l1)
      · rw [hι y (hs.hnb y B2 e2').1] at l2
        exact hs.hinj x y B1 B2 L1 L2 e1' e2' l1 l2 hq
  · intro x B' L1 e hz l
    rcases hk x B' e with ⟨rfl, rfl⟩ | ⟨hx, e'⟩
    · rw [hset] at l; cases l; exact hh
    · rw [hι x (hs.hnb x B' e').1] at l
      exact hs.hmut x B' L1 e' hz l
  · intro x B' L1 e hz l
    rcases hk x B' e with ⟨rfl, rfl⟩ | ⟨hx, e'⟩
    · rw [hfz] at hz; cases hz
    · rw [hι x (hs.hnb x B' e').1] at l
      exact hs.hfrz x B' L1 e' hz l
  · intro x B' L1 e hz l
    rcases hk x B' e with ⟨rfl, rfl⟩ | ⟨hx, e'⟩
    · rw [hset] at l; cases l; exact hown
    · rw [hι x (hs.hnb x B' e').1] at l
      exact hs.hown x B' L1 e' hz l
  · intro x B' L1 e l
    rcases hk x B' e with ⟨rfl, rfl⟩ | ⟨hx, e'⟩
    · rw [hset] at l; cases l; exact hown2
    · rw [hι x (hs.hnb x B' e').1] at l
      exact hs.hown2 x B' L1 e' l
  · intro t v e x hx
    exact .inl (hs.hnm t v e x hx)
  · intro x B' e
    rcases hk x B' e with ⟨rfl, rfl⟩ | ⟨hx, e'⟩
    · exact ⟨.inr rfl, fun y hy => .inl (hn y hy)⟩
    · exact ⟨.inl (hs.hnb x B' e').1, fun y hy => .inl ((hs.hnb x B' e').2 y hy)⟩
  · intro x L1 l
    unfold Io.set at l
    by_cases hx : x = m
    · rw [if_pos hx] at l; cases l
      exact ⟨.inr hx, (Array.getElem?_eq_some_iff.1 hb).1⟩
    · rw [if_neg hx] at l; have := hs.hdom x L1 l; exact ⟨.inl this.1, this.2⟩
  · intro x B' e hp'
    rcases hk x B' e with ⟨rfl, rfl⟩ | ⟨hx, e'⟩
    · exact hp hp'
    · exact hs.hpr x B' e' hp'

/-- A name for no block: a slice that is nil. -/
theorem Sim.nameNil (hs : Sim n w0 M0 U ι h fr mem a w) (m : Nat) (hm : ¬ U m) (B : Blk) (hb : B.els = []) :
    Sim n w0 M0 (fun x => U x ∨ x = m) ι h fr (set1 mem (m, some B)) a w := by
  have hιm : ι m = none := by
    cases hL : ι m with
    | none => rfl
    | some L => exact absurd (hs.hdom m L hL).1 hm
  have hk : ∀ x B', mget (set1 mem (m, some B)) x = some B' → (x = m ∧ B' = B) ∨ (x ≠ m ∧ mget mem x = some B') := by
    intro x B' e
    rw [mget_set1] at e
    by_cases hx : m = x
    · rw [if_pos hx] at e; exact .inl ⟨hx.symm, by simpa using e.symm⟩
    · rw [if_neg hx] at e; exact .inr ⟨Ne.symm hx, e⟩
  have hs' := hs.weak (U' := fun x => U x ∨ x = m) fun _ hx => .inl hx
  refine { hs' with hmem := ?_, hinj := ?_, hmut := ?_, hfrz := ?_, hown := ?_, hown2 := ?_, hnb := ?_, hpr := ?_ }
  · intro x B' e
    rcases hk x B' e with ⟨rfl, rfl⟩ | ⟨hx, e'⟩
    · unfold RB; rw [hιm]; exact hb
    · exact hs.hmem x B' e'
  · intro x y B1 B2 L1 L2 e1 e2 l1 l2 hq
    rcases hk x B1 e1 with ⟨rfl, rfl⟩ | ⟨hx, e1'⟩
    · rw [hιm] at l1; cases l1
    · rcases hk y B2 e2 with ⟨rfl, rfl⟩ | ⟨hy, e2'⟩
      · rw [hιm] at l2; cases l2
      · exact hs.hinj x y B1 B2 L1 L2 e1' e2' l1 l2 hq
  · intro x B' L1 e hz l
    rcases hk x B' e with ⟨rfl, rfl⟩ | ⟨hx, e'⟩
    · rw [hιm] at l; cases l
    · exact hs.hmut x B' L1 e' hz l
  · intro x B' L1 e hz l
    rcases hk x B' e with ⟨rfl, rfl⟩ | ⟨hx, e'⟩
    · rw [hιm] at l; cases l
    · exact hs.hfrz x B' L1 e' hz l
  · intro x B' L1 e hz l
    rcases hk x B' e with ⟨rfl, rfl⟩ | ⟨hx, e'⟩
    · rw [hιm] at l; cases l
    · exact hs.hown x B' L1 e' hz l
  · intro x B' L1 e l
    rcases hk x B' e with ⟨rfl, rfl⟩ | ⟨hx, e'⟩
    · rw [hιm] at l; cases l
    · exact hs.hown2 x B' L1 e' l
  · intro x B' e
    rcases hk x B' e with ⟨rfl, rfl⟩ | ⟨hx, e'⟩
    · refine ⟨.inr rfl, fun y hy => ?_⟩
      unfold Blk.nms at hy
      rw [hb] at hy
      cases hy
    · exact ⟨.inl (hs.hnb x B' e').1, fun y hy => .inl ((hs.hnb x B' e').2 y hy)⟩
  · intro x B' e hp'
    rcases hk x B' e with ⟨rfl, rfl⟩ | ⟨hx, e'⟩
    · intro e' he'
      rw [hb] at he'
      cases he'
    · exact hs.hpr x B' e' hp'

/-- Cells that lie side by side, and the elements that they are. -/
def RF (ι : Io) (h : Hp) (cells : List Value) (es : Nat) (els : List (List At)) : Prop :=
  cells.length = els.length * es ∧ ∀ (i : Nat) (e : List At), els[i]? = some e → e.length = es ∧ ∀ (j : Nat) (x : At), e[j]? = some x → ∃ u, cells[i * es + j]? = some u ∧ RA ι h x u
theorem RF.append {cs ds : List Value} {es : Nat} {els fls : List (List At)} (h1 : RF ι h cs es els) (h2 : RF ι h ds es fls) : RF ι h (cs ++ ds) es (els ++ fls) := by
  refine ⟨by simp [h1.1, h2.1, Nat.add_mul], fun i e he => ?_⟩
  rw [List.getElem?_append] at he
  split at he
  · rename_i hi
    obtain ⟨q1, q2⟩ := h1.2 i e he
    refine ⟨q1, fun j x hx => ?_⟩
    obtain ⟨u, q3, q4⟩ := q2 j x hx
    refine ⟨u, ?_, q4⟩
    rw [List.getElem?_append, if_pos]
    · exact q3
    · rcases Nat.lt_or_ge (i * es + j) cs.length with h' | h'
      · exact h'
      · rw [List.getElem?_eq_none (by omega)] at q3; cases q3
  · rename_i hi
    obtain ⟨q1, q2⟩ := h2.2 _ e he
    refine ⟨q1, fun j x hx => ?_⟩
    obtain ⟨u, q3, q4⟩ := q2 j x hx
    refine ⟨u, ?_, q4⟩
    have hle : els.length * es ≤ i * es := Nat.mul_le_mul_right es (by omega)
    rw [List.getElem?_append, if_neg (by rw [h1.1]; omega), h1.1, ← q3]
    congr 1
    rw [Nat.sub_mul]
    omega
theorem RF.ofCells {C : Array Value} {es off : Nat} {els : List (List At)} (hes : 0 < es) (hr : ∀ (i : Nat) (e : List At), els[i]? = some e → e.length = es ∧ ∀ (j : Nat) (x : At), e[j]? = some x → ∃ u, C[off + (i * es + j)]? = some u ∧ RA ι h x u) :
    RF ι h ((C.toList.drop off).take (els.length * es)) es els := by
  have hlen : ((C.toList.drop off).take (els.length * es)).length = els.length * es := by
    rcases Nat.eq_zero_or_pos els.length with h0 | h0
    · rw [h0]; simp
    · have hi : els[els.length - 1]? = some els[els.length - 1] := List.getElem?_eq_getElem (by omega)
      obtain ⟨q1, q2⟩ := hr _ _ hi
      have hj : (els[els.length - 1])[es - 1]? = some ((els[els.length - 1])[es - 1]'(by rw [q1]; omega)) := List.getElem?_eq_getElem _
      obtain ⟨u, q3, _⟩ := q2 _ _ hj
      have q4 := (Array.getElem?_eq_some_iff.1 q3).1
      have q5 : els.length * es = (els.length - 1) * es + es := by rw [← Nat.succ_mul]; congr 1; omega
      simp
      omega
  refine ⟨hlen, fun i e he => ?_⟩
  obtain ⟨q1, q2⟩ := hr i e he
  refine ⟨q1, fun j x hx => ?_⟩
  obtain ⟨u, q3, q4⟩ := q2 j x hx
  refine ⟨u, ?_, q4⟩
  have hi : i < els.length := by
    rcases Nat.lt_or_ge i els.length with h' | h'
    · exact h'
    · rw [List.getElem?_eq_none (by omega)] at he; cases he
  have hj : j < es := by
    rw [← q1]
    rcases Nat.lt_or_ge j e.length with h' | h'
    · exact h'
    · rw [List.getElem?_eq_none (by omega)] at hx; cases hx
  have hlt : i * es + j < els.length * es := by
    have : (i + 1) * es ≤ els.length * es := Nat.mul_le_mul_right es hi
    rw [Nat.add_mul, Nat.one_mul] at this
    omega
  rw [List.getElem?_take, if_pos hlt, List.getElem?_drop, Array.getElem?_toList]
  exact q3

theorem Sim.elsOf (hs : Sim n w0 M0 U ι h fr mem a w) {x : At} {u : Value} {es k : Nat} {els : List (List At)} {pr : Bool} {rd : List Nat} (hes : 0 < es) (hr : RA ι h x u) (he : Am.elsOf mem es x = some (k, els, pr, rd)) :
    els.length = k ∧ (∀ m ∈ els.flatMap (fun e => e.flatMap At.nm), U m) ∧ (pr = true → ∀ e ∈ els, ∀ y ∈ e, y.pr = true) ∧
    ((∃ A c', u = .slice (some A) k c' ∧ ∃ cells, RF ι h cells es els ∧ ∀ j v, cells[j]? = some v → w.cell? (A.add j) = some v) ∨ (k = 0 ∧ els = [] ∧ ∃ c', u = .slice none 0 c')) := by
  unfold Am.elsOf at he
  split at he
  · rename_i es' k' els'
    split at he
    · rename_i hq
      subst hq
      cases he
      have hr : RP h _ _ := hr
      cases hr with
      | sl0 _ A c' =>
        refine ⟨rfl, by simp, by simp, ?_⟩
        cases A with
        | none => exact .inr ⟨rfl, rfl, c', rfl⟩
        | some A => exact .inl ⟨A, c', rfl, [], ⟨by simp, by simp⟩, by simp⟩
      | sl _ _ b off c' _ C t z us hb hnl hcp hl hu hrr =>
        have hf := RF.ofCells (ι := ι) (h := h) (C := C) (off := off) hes (fun i e he => ⟨hl i e he, fun j y hy => ⟨us i j, hu i e j y he hy, RA.ofRP (hrr i e j y he hy)⟩⟩)
        refine ⟨hnl, ?_, ?_, .inl ⟨⟨b, off, none⟩, c', rfl, _, hf, ?_⟩⟩
        · intro m hm
          simp only [List.mem_flatMap] at hm
          obtain ⟨e, he, y, hy, hm⟩ := hm
          obtain ⟨i, hi⟩ := List.getElem?_of_mem he
          obtain ⟨j, hj⟩ := List.getElem?_of_mem hy
          rw [RP.nm (hrr i e j y hi hj)] at hm
          cases hm
        · intro _ e he y hy
          obtain ⟨i, hi⟩ := List.getElem?_of_mem he
          obtain ⟨j, hj⟩ := List.getElem?_of_mem hy
          exact RP.isPr (hrr i e j y hi hj)
        · intro j v hj
          rw [List.getElem?_take] at hj
          split at hj
          · rw [List.getElem?_drop, Array.getElem?_toList] at hj
            rw [Addr.add_mid, cell_of (hs.hsub _ _ hb)]
            exact hj
          · cases hj
    · cases he
  · cases he
    have hr : RP h _ _ := hr
    cases hr
    exact ⟨rfl, by simp, by simp, .inr ⟨rfl, rfl, 0, rfl⟩⟩
  · rename_i m lo k'
    simp only [Option.bind_eq_some_iff] at he
    obtain ⟨B, e1, he⟩ := he
    split at he
    · rename_i hq
      obtain ⟨hq, hle⟩ := hq
      cases he
      have hlen : ((B.els.drop lo).take k).length = k := by simp; omega
      have hmem : ∀ e ∈ (B.els.drop lo).take k, e ∈ B.els := fun e he => List.mem_of_mem_drop (List.mem_of_mem_take he)
      refine ⟨hlen, ?_, ?_, ?_⟩
      · intro m' hm
        simp only [List.mem_flatMap] at hm
        obtain ⟨e, he, y, hy, hm⟩ := hm
        exact (hs.hnb m B e1).2 m' (by simp only [Blk.nms, List.mem_flatMap]; exact ⟨e, hmem e he, y, hy, hm⟩)
      · intro hp e he y hy
        exact hs.hpr m B e1 hp e (hmem e he) y hy
      · have hb := hs.hmem m B e1
        unfold RB at hb
        rcases hr with ⟨L, cap, hL, hx, hcap, hkc, hmax⟩ | ⟨hL, hb0, hk0, hx⟩
        · rw [hL] at hb
          obtain ⟨C, h1, h2, h3, h4⟩ := hb
          rw [hq] at h3 h4
          have hf := RF.ofCells (ι := ι) (h := h) (C := C) (off := lo * es) (els := (B.els.drop lo).take k) hes (fun i e he => by
            rw [List.getElem?_take] at he
            split at he
            · rw [List.getElem?_drop] at he
              obtain ⟨q1, q2⟩ := h4 _ e he
              refine ⟨q1, fun j y hy => ?_⟩
              obtain ⟨v, q3, q4⟩ := q2 j y hy
              refine ⟨v, ?_, q4⟩
              rw [← q3, Nat.add_mul]
              congr 1
              omega
            · cases he)
          rw [h3] at hx
          refine .inl ⟨⟨L.b, lo * es, none⟩, cap, hx, _, hf, ?_⟩
          intro j v hj
          rw [List.getElem?_take] at hj
          split at hj
          · rw [List.getElem?_drop, Array.getElem?_toList] at hj
            rw [Addr.add_mid, cell_of h1]
            exact hj
          · cases hj
        · rw [hL] at hb
          refine .inr ⟨hk0, ?_, 0, hx⟩
          simp [hb]
    · cases he
  · cases he

theorem append_nothing {t ty e : TypeId} {i : TypeInfo} (ht : P.underlying t = some (.slice e)) (hi : P.info? e = some i) (base : Option Addr) (sLen sCap : Nat) (hle : sLen ≤ sCap) (A : Option Addr) (c' : Nat) :
    (Builtin.append_ #[t, t] ty #[.slice base sLen sCap, .slice A 0 c']).run P w = .ok (.slice base sLen sCap) w := by
  have hz : ∀ q, (Builtin.firstCells i.size 0 (.slice A q c')).run P w = .ok #[] w := by
    intro q
    cases A <;> simp [Builtin.firstCells, loadCells, loadCellsFrom]
  cases base with
  | none => simp [Builtin.append_, run_underlying ht, run_sizeOf hi, Builtin.lenOf, hle, hz]
  | some b => simp [Builtin.append_, run_underlying ht, run_sizeOf hi, Builtin.lenOf, hle, hz, storeCells]

theorem mget_updM_snoc (m : Mem) (u : Mem) (k : Nat) (b : Option Blk) : updM m (u ++ [(k, b)]) = set1 (updM m u) (k, b) := by
  induction u generalizing m with
  | nil => rfl
  | cons p u ih => simp only [List.cons_append, updM, ih]

theorem append_sound (hT : TyOk P c.T) (hs : Sim n w0 M0 U ι h fr mem a w) {t : TypeId} {s x : At} {vs vx : Value} (hf : ∀ m, nx ≤ m → m < e.nn → ¬ U m) (hrs : RA ι h s vs) (hrx : RA ι h x vx) (hns : ∀ m ∈ s.nm, U m)
    (he : stpAppend c t s x mem nx = some e) (ty : TypeId) :
    ∃ u w', (Builtin.append_ #[t, t] ty #[vs, vx]).run P w = .ok u w' ∧ Nxt n w0 M0 U ι h fr mem nx e a u w' := by
  unfold stpAppend at he
  split at he
  · rename_i et ht
    simp only [Option.bind_eq_some_iff] at he
    obtain ⟨te, e1, ⟨k, els, pr, rd⟩, e2, ⟨bels, bn, bpr, brd⟩, e3, he⟩ := he
    split at he
    · rename_i hc
      obtain ⟨c1, c2, c3, c4⟩ := hc
      cases he
      obtain ⟨D, hD, rfl, -⟩ := tdOf_ok hT ht
      obtain ⟨ti, ht1, ht2, ht3⟩ := (hT et te e1).info
      obtain ⟨hkl, hnm, hpr, hsrc⟩ := hs.elsOf c2 hrx e2
      simp only at c1
      have h63 : bn + k ≤ maxLen := by
        have : (bn + k) * 1 ≤ (bn + k) * te.bytes := Nat.mul_le_mul_left _ c3
        simp [maxLen]
        omega
      -- what the old slice is
      have hbase : (vs = .slice none 0 0 ∧ bn = 0 ∧ bels = [] ∧ bpr = true ∧ brd = []) ∨
          (∃ m B L cap C, s = .sm m 0 bn ∧ mget mem m = some B ∧ ι m = some L ∧ vs = .slice (some ⟨L.b, 0, none⟩) bn cap ∧ cap * te.size = L.sz ∧ bn ≤ cap ∧ cap ≤ maxLen ∧ w.heap[L.b]? = some (.cells C et (0, 0)) ∧ C.size = L.sz ∧
            L.es = te.size ∧ RBs ι h C te.size B.els ∧ bn ≤ B.els.length ∧ B.fz = false ∧ bels = B.els.take bn ∧ bpr = B.pr ∧ brd = [m]) ∨
          (∃ m B, s = .sm m 0 0 ∧ mget mem m = some B ∧ ι m = none ∧ vs = .slice none 0 0 ∧ bn = 0 ∧ bels = [] ∧ bpr = B.pr ∧ brd = [m]) := by
        split at e3
        · cases e3
          have hrs : RP h _ _ := hrs
          cases hrs
          exact .inl ⟨rfl, rfl, rfl, rfl, rfl⟩
        · rename_i m lo k'
          simp only [Option.bind_eq_some_iff] at e3
          obtain ⟨B, e4, e3⟩ := e3
          split at e3
          · rename_i hq
            obtain ⟨q1, q2, q3, q4, q5⟩ := hq
            cases e3
            subst q1
            have hb := hs.hmem m B e4
            unfold RB at hb
            rcases hrs with ⟨L, cap, hL, hx, hcap, hkc, hmax⟩ | ⟨hL, hb0, hk0, hx⟩
            · rw [hL] at hb
              obtain ⟨C, h1, h2, h3, h4⟩ := hb
              rw [q2] at h3 h4
              rw [q3] at h1
              refine .inr (.inl ⟨m, B, L, cap, C, rfl, e4, hL, by rw [hx]; simp, by rw [← h3, ← hcap]; simp, hkc, hmax, h1, h2, h3, h4, q4, by simpa using q5, rfl, rfl, rfl⟩)
            · rw [hL] at hb
              subst hk0
              exact .inr (.inr ⟨m, B, rfl, e4, hL, hx, rfl, by simp, rfl, rfl⟩)
          · cases e3
        · cases e3
      -- the memory without the old name
      have hmem1 : ∃ mem1, (∀ b, updM mem (brd.map (fun m => (m, none)) ++ [(nx, some b)]) = set1 mem1 (nx, some b)) ∧ Sim n w0 M0 U ι h fr mem1 a w ∧ (∀ m B, mget mem1 m = some B → mget mem m = some B ∧ m ∉ brd) := by
        rcases hbase with ⟨_, _, _, _, rfl⟩ | ⟨m, B, L, cap, C, _, _, _, _, _, _, _, _, _, _, _, _, _, _, _, rfl⟩ | ⟨m, B, _, _, _, _, _, _, _, rfl⟩
        · exact ⟨mem, fun b => rfl, hs, fun m B e => ⟨e, by simp⟩⟩
        all_goals
          refine ⟨set1 mem (m, none), fun b => rfl, hs.drop m, fun m' B' e => ?_⟩
          rw [mget_set1] at e
          by_cases hq : m = m'
          · rw [if_pos hq] at e; cases e
          · rw [if_neg hq] at e; exact ⟨e, by simp; exact Ne.symm hq⟩
      obtain ⟨mem1, hm1, hs1, hm2⟩ := hmem1
      have hbpr : bpr = true → ∀ e ∈ bels, ∀ y ∈ e, y.pr = true := by
        rcases hbase with ⟨_, _, rfl, _, _⟩ | ⟨m, B, L, cap, C, _, hB, _, _, _, _, _, _, _, _, _, _, _, rfl, rfl, _⟩ | ⟨m, B, _, _, _, _, _, rfl, _, _⟩
        · simp
        · intro hp e he y hy
          exact hs.hpr m B hB hp e (List.mem_of_mem_take he) y hy
        · simp
      have hbnm : ∀ m' ∈ bels.flatMap (fun e => e.flatMap At.nm), U m' := by
        rcases hbase with ⟨_, _, rfl, _, _⟩ | ⟨m, B, L, cap, C, _, hB, _, _, _, _, _, _, _, _, _, _, _, rfl, rfl, _⟩ | ⟨m, B, _, _, _, _, _, rfl, _, _⟩
        · simp
        · intro m' hm'
          simp only [List.mem_flatMap] at hm'
          obtain ⟨e, he, y, hy, hm'⟩ := hm'
          exact (hs.hnb m B hB).2 m' (by simp only [Blk.nms, List.mem_flatMap]; exact ⟨e, List.mem_of_mem_take he, y, hy, hm'⟩)
        · simp
      have hprB : (bpr && pr) = true → ∀ e ∈ bels ++ els, ∀ y ∈ e, y.pr = true := by
        intro hp e he
        rw [Bool.and_eq_true] at hp
        rcases List.mem_append.1 he with h' | h'
        · exact hbpr hp.1 e h'
        · exact hpr hp.2 e h'
      have hnmB : ∀ m' ∈ (bels ++ els).flatMap (fun e => e.flatMap At.nm), U m' := by
        intro m' hm'
        rw [List.flatMap_append, List.mem_append] at hm'
        rcases hm' with h' | h'
        · exact hbnm m' h'
        · exact hnm m' h'
      have hfU : ¬ U nx := hf nx (Nat.le_refl _) (Nat.lt_succ_self _)
      -- the end, where the answer is nil
      have hnil : ∀ w', Sim n w0 M0 U ι h fr mem1 a w' → bn + k = 0 → ∀ u, u = .slice none 0 0 → Nxt n w0 M0 U ι h fr mem nx
          { v := .v (.a (.sm nx 0 (bn + k))), upd := brd.map (fun m => (m, none)) ++ [(nx, some (Blk.mk (bels ++ els) te.size et (bpr && pr) false))], nn := nx + 1, rd := brd ++ rd } a u w' := by
        intro w' hs1 h0 u hu
        have hb0 : bels ++ els = [] := by
          have h1 : els = [] := List.eq_nil_of_length_eq_zero (by omega)
          have h2 : bels = [] := by
            rcases hbase with ⟨_, _, rfl, _, _⟩ | ⟨m, B, L, cap, C, _, hB, _, _, _, _, _, _, _, _, _, _, _, rfl, rfl, _⟩ | ⟨m, B, _, _, _, _, _, rfl, _, _⟩
            · rfl
            · have : bn = 0 := by omega
              subst this
              simp
            · rfl
          rw [h1, h2]; rfl
        have hιn : ι nx = none := by
          cases hL : ι nx with
          | none => rfl
          | some L => exact absurd (hs.hdom nx L hL).1 hfU
        refine ⟨ι, h, Sub.refl h, fun _ _ => rfl, ?_, ?_, ?_, Nat.le_succ _, fun _ _ _ => rfl⟩
        · simp only
          rw [hm1]
          exact (hs1.nameNil nx hfU (Blk.mk (bels ++ els) te.size et (bpr && pr) false) hb0).weak fun m hm => by
            rcases hm with hm | rfl
            · exact .inl hm
            · exact .inr ⟨Nat.le_refl _, Nat.lt_succ_self _⟩
        · rw [h0]; exact .inr ⟨hιn, rfl, rfl, hu⟩
        · intro m hm
          simp [Sv.nms, namesV, Vl.cells, At.nm] at hm
          exact .inr ⟨by omega, by show m < nx + 1; omega⟩
      -- the cells of the old slice
      have hown : ∃ xs, w.ownsRow 0 et te.size vs bn xs ∧ RF ι h xs te.size bels ∧ (∀ g, vs.ownBlock = some g → h g = none ∧ (w0.heap.size ≤ g ∨ M0 false g) ∧ (w0.heap.size ≤ g ∨ M0 true g) ∧ (∀ m B L, mget mem1 m = some B → ι m = some L → L.b ≠ g)) := by
        have hnilc : vs = .slice none 0 0 → bn = 0 → bels = [] → ∃ xs, w.ownsRow 0 et te.size vs bn xs ∧ RF ι h xs te.size bels ∧ (∀ g, vs.ownBlock = some g → h g = none ∧ (w0.heap.size ≤ g ∨ M0 false g) ∧ (w0.heap.size ≤ g ∨ M0 true g) ∧ (∀ m B L, mget mem1 m = some B → ι m = some L → L.b ≠ g)) := by
          rintro rfl rfl rfl
          exact ⟨[], ⟨by simp, .inl ⟨rfl, rfl⟩⟩, ⟨by simp, by simp⟩, by intro g hg; cases hg⟩
        rcases hbase with ⟨q1, q2, q3, _, _⟩ | ⟨m, B, L, cap, C, q0, hB, hL, q1, q2, q3, q4, q5, q6, q7, q8, q9, q10, rfl, _, rfl⟩ | ⟨m, B, _, _, _, q1, q2, q3, _, _⟩
        · exact hnilc q1 q2 q3
        · subst q1
          have hf := RF.ofCells (ι := ι) (h := h) (C := C) (off := 0) (els := B.els.take bn) c2 (fun i e he => by
            rw [List.getElem?_take] at he
            split at he
            · obtain ⟨r1, r2⟩ := q8 i e he
              exact ⟨r1, fun j y hy => by
                obtain ⟨v, r3, r4⟩ := r2 j y hy
                exact ⟨v, by rw [← r3]; congr 1; omega, r4⟩⟩
            · cases he)
          have hbl : (B.els.take bn).length = bn := by simp; omega
          rw [hbl, List.drop_zero] at hf
          refine ⟨C.toList.take (bn * te.size), ⟨by rw [hf.1, hbl], .inr ⟨L.b, cap, C, rfl, Nat.zero_le _, q5, q3, q4, by rw [q6, q2], rfl⟩⟩, hf, ?_⟩
          intro g hg
          simp [Value.ownBlock] at hg
          subst hg
          refine ⟨hs.hmut m B L hB q10 hL, hs.hown m B L hB q10 hL, hs.hown2 m B L hB hL, ?_⟩
          intro m' B' L' e' l' hq
          obtain ⟨r1, r2⟩ := hm2 m' B' e'
          exact r2 (by simp; exact hs.hinj m' m B' B L' L r1 hB l' hL hq)
        · exact hnilc q1 q2 q3
      have hnew : ∀ (w' : World) (hs1 : Sim n w0 M0 U ι h fr mem1 a w') (g cap : Nat) (cur : Array Value) (cells : List Value), w'.heap[g]? = some (.cells cur et (0, 0)) → cur.size = cap * te.size → bn + k ≤ cap → cap ≤ maxLen →
          cur.toList.take ((bn + k) * te.size) = cells → RF ι h cells te.size (bels ++ els) → (∀ m' B' L', mget mem1 m' = some B' → ι m' = some L' → L'.b ≠ g) → h g = none → (w0.heap.size ≤ g ∨ M0 false g) → (w0.heap.size ≤ g ∨ M0 true g) →
          Nxt n w0 M0 U ι h fr mem nx { v := .v (.a (.sm nx 0 (bn + k))), upd := brd.map (fun m => (m, none)) ++ [(nx, some (Blk.mk (bels ++ els) te.size et (bpr && pr) false))], nn := nx + 1, rd := brd ++ rd } a
            (.slice (some ⟨g, 0, none⟩) (bn + k) cap) w' := by
        intro w' hs1 g cap cur cells hg hsz hle hmax htake hrf hno hh hown hown2
        have hr : RBs ι h cur te.size (bels ++ els) := by
          intro i el hel
          obtain ⟨q1, q2⟩ := hrf.2 i el hel
          refine ⟨q1, fun j y hy => ?_⟩
          obtain ⟨u, q3, q4⟩ := q2 j y hy
          refine ⟨u, ?_, q4⟩
          rw [← htake, List.getElem?_take] at q3
          split at q3
          · rwa [Array.getElem?_toList] at q3
          · cases q3
        refine ⟨ι.set nx ⟨g, cur.size, te.size⟩, h, Sub.refl h, fun m hm => by unfold Io.set; rw [if_neg]; rintro rfl; exact hm ⟨Nat.le_refl _, Nat.lt_succ_self _⟩, ?_, ?_, ?_, Nat.le_succ _, fun _ _ _ => rfl⟩
        · simp only
          rw [hm1]
          exact (hs1.name nx hfU (Blk.mk (bels ++ els) te.size et (bpr && pr) false) ⟨g, cur.size, te.size⟩ hg rfl rfl hr rfl hno hh hown hown2 hnmB hprB).weak fun m hm => by
            rcases hm with hm | rfl
            · exact .inl hm
            · exact .inr ⟨Nat.le_refl _, Nat.lt_succ_self _⟩
        · exact .inl ⟨⟨g, cur.size, te.size⟩, cap, by simp [Io.set], by simp, by simp [hsz], hle, hmax⟩
        · intro m hm
          simp [Sv.nms, namesV, Vl.cells, At.nm] at hm
          exact .inr ⟨by omega, by show m < nx + 1; omega⟩
      obtain ⟨i, z, hi, hzv, hzs, _, _⟩ := (hT et te e1).zero c4
      rw [ht1] at hi
      cases hi
      obtain ⟨xs, ho1, ho2, ho3⟩ := hown
      rcases hsrc with ⟨A, c', rfl, cells, hcf, hcell⟩ | ⟨hk0, hels, c', rfl⟩
      · have hone : ∀ u ∈ cells, u.oneCell' = true := by
          intro u hu
          obtain ⟨q, hq⟩ := List.getElem?_of_mem hu
          have hql : q < els.length * te.size := by
            rw [← hcf.1]
            rcases Nat.lt_or_ge q cells.length with h' | h'
            · exact h'
            · rw [List.getElem?_eq_none (by omega)] at hq; cases hq
          have hqi : q / te.size < els.length := Nat.div_lt_of_lt_mul (by rw [Nat.mul_comm]; exact hql)
          obtain ⟨r1, r2⟩ := hcf.2 (q / te.size) _ (List.getElem?_eq_getElem hqi)
          have hqj : q % te.size < els[q / te.size].length := by rw [r1]; exact Nat.mod_lt _ c2
          obtain ⟨u', r3, r4⟩ := r2 (q % te.size) _ (List.getElem?_eq_getElem hqj)
          rw [Nat.mul_comm, Nat.div_add_mod, hq] at r3
          cases r3
          exact r4.oneCell
        obtain ⟨v', w', r1, r2, r3, r4, r5⟩ := run_append_own_at (P := P) (w := w) 0 t ty et ti z te.size te.bytes hD ht1 hzv ht2 ht3 hzs c2 vs bn xs ho1 A k c' cells (by rw [hcf.1, hkl]) hcell hone h63 (by simpa using c1) (Nat.zero_le _)
        refine ⟨v', w', r1, ?_⟩
        have hs1' : Sim n w0 M0 U ι h fr mem1 a w' := hs1.grown r3 fun g hg => ⟨(ho3 g hg).2.2.2, (ho3 g hg).1, (ho3 g hg).2.1⟩
        rcases r2.2 with ⟨q1, q2⟩ | ⟨g, cap, cur, rfl, _, q1, q2, q3, q4, q5⟩
        · exact hnil w' hs1' q2 v' q1
        · refine hnew w' hs1' g cap cur _ q1 q4 q2 q3 q5 (ho2.append hcf) ?_ ?_ ?_ ?_
          · intro m' B' L' e' l' hq
            rcases r5 with r5 | r5
            · exact (ho3 g (by rw [← r5]; rfl)).2.2.2 m' B' L' e' l' hq
            · simp [Value.ownBlock] at r5
              have := (hs1.hdom m' L' l').2
              omega
          · rcases r5 with r5 | r5
            · exact (ho3 g (by rw [← r5]; rfl)).1
            · simp [Value.ownBlock] at r5
              subst r5
              cases hq : h w.heap.size with
              | none => rfl
              | some o => exact absurd (hs.hlt hq) (by omega)
          · rcases r5 with r5 | r5
            · exact (ho3 g (by rw [← r5]; rfl)).2.1
            · simp [Value.ownBlock] at r5
              subst r5
              exact .inl hs.hgrow
          · rcases r5 with r5 | r5
            · exact (ho3 g (by rw [← r5]; rfl)).2.2.1
            · simp [Value.ownBlock] at r5
              subst r5
              exact .inl hs.hgrow
      · subst hk0
        subst hels
        rcases ho1.2 with ⟨q1, q2⟩ | ⟨g, cap, cur, rfl, _, q1, q2, q3, q4, q5⟩
        · subst q1
          subst q2
          exact ⟨_, w, append_nothing hD ht1 none 0 0 (Nat.le_refl _) none c', hnil w hs1 rfl _ rfl⟩
        · refine ⟨_, w, append_nothing hD ht1 _ bn cap q2 none c', ?_⟩
          have := hnew w hs1 g cap cur xs q1 q4 (by omega) q3 (by simpa using q5) (by simpa using ho2) (ho3 g rfl).2.2.2 (ho3 g rfl).1 (ho3 g rfl).2.1 (ho3 g rfl).2.2.1
          simpa using this
    · cases he
  · cases he

end
end Go.Proofs.Ytghdpmejgonjmaa.Am

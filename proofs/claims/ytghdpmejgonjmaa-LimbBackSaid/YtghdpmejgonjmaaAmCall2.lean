/- Calls: what is handed over, and what is handed back. -/
import Derived.Test.YtghdpmejgonjmaaAmCall
set_option linter.unusedVariables false
set_option linter.unusedSimpArgs false
namespace Go.Proofs.Ytghdpmejgonjmaa.Am
open Go

section
variable {P : Program} {n : Nat} {w0 : World} {M0 : Bool → Nat → Prop} {U : Nat → Prop} {ι : Io} {h h1 : Hp} {fr : List (Nat × Sv)} {mem mem1 : Mem} {a : Act} {w w' : World}
  {c : Cfg} {callF : FuncId → List Vl → List Blk → Option (List Vl × List Blk)} {o : Oper} {nx : Nat} {e : Eff}

/-- What blocks F lead to can be read for good. -/
def Vw (ι : Io) (mem : Mem) (w : World) (h1 : Hp) (F : List Nat) : Prop := ∀ m ∈ F, ∀ B L, mget mem m = some B → ι m = some L → h1 L.b = w.heap[L.b]?

/-- One memory is the other one, but for blocks that only read by now. -/
def Fzn (mem mem1 : Mem) : Prop := ∀ m, mget mem1 m = mget mem m ∨ ∃ b, mget mem m = some b ∧ mget mem1 m = some { b with fz := true }

theorem Sim.freezeL (F : List Nat) : ∀ {mem1 : Mem} {h : Hp}, Sim n w0 M0 U ι h fr mem1 a w → Fzn mem mem1 →
    ∃ h1, Sub h h1 ∧ Vw ι mem w h1 F ∧ (∀ b, (∀ m ∈ F, ∀ B L, mget mem m = some B → ι m = some L → L.b ≠ b) → h1 b = h b) ∧ Sim n w0 M0 U ι h1 fr (updM mem1 (fzUpd mem F)) a w ∧ Fzn mem (updM mem1 (fzUpd mem F)) := by
  induction F with
  | nil => intro mem1 h hs hz; exact ⟨h, Sub.refl h, fun m hm => (by cases hm), fun _ _ => rfl, hs, hz⟩
  | cons m F ih =>
    intro mem1 h hs hz
    cases hB : mget mem m with
    | none =>
      simp only [fzUpd, hB]
      obtain ⟨h1, r1, r2, r3, r4, r5⟩ := ih hs hz
      refine ⟨h1, r1, ?_, ?_, r4, r5⟩
      · intro m' hm' B L e l
        rcases List.mem_cons.1 hm' with rfl | hm'
        · rw [hB] at e; cases e
        · exact r2 m' hm' B L e l
      · intro b hb
        exact r3 b fun m' hm' => hb m' (List.mem_cons_of_mem _ hm')
    | some B =>
      simp only [fzUpd, hB, updM]
      have hB1 : ∃ B1, mget mem1 m = some B1 ∧ ({ B1 with fz := true } : Blk) = { B with fz := true } := by
        rcases hz m with e | ⟨b, e1, e2⟩
        · exact ⟨B, by rw [e, hB], rfl⟩
        · rw [hB] at e1; cases e1; exact ⟨_, e2, rfl⟩
      obtain ⟨B1, e1, e2⟩ := hB1
      obtain ⟨h2, s1, s2, s4, s3⟩ := hs.freeze e1
      rw [e2] at s3
      have hz2 : Fzn mem (set1 mem1 (m, some { B with fz := true })) := by
        intro x
        rw [mget_set1]
        by_cases hx : m = x
        · rw [if_pos hx]; exact .inr ⟨B, by rw [← hx, hB], rfl⟩
        · rw [if_neg hx]; exact hz x
      obtain ⟨h1, r1, r2, r3, r4, r5⟩ := ih s3 hz2
      refine ⟨h1, s1.trans r1, ?_, ?_, r4, r5⟩
      · intro m' hm' B' L e l
        rcases List.mem_cons.1 hm' with rfl | hm'
        · have hq := s2 L l
          have hb := hs.hmem m' B1 e1
          unfold RB at hb
          rw [l] at hb
          obtain ⟨C, q1, _⟩ := hb
          rw [q1] at hq ⊢
          exact r1 _ _ hq
        · exact r2 m' hm' B' L e l
      · intro b hb
        rw [r3 b fun m' hm' => hb m' (List.mem_cons_of_mem _ hm')]
        exact s4 b fun L hL hq => hb m (List.mem_cons_self ..) B L hB hL hq.symm

theorem Fzn.refl (mem : Mem) : Fzn mem mem := fun _ => .inl rfl
theorem Fzn.of (hz : Fzn mem mem1) {m : Nat} {B : Blk} (e : mget mem1 m = some B) : ∃ B0, mget mem m = some B0 ∧ B.els = B0.els ∧ B.es = B0.es ∧ B.ty = B0.ty ∧ B.pr = B0.pr ∧ (B.fz = false → B0.fz = false) := by
  rcases hz m with q | ⟨b, q1, q2⟩
  · exact ⟨B, by rw [← q, e], rfl, rfl, rfl, rfl, id⟩
  · rw [e] at q2; cases q2; exact ⟨b, q1, rfl, rfl, rfl, rfl, fun hq => by cases hq⟩

theorem frzA_sound (hs : Sim n w0 M0 U ι h fr mem a w) (hsub : Sub h h1) {x y : At} {v : Value} (hv : Vw ι mem w h1 x.smn) (hr : RA ι h x v) (e : frzA mem x = some y) :
    RA ι h1 y v ∧ (∀ m ∈ y.nm, m ∈ x.ptrs) := by
  cases x with
  | sm m lo k =>
    simp only [frzA, Option.bind_eq_some_iff] at e
    obtain ⟨B, e1, e⟩ := e
    split at e
    · rename_i hc
      cases e
      refine ⟨?_, by intro m hm; cases hm⟩
      have hb := hs.hmem m B e1
      unfold RB at hb
      rcases hr with ⟨L, cap, hL, rfl, hcap, hkc, hmax⟩ | ⟨hL, rfl, rfl, rfl⟩
      · rw [hL] at hb
        obtain ⟨C, b1, b2, b3, b4⟩ := hb
        have hh := hv m (by simp [At.smn]) B L e1 hL
        rw [b1] at hh
        have hpr := hs.hpr m B e1 hc.1
        refine .sl (h := h1) k _ L.b (lo * L.es) cap B.es C B.ty (0, 0) (fun i j => (C[lo * L.es + (i * B.es + j)]?).getD default) hh (by simp; omega) hkc ?_ ?_ ?_
        · intro i el hi
          rw [List.getElem?_take] at hi
          split at hi
          · rw [List.getElem?_drop] at hi; exact (b4 _ el hi).1
          · cases hi
        · intro i el j x hi hj
          rw [List.getElem?_take] at hi
          split at hi
          · rw [List.getElem?_drop] at hi
            obtain ⟨u, q1, q2⟩ := (b4 _ el hi).2 j x hj
            have : C[lo * L.es + (i * B.es + j)]? = some u := by rw [← q1, b3, Nat.add_mul]; congr 1; omega
            rw [this]; rfl
          · cases hi
        · intro i el j x hi hj
          rw [List.getElem?_take] at hi
          split at hi
          · rw [List.getElem?_drop] at hi
            obtain ⟨u, q1, q2⟩ := (b4 _ el hi).2 j x hj
            have : C[lo * L.es + (i * B.es + j)]? = some u := by rw [← q1, b3, Nat.add_mul]; congr 1; omega
            simp only [this, Option.getD_some]
            exact RP.mono hsub (RA.toRP (hpr el (List.mem_of_getElem? hi) x (List.mem_of_getElem? hj)) q2)
          · cases hi
      · rw [hL] at hb
        rw [hb]
        simp
        exact .sl0 _ _ _
    · cases e
  | snil es ty =>
    cases e
    have hr : RP h _ _ := hr
    cases hr
    exact ⟨.sl0 _ _ _, by intro m hm; cases hm⟩
  | ptr m i o =>
    cases e
    obtain ⟨L, hL, hv⟩ := hr
    exact ⟨⟨L, hL, hv⟩, by intro m hm; simpa [At.nm, At.ptrs] using hm⟩
  | _ =>
    cases e
    exact ⟨RP.mono hsub hr, by intro m hm; cases hm⟩

theorem frzL_sound (hs : Sim n w0 M0 U ι h fr mem a w) (hsub : Sub h h1) {cs ds : List At} {us : List Value} (hv : Vw ι mem w h1 (cs.flatMap At.smn)) (hr : RL ι h cs us) (e : mapO (frzA mem) cs = some ds) :
    RL ι h1 ds us ∧ (∀ m ∈ ds.flatMap At.nm, m ∈ cs.flatMap At.ptrs) := by
  obtain ⟨e1, _⟩ := mapO_some e
  constructor
  · refine ⟨by rw [e1]; exact hr.1, fun j y hy => ?_⟩
    obtain ⟨x, hx, hxy⟩ := mapO_some_inv e j y hy
    obtain ⟨u, hu, hr'⟩ := hr.2 j x hx
    exact ⟨u, hu, (frzA_sound hs hsub (fun m hm => hv m (List.mem_flatMap.2 ⟨x, List.mem_of_getElem? hx, hm⟩)) hr' hxy).1⟩
  · intro m hm
    obtain ⟨y, hy, hm⟩ := List.mem_flatMap.1 hm
    obtain ⟨j, hj⟩ := List.getElem?_of_mem hy
    obtain ⟨x, hx, hxy⟩ := mapO_some_inv e j y hj
    refine List.mem_flatMap.2 ⟨x, List.mem_of_getElem? hx, ?_⟩
    cases x <;> simp only [frzA, Option.bind_eq_some_iff] at hxy
    case sm => obtain ⟨B, _, hxy⟩ := hxy; split at hxy <;> cases hxy; cases hm
    all_goals (cases hxy; first | (simp only [At.ptrs]; exact hm) | cases hm)

theorem frzV_sound (hs : Sim n w0 M0 U ι h fr mem a w) (hsub : Sub h h1) {x y : Vl} {v : Value} (hv : Vw ι mem w h1 (x.cells.flatMap At.smn)) (hr : RV ι h x v) (e : frzV mem x = some y) :
    RV ι h1 y v ∧ (∀ m ∈ namesV [y], m ∈ x.cells.flatMap At.ptrs) := by
  cases x with
  | a x =>
    simp only [frzV, Option.bind_eq_some_iff] at e
    obtain ⟨z, e1, e2⟩ := e
    cases e2
    obtain ⟨q1, q2⟩ := frzA_sound hs hsub (by simpa [Vl.cells] using hv) hr e1
    exact ⟨q1, by intro m hm; simpa [Vl.cells] using q2 m (by simpa [namesV, Vl.cells] using hm)⟩
  | g cs =>
    simp only [frzV, Option.bind_eq_some_iff] at e
    obtain ⟨ds, e1, e2⟩ := e
    cases e2
    obtain ⟨A, hA, hl⟩ := hr
    obtain ⟨q1, q2⟩ := frzL_sound hs hsub hv hl e1
    exact ⟨⟨A, hA, q1⟩, by intro m hm; exact q2 m (by simpa [namesV, Vl.cells] using hm)⟩

theorem frzVs_sound (hs : Sim n w0 M0 U ι h fr mem a w) (hsub : Sub h h1) {xs ys : List Vl} {vs : List Value} (hv : Vw ι mem w h1 (smnV xs)) (hr : RVs ι h xs vs) (e : mapO (frzV mem) xs = some ys) :
    RVs ι h1 ys vs ∧ (∀ m ∈ namesV ys, m ∈ namesV xs) := by
  obtain ⟨e1, _⟩ := mapO_some e
  constructor
  · refine ⟨by rw [e1]; exact hr.1, fun j y hy => ?_⟩
    obtain ⟨x, hx, hxy⟩ := mapO_some_inv e j y hy
    obtain ⟨u, hu, hr'⟩ := hr.2 j x hx
    exact ⟨u, hu, (frzV_sound hs hsub (fun m hm => hv m (List.mem_flatMap.2 ⟨x, List.mem_of_getElem? hx, hm⟩)) hr' hxy).1⟩
  · intro m hm
    obtain ⟨y, hy, hm⟩ := namesV_mem.1 hm
    obtain ⟨j, hj⟩ := List.getElem?_of_mem hy
    obtain ⟨x, hx, hxy⟩ := mapO_some_inv e j y hj
    obtain ⟨u, hu, hr'⟩ := hr.2 j x hx
    have := (frzV_sound hs hsub (fun m hm => hv m (List.mem_flatMap.2 ⟨x, List.mem_of_getElem? hx, hm⟩)) hr' hxy).2 m hm
    refine namesV_mem.2 ⟨x, List.mem_of_getElem? hx, ?_⟩
    obtain ⟨z, hz, hm'⟩ := List.mem_flatMap.1 this
    simp only [namesV, List.flatMap_cons, List.flatMap_nil, List.append_nil, List.mem_flatMap]
    refine ⟨z, hz, ?_⟩
    cases z <;> simp [At.ptrs] at hm' ⊢
    simp [At.nm, hm']

theorem frzBs_sound (hs : Sim n w0 M0 U ι h fr mem a w) (hsub : Sub h h1) {C : Array Value} {es : Nat} {els fls : List (List At)} (hv : Vw ι mem w h1 (els.flatMap fun e => e.flatMap At.smn)) (hr : RBs ι h C es els)
    (e : mapO (mapO (frzA mem)) els = some fls) : RBs ι h1 C es fls := by
  intro i el hi
  obtain ⟨el', hi', he'⟩ := mapO_some_inv e i el hi
  obtain ⟨q1, q2⟩ := hr i el' hi'
  refine ⟨by rw [(mapO_some he').1]; exact q1, fun j y hy => ?_⟩
  obtain ⟨x, hx, hxy⟩ := mapO_some_inv he' j y hy
  obtain ⟨u, hu, hr'⟩ := q2 j x hx
  exact ⟨u, hu, (frzA_sound hs hsub (fun m hm => hv m (List.mem_flatMap.2 ⟨el', List.mem_of_getElem? hi', List.mem_flatMap.2 ⟨x, List.mem_of_getElem? hx, hm⟩⟩)) hr' hxy).1⟩
theorem frzA_ptrs {x y : At} (e : frzA mem x = some y) : ∀ m ∈ y.nm, m ∈ x.ptrs := by
  intro m hm
  cases x <;> simp only [frzA, Option.bind_eq_some_iff] at e
  case sm => obtain ⟨B, _, e⟩ := e; split at e <;> cases e; cases hm
  all_goals (cases e; first | (simp only [At.ptrs]; exact hm) | cases hm)
theorem ptrs_nm {x : At} {m : Nat} (hm : m ∈ x.ptrs) : m ∈ x.nm := by cases x <;> simp [At.ptrs] at hm; simp [At.nm, hm]

/-- A block as it is handed over. -/
theorem conv_sound (hs : Sim n w0 M0 U ι h fr mem a w) (hs1 : Sim n w0 M0 U ι h1 fr mem1 a w) (hz : Fzn mem mem1) (hsub : Sub h h1) {cv : Bool} {m : Nat} (hv : cv = false → Vw ι mem w h1 (smnM mem m)) {b b2 : Blk}
    (e1 : mget mem1 m = some b) (e2 : (if cv then some b else frzB mem b) = some b2) :
    b2.es = b.es ∧ b2.ty = b.ty ∧ b2.fz = b.fz ∧ (b2.els = [] ↔ b.els = []) ∧ (∀ m' ∈ b2.nms, m' ∈ b.nms) ∧ (b2.pr = true → ∀ e ∈ b2.els, ∀ x ∈ e, x.pr = true) ∧ RB ι h1 w m b2 := by
  obtain ⟨B0, f1, f2, f3, f4, f5, f6⟩ := hz.of e1
  have hb0 := hs.hmem m B0 f1
  have hb1 := hs1.hmem m b e1
  have same : b2 = b → b2.es = b.es ∧ b2.ty = b.ty ∧ b2.fz = b.fz ∧ (b2.els = [] ↔ b.els = []) ∧ (∀ m' ∈ b2.nms, m' ∈ b.nms) ∧ (b2.pr = true → ∀ e ∈ b2.els, ∀ x ∈ e, x.pr = true) ∧ RB ι h1 w m b2 := by
    rintro rfl
    exact ⟨rfl, rfl, rfl, Iff.rfl, fun _ hm => hm, hs1.hpr m b2 e1, hb1⟩
  split at e2
  · cases e2; exact same rfl
  · rename_i hcv
    have hcv : cv = false := by simpa using hcv
    unfold frzB at e2
    split at e2
    · cases e2; exact same rfl
    · rename_i hp
      simp only [Option.bind_eq_some_iff] at e2
      obtain ⟨els, g1, g2⟩ := e2
      cases g2
      have hl := (mapO_some g1).1
      have hnil : els = [] ↔ b.els = [] := by
        constructor
        · intro h0
          rw [h0] at hl
          exact List.eq_nil_of_length_eq_zero hl.symm
        · intro h0
          rw [h0] at hl
          exact List.eq_nil_of_length_eq_zero hl
      refine ⟨rfl, rfl, rfl, hnil, ?_, fun hq => absurd hq hp, ?_⟩
      · intro m' hm'
        simp only [Blk.nms, List.mem_flatMap] at hm' ⊢
        obtain ⟨e, he, y, hy, hm'⟩ := hm'
        obtain ⟨i, hi⟩ := List.getElem?_of_mem he
        obtain ⟨e', hi', he'⟩ := mapO_some_inv g1 i e hi
        obtain ⟨j, hj⟩ := List.getElem?_of_mem hy
        obtain ⟨x, hx, hxy⟩ := mapO_some_inv he' j y hj
        exact ⟨e', List.mem_of_getElem? hi', x, List.mem_of_getElem? hx, ptrs_nm (frzA_ptrs hxy m' hm')⟩
      · unfold RB at hb0 hb1 ⊢
        cases hL : ι m with
        | none => rw [hL] at hb1; exact hnil.2 hb1
        | some L =>
          rw [hL] at hb0 hb1
          obtain ⟨C, q1, q2, q3, q4⟩ := hb0
          refine ⟨C, by rw [q1]; simp [f4], q2, by rw [q3, f3], ?_⟩
          rw [f2] at g1
          simp only
          rw [f3]
          refine frzBs_sound hs hsub ?_ q4 g1
          have := hv hcv
          unfold smnM at this
          rw [f1] at this
          simp only [← f5] at this
          rw [if_neg hp] at this
          exact this

theorem pack_sound (hs : Sim n w0 M0 U ι h fr mem a w) (hs1 : Sim n w0 M0 U ι h1 fr mem1 a w) (hz : Fzn mem mem1) (hsub : Sub h h1) {cv : Bool} {N : List Nat} (hN : N.Nodup) (hv : cv = false → Vw ι mem w h1 (N.flatMap (smnM mem)))
    {bs : List Blk} (e : mapO (fun m => (mget mem1 m).bind fun b => (if cv then some b else frzB mem b).bind (renB (idx N))) N = some bs) :
    Mm (fun j => (N[j]?).bind ι) h1 w bs ∧ bs.length = N.length ∧
    (∀ (i : Nat) (B : Blk), bs[i]? = some B → ∃ m B1, N[i]? = some m ∧ mget mem1 m = some B1 ∧ B.fz = B1.fz) := by
  have hlen := (mapO_some e).1
  have key : ∀ (i : Nat) (B : Blk), bs[i]? = some B → ∃ m B1 b2, N[i]? = some m ∧ mget mem1 m = some B1 ∧ (if cv then some B1 else frzB mem B1) = some b2 ∧ renB (idx N) b2 = some B := by
    intro i B hi
    obtain ⟨m, hm, e1⟩ := mapO_some_inv e i B hi
    simp only [Option.bind_eq_some_iff] at e1
    obtain ⟨B1, e1, b2, e2, e3⟩ := e1
    exact ⟨m, B1, b2, hm, e1, e2, e3⟩
  have hρ : ∀ m m', idx N m = some m' → (fun j => (N[j]?).bind ι) m' = ι m := by
    intro m m' hq
    simp [idx_spec hq]
  have hvm : ∀ m ∈ N, cv = false → Vw ι mem w h1 (smnM mem m) := fun m hm hc m' hm' => hv hc m' (List.mem_flatMap.2 ⟨m, hm, hm'⟩)
  refine ⟨⟨?_, ?_, ?_, hs1.hsub, ?_, ?_, ?_, ?_⟩, hlen, ?_⟩
  · intro i B hi
    obtain ⟨m, B1, b2, k1, k2, k3, k4⟩ := key i B hi
    obtain ⟨c1, c2, c3, c4, c5, c6, c7⟩ := conv_sound hs hs1 hz hsub (hvm m (List.mem_of_getElem? k1)) k2 k3
    obtain ⟨d1, d2, d3, d4, d5, d6, d7, d8⟩ := renB_spec k4 c6
    unfold RB at c7 ⊢
    simp only [k1, Option.bind_some]
    cases hL : ι m with
    | none => rw [hL] at c7; exact d5.2 c7
    | some L =>
      rw [hL] at c7
      obtain ⟨C, q1, q2, q3, q4⟩ := c7
      exact ⟨C, by rw [q1, d2], q2, by rw [q3, d1], d8 q4 hρ⟩
  · intro i B hi m' hm'
    obtain ⟨m, B1, b2, k1, k2, k3, k4⟩ := key i B hi
    obtain ⟨c1, c2, c3, c4, c5, c6, c7⟩ := conv_sound hs hs1 hz hsub (hvm m (List.mem_of_getElem? k1)) k2 k3
    obtain ⟨d1, d2, d3, d4, d5, d6, d7, d8⟩ := renB_spec k4 c6
    obtain ⟨q, _, hq⟩ := d6 m' hm'
    have := idx_spec hq
    rw [hlen]
    rcases Nat.lt_or_ge m' N.length with h' | h'
    · exact h'
    · rw [List.getElem?_eq_none (by omega)] at this; cases this
  · intro i j B B' L L' hi hj l l' hq
    obtain ⟨m, B1, b2, k1, k2, k3, k4⟩ := key i B hi
    obtain ⟨m', B1', b2', k1', k2', k3', k4'⟩ := key j B' hj
    simp only [k1, k1', Option.bind_some] at l l'
    have := hs1.hinj m m' B1 B1' L L' k2 k2' l l' hq
    subst this
    exact (List.getElem?_inj (by
      rcases Nat.lt_or_ge i N.length with h' | h'
      · exact h'
      · rw [List.getElem?_eq_none (by omega)] at k1; cases k1) hN).1 (by rw [k1, k1'])
  · intro i B L hi hf l
    obtain ⟨m, B1, b2, k1, k2, k3, k4⟩ := key i B hi
    obtain ⟨c1, c2, c3, c4, c5, c6, c7⟩ := conv_sound hs hs1 hz hsub (hvm m (List.mem_of_getElem? k1)) k2 k3
    obtain ⟨d1, d2, d3, d4, d5, d6, d7, d8⟩ := renB_spec k4 c6
    simp only [k1, Option.bind_some] at l
    exact hs1.hmut m B1 L k2 (by rw [← c3, ← d4]; exact hf) l
  · intro i B L hi hf l
    obtain ⟨m, B1, b2, k1, k2, k3, k4⟩ := key i B hi
    obtain ⟨c1, c2, c3, c4, c5, c6, c7⟩ := conv_sound hs hs1 hz hsub (hvm m (List.mem_of_getElem? k1)) k2 k3
    obtain ⟨d1, d2, d3, d4, d5, d6, d7, d8⟩ := renB_spec k4 c6
    simp only [k1, Option.bind_some] at l
    exact hs1.hfrz m B1 L k2 (by rw [← c3, ← d4]; exact hf) l
  · intro i B L hi l
    obtain ⟨m, B1, b2, k1, k2, k3, k4⟩ := key i B hi
    simp only [k1, Option.bind_some] at l
    exact (hs1.hdom m L l).2
  · intro i B hi hp
    obtain ⟨m, B1, b2, k1, k2, k3, k4⟩ := key i B hi
    obtain ⟨c1, c2, c3, c4, c5, c6, c7⟩ := conv_sound hs hs1 hz hsub (hvm m (List.mem_of_getElem? k1)) k2 k3
    exact (renB_spec k4 c6).2.2.2.2.2.2.1 hp
  · intro i B hi
    obtain ⟨m, B1, b2, k1, k2, k3, k4⟩ := key i B hi
    obtain ⟨c1, c2, c3, c4, c5, c6, c7⟩ := conv_sound hs hs1 hz hsub (hvm m (List.mem_of_getElem? k1)) k2 k3
    obtain ⟨d1, d2, d3, d4, d5, d6, d7, d8⟩ := renB_spec k4 c6
    exact ⟨m, B1, k1, k2, by rw [d4, c3]⟩

end
end Go.Proofs.Ytghdpmejgonjmaa.Am

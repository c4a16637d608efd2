/- Rows of operations whose order is drawn: every order drawn leaves the state of the text's order. -/
import Derived.Test.YtghdpmejgonjmaaAmDraw
set_option linter.unusedVariables false
set_option linter.unusedSimpArgs false
namespace Go.Proofs.Ytghdpmejgonjmaa.Am
open Go

section
variable {P : Program} {n : Nat} {w0 : World} {M0 : Bool → Nat → Prop} {U : Nat → Prop} {ι ι' ι0 : Io} {h h1 h2 h0 : Hp} {fr fr' : List (Nat × Sv)} {mem mem' : Mem} {a : Act} {w w' : World} {p : Nat}
  {c : Cfg} {callF : FuncId → List Vl → List Blk → Option (List Vl × List Blk)} {o : Oper} {nx : Nat} {e : Eff}

theorem val_nn {v : Vl} (h : Am.val v nx = some e) : e.nn = nx := by
  simp only [Am.val, Option.some.injEq] at h; subst h; rfl
theorem valA_nn {v : Option At} (h : Am.valA v nx = some e) : e.nn = nx := by
  simp only [Am.valA, Option.bind_eq_some_iff] at h
  obtain ⟨x, _, h⟩ := h
  exact val_nn h

theorem stp_nn (he : stp c callF o fr mem nx = some e) : nx ≤ e.nn := by
  unfold stp at he
  split at he
  all_goals
    (repeat' first
      | (rw [val_nn he]; exact Nat.le_refl _)
      | (rw [valA_nn he]; exact Nat.le_refl _)
      | (cases he; first | exact Nat.le_refl _ | exact Nat.le_succ _)
      | (simp only [stpAppend, stpCall] at he)
      | (cases he; done)
      | (obtain ⟨_, _, he⟩ := he)
      | (simp only [Option.bind_eq_some_iff, Option.some.injEq] at he; obtain ⟨_, _, he⟩ := he)
      | (simp only [Option.some.injEq] at he; subst he; first | exact Nat.le_refl _ | exact Nat.le_succ _ | exact Nat.le_add_right _ _)
      | split at he
      | exact Nat.le_add_right _ _)

theorem wantO_congr {ops : List Oper} (hf : ∀ t ∈ slotsOf ops o, lk fr' t = lk fr t) : wantO ops o fr' = wantO ops o fr := by
  unfold wantO
  cases hg : o.guard with
  | none => rfl
  | some jw =>
    obtain ⟨j, want⟩ := jw
    simp only
    cases hd : (ops[j]?).bind (·.dst) with
    | none => rfl
    | some d =>
      simp only [Option.bind_some]
      rw [hf d (by simp [slotsOf, hg, hd])]

theorem Sim.congr (hs : Sim n w0 M0 U ι h fr mem a w) (hf : ∀ t, lk fr' t = lk fr t) (hm : ∀ m, lk mem' m = lk mem m) : Sim n w0 M0 U ι h fr' mem' a w := by
  have hg : ∀ m, mget mem' m = mget mem m := fun m => by unfold mget; rw [hm m]
  exact { hs with
    hfr := fun t v e => hs.hfr t v (by rw [← hf]; exact e)
    hmem := fun m B e => hs.hmem m B (by rw [← hg]; exact e)
    hinj := fun m m' B B' L L' e e' => hs.hinj m m' B B' L L' (by rw [← hg]; exact e) (by rw [← hg]; exact e')
    hmut := fun m B L e => hs.hmut m B L (by rw [← hg]; exact e)
    hfrz := fun m B L e => hs.hfrz m B L (by rw [← hg]; exact e)
    hown := fun m B L e => hs.hown m B L (by rw [← hg]; exact e)
    hown2 := fun m B L e => hs.hown2 m B L (by rw [← hg]; exact e)
    hnm := fun t v e => hs.hnm t v (by rw [← hf]; exact e)
    hnb := fun m B e => hs.hnb m B (by rw [← hg]; exact e)
    hpr := fun m B e => hs.hpr m B (by rw [← hg]; exact e) }

/-- The text's order, told by its writes. -/
def wF (ops : Array Oper) (R : Nat → Rec) (t i : Nat) : Option Sv := if ((ops[i]?).bind (·.dst)) = some t then some (R i).v else none
def wM (R : Nat → Rec) (m i : Nat) : Option (Option Blk) := lk (R i).upd.reverse m

structure Trace (c : Cfg) (callF : FuncId → List Vl → List Blk → Option (List Vl × List Blk)) (n : Nat) (ops : Array Oper) (T : Nat → St) (R : Nat → Rec) : Prop where
  step : ∀ (i : Nat) (o : Oper), ops[i]? = some o → Stepd c callF n ops.toList o (T i) (T (i + 1)) (R i)
  clash : ∀ (i j : Nat) (o p : Oper), ops[i]? = some o → ops[j]? = some p → i < j → clash ops.toList o p ⟨(R i).rd, (R i).upd.map (·.1)⟩ ⟨(R j).rd, (R j).upd.map (·.1)⟩ = true → Reach ops.toList i j
  less : ∀ (j : Nat) (o : Oper) (e : Edge), ops[j]? = some o → e ∈ o.after → Region.binds .any e = true → e.on < j

section
variable {ops : Array Oper} {T : Nat → St} {R : Nat → Rec} {L : Nat → Bool}

theorem Trace.nx1 (ht : Trace c callF n ops T R) {i : Nat} (hi : i < ops.size) : (T i).nx ≤ (T (i + 1)).nx := by
  obtain ⟨hs, _, _⟩ := ht.step i ops[i] (by simp [hi])
  rcases hs with ⟨_, hs⟩ | ⟨_, _, hs⟩
  · exact stp_nn hs
  · omega
theorem Trace.nxs (ht : Trace c callF n ops T R) {i j : Nat} (hij : i ≤ j) (hj : j ≤ ops.size) : (T i).nx ≤ (T j).nx := by
  induction j with
  | zero => have : i = 0 := by omega
            subst this; exact Nat.le_refl _
  | succ j ih =>
    rcases Nat.eq_or_lt_of_le hij with h | h
    · subst h; exact Nat.le_refl _
    · exact Nat.le_trans (ih (by omega) (by omega)) (ht.nx1 (by omega))

theorem Trace.frs (ht : Trace c callF n ops T R) (t : Nat) : ∀ j, j ≤ ops.size → lk (T j).fr t = lastS (fun _ => true) (wF ops R t) (lk (T 0).fr t) j := by
  intro j
  induction j with
  | zero => intro _; rfl
  | succ j ih =>
    intro hj
    have hlt : j < ops.size := by omega
    obtain ⟨_, hp, _⟩ := ht.step j ops[j] (by simp [hlt])
    simp only [lastS, if_true, wF, Array.getElem?_eq_getElem hlt, Option.bind_some]
    cases hd : ops[j].dst with
    | none =>
      rw [hd] at hp
      simp only [putD, Option.some.injEq] at hp
      rw [← hp, ih (by omega)]
      simp
    | some d =>
      rw [hd] at hp
      simp only [putD] at hp
      split at hp
      · rw [← Option.some.inj hp, lk_cons]
        by_cases hdt : d = t
        · simp [hdt]
        · rw [if_neg hdt, ih (by omega)]
          simp [hdt]
      · cases hp
theorem Trace.mems (ht : Trace c callF n ops T R) (m : Nat) : ∀ j, j ≤ ops.size → lk (T j).mem m = lastS (fun _ => true) (wM R m) (lk (T 0).mem m) j := by
  intro j
  induction j with
  | zero => intro _; rfl
  | succ j ih =>
    intro hj
    have hlt : j < ops.size := by omega
    obtain ⟨_, _, hm⟩ := ht.step j ops[j] (by simp [hlt])
    rw [hm, lk_updM, ih (by omega)]
    simp only [lastS, if_true, wM]
    cases lk (R j).upd.reverse m <;> rfl

/-- What is listed, together with what it must come behind. -/
structure Down (ops : Array Oper) (L : Nat → Bool) : Prop where
  lt : ∀ i, L i = true → i < ops.size
  down : ∀ j, L j = true → ∀ o, ops[j]? = some o → ∀ e ∈ o.after, Region.binds .any e = true → L e.on = true

theorem lk_rev_none {β : Type} {l : List (Nat × β)} {m : Nat} (h : lk l.reverse m ≠ none) : m ∈ l.map (·.1) := by
  have : ∀ (l : List (Nat × β)), lk l m ≠ none → m ∈ l.map (·.1) := by
    intro l
    induction l with
    | nil => intro h; exact absurd rfl h
    | cons q r ih =>
      intro h
      rw [lk_cons] at h
      split at h
      · simp [*]
      · exact List.mem_cons_of_mem _ (ih h)
  have := this _ h
  simpa using this

theorem meets_of {xs ys : List Nat} {m : Nat} (h1 : m ∈ xs) (h2 : m ∈ ys) : meets xs ys = true := by
  simp only [meets, List.any_eq_true, List.contains_iff_mem]
  exact ⟨m, h1, h2⟩

/-- An operation that is ready sees what it saw in the text's order. -/
theorem Trace.sees (ht : Trace c callF n ops T R) (hL : Down ops L) {j : Nat} {oj : Oper} (ho : ops[j]? = some oj) (hj : L j = false)
    (hr : ∀ e ∈ oj.after, Region.binds .any e = true → L e.on = true) :
    (∀ t ∈ slotsOf ops.toList oj, lastS L (wF ops R t) (lk (T 0).fr t) ops.size = lk (T j).fr t) ∧
    (∀ m ∈ (R j).rd, lastS L (wM R m) (lk (T 0).mem m) ops.size = lk (T j).mem m) := by
  have hlt : j < ops.size := (Array.getElem?_eq_some_iff.1 ho).1
  have hdn : ∀ i, Reach ops.toList i j → L i = true := fun i hi =>
    hi.listed (fun k hk o' ho' => hL.down k hk o' (by simpa using ho')) (fun o' ho' => by
      have : o' = oj := by have h1 : ops[j]? = some o' := by simpa using ho'
                           rw [ho] at h1; exact (Option.some.inj h1).symm
      subst this; exact hr)
  have hup : ∀ k, Reach ops.toList j k → L k = false := fun k hk => by
    cases hq : L k with
    | false => rfl
    | true =>
      have := hk.listed (L := L) (fun k hk o' ho' => hL.down k hk o' (by simpa using ho')) (fun o' ho' => hL.down k hq o' (by simpa using ho'))
      rw [hj] at this; cases this
  constructor
  · intro t htm
    rw [ht.frs t j (by omega)]
    have hw : ∀ k, k < ops.size → wF ops R t k ≠ none → ∃ ok, ops[k]? = some ok ∧ ok.dst = some t := by
      intro k hk hne
      unfold wF at hne
      split at hne
      · rename_i hd
        simp only [Option.bind_eq_some_iff] at hd
        exact hd
      · exact absurd rfl hne
    refine lastS_eq (fun i hi hne => ?_) _ (by omega) fun k hk hk2 hne => ?_
    · obtain ⟨oi, e1, e2⟩ := hw i (by omega) hne
      refine hdn i (ht.clash i j oi oj e1 ho hi ?_)
      simp only [Am.clash, e2, List.contains_iff_mem.2 htm, Bool.true_or]
    · rcases Nat.eq_or_lt_of_le hk with rfl | hk
      · exact hj
      · obtain ⟨ok, e1, e2⟩ := hw k hk2 hne
        refine hup k (ht.clash j k oj ok ho e1 hk ?_)
        simp only [Am.clash, e2, List.contains_iff_mem.2 htm, Bool.true_or, Bool.or_true]
  · intro m hm
    rw [ht.mems m j (by omega)]
    refine lastS_eq (fun i hi hne => ?_) _ (by omega) fun k hk hk2 hne => ?_
    · refine hdn i (ht.clash i j _ oj (Array.getElem?_eq_getElem (by omega)) ho hi ?_)
      simp only [Am.clash, meets_of (lk_rev_none hne) hm, Bool.true_or, Bool.or_true]
    · rcases Nat.eq_or_lt_of_le hk with rfl | hk
      · exact hj
      · refine hup k (ht.clash j k oj _ ho (Array.getElem?_eq_getElem hk2) hk ?_)
        simp only [Am.clash, meets_of hm (lk_rev_none hne), Bool.true_or, Bool.or_true]

/-- Behind it. -/
theorem Trace.puts (ht : Trace c callF n ops T R) (hL : Down ops L) {j : Nat} {oj : Oper} (ho : ops[j]? = some oj) (hj : L j = false) {L' : Nat → Bool}
    (hL1 : L' j = true) (hL2 : ∀ i, i ≠ j → L' i = L i) :
    (∀ t, lastS L' (wF ops R t) (lk (T 0).fr t) ops.size = if oj.dst = some t then some (R j).v else lastS L (wF ops R t) (lk (T 0).fr t) ops.size) ∧
    (∀ m, lastS L' (wM R m) (lk (T 0).mem m) ops.size = (lk (R j).upd.reverse m).or (lastS L (wM R m) (lk (T 0).mem m) ops.size)) := by
  have hlt : j < ops.size := (Array.getElem?_eq_some_iff.1 ho).1
  have hup : ∀ k, j < k → Reach ops.toList j k → L' k = false := fun k hjk hk => by
    rw [hL2 k (by omega)]
    cases hq : L k with
    | false => rfl
    | true =>
      have := hk.listed (L := L) (fun k hk o' ho' => hL.down k hk o' (by simpa using ho')) (fun o' ho' => hL.down k hq o' (by simpa using ho'))
      rw [hj] at this; cases this
  constructor
  · intro t
    by_cases hd : oj.dst = some t
    · rw [if_pos hd]
      refine lastS_top hL1 (by simp [wF, ho, hd]) _ hlt fun k hk hk2 hne => ?_
      unfold wF at hne
      split at hne
      · rename_i hdk
        simp only [Option.bind_eq_some_iff] at hdk
        obtain ⟨ok, e1, e2⟩ := hdk
        refine hup k hk (ht.clash j k oj ok ho e1 hk ?_)
        simp only [Am.clash, hd, e2, beq_self_eq_true, Bool.or_true, Bool.true_or]
      · exact absurd rfl hne
    · rw [if_neg hd]
      refine lastS_congr _ fun i hi hne => hL2 i ?_
      rintro rfl
      simp [wF, ho, hd] at hne
  · intro m
    cases hm : lk (R j).upd.reverse m with
    | some x =>
      simp only [Option.some_or]
      refine lastS_top hL1 hm _ hlt fun k hk hk2 hne => hup k hk (ht.clash j k oj _ ho (Array.getElem?_eq_getElem hk2) hk ?_)
      simp only [Am.clash, meets_of (lk_rev_none (show lk (R j).upd.reverse m ≠ none by rw [hm]; simp)) (lk_rev_none hne), Bool.true_or, Bool.or_true]
    | none =>
      simp only [Option.none_or]
      refine lastS_congr _ fun i hi hne => hL2 i ?_
      rintro rfl
      exact hne hm

/-- The state that stands behind the operations listed. -/
def Mid (n : Nat) (w0 : World) (M0 : Bool → Nat → Prop) (p : Nat) (ι0 : Io) (h0 : Hp) (ops : Array Oper) (T : Nat → St) (R : Nat → Rec) (L : Nat → Bool) (a : Act) (w : World) : Prop :=
  ∃ fr mem ι h, Sim n w0 M0 (fun m => m < (T 0).nx ∨ ∃ i, L i = true ∧ (T i).nx ≤ m ∧ m < (T (i + 1)).nx) ι h fr mem a w ∧ Hist w0 M0 p ι0 h0 ι h ∧
    (∀ t, lk fr t = lastS L (wF ops R t) (lk (T 0).fr t) ops.size) ∧ (∀ m, lk mem m = lastS L (wM R m) (lk (T 0).mem m) ops.size)

theorem Sim.ext {U' : Nat → Prop} (hs : Sim n w0 M0 U ι h fr mem a w) (hu : ∀ m, U m → U' m) : Sim n w0 M0 U' ι h fr mem a w := hs.weak hu

theorem Trace.next (hT : TyOk P c.T) (hC : CallOk P callF) (ht : Trace c callF n ops T R) (hL : Down ops L) (hp : p ≤ (T 0).nx) {j : Nat} {oj : Oper} (ho : ops[j]? = some oj) (hj : L j = false)
    (hr : ∀ e ∈ oj.after, Region.binds .any e = true → L e.on = true) {L' : Nat → Bool} (hL1 : L' j = true) (hL2 : ∀ i, i ≠ j → L' i = L i)
    {Q : Exit → Act → World → Prop} {K : Act → World → Prop} (hK : ∀ a' w', Mid n w0 M0 p ι0 h0 ops T R L' a' w' → K a' w') (hc : Mid n w0 M0 p ι0 h0 ops T R L a w) : wpOp P ops Q j K a w := by
  have hlt : j < ops.size := (Array.getElem?_eq_some_iff.1 ho).1
  obtain ⟨fr, mem, ι, h, hs, hh, hf, hm⟩ := hc
  obtain ⟨s1, s2⟩ := ht.sees hL ho hj hr
  obtain ⟨p1, p2⟩ := ht.puts hL ho hj hL1 hL2
  obtain ⟨hst, hput, hmm⟩ := ht.step j oj ho
  unfold wpOp
  rw [ho]
  simp only
  have hw : wantO ops.toList oj fr = wantO ops.toList oj (T j).fr := wantO_congr fun t htm => by rw [hf, s1 t htm]
  have hput' : ∀ v, v = (R j).v → ∃ f', putD n fr oj.dst v = some f' ∧ ∀ t, lk f' t = lastS L' (wF ops R t) (lk (T 0).fr t) ops.size := by
    rintro v rfl
    cases hd : oj.dst with
    | none =>
      refine ⟨fr, rfl, fun t => ?_⟩
      rw [p1, hd, hf]
      simp
    | some d =>
      rw [hd] at hput
      simp only [putD] at hput ⊢
      split at hput
      · rename_i hdn
        rw [if_pos hdn]
        refine ⟨_, rfl, fun t => ?_⟩
        rw [p1, hd, lk_cons, hf]
        simp
      · cases hput
  rcases hst with ⟨hwt, hst⟩ | ⟨hwt, hR, hnx⟩
  · rw [want_sound hs (hw.trans hwt), if_pos rfl]
    left
    have he : stp c callF oj fr mem (T j).nx = some { v := (R j).v, upd := (R j).upd, nn := (T (j + 1)).nx, rd := (R j).rd } := by
      refine stp_congr hst (fun t htm => ?_) fun m hmr => ?_
      · rw [hf]
        refine s1 t ?_
        simp only [slotsOf, List.mem_append, List.mem_filterMap]
        exact .inl ⟨_, htm, rfl⟩
      · unfold mget
        rw [hm, s2 m hmr]
    refine op_sound hT hC hs (fun m h1 h2 h3 => ?_) he ?_
    · simp only at h2
      rcases h3 with h3 | ⟨i, hi, h3, h4⟩
      · have := ht.nxs (Nat.zero_le j) (by omega)
        omega
      · have hij : i ≠ j := by rintro rfl; rw [hj] at hi; cases hi
        have hil := hL.lt i hi
        rcases Nat.lt_or_ge i j with hq | hq
        · have := ht.nxs (show i + 1 ≤ j by omega) (by omega)
          omega
        · have := ht.nxs (show j + 1 ≤ i by omega) (by omega)
          omega
    · rintro u w' ⟨ι', h', n1, n2, n3, n4, n5, n6, n7⟩
      obtain ⟨f', e1, e2⟩ := hput' _ rfl
      refine hK _ _ ⟨f', updM mem (R j).upd, ι', h', ?_, ⟨hh.sub.trans n1, fun i hi => ?_, fun b hb hM => ?_⟩, e2, fun m => ?_⟩
      · refine (n3.put n4 n5 e1).weak fun m hm => ?_
        rcases hm with (hm | ⟨i, hi, hm⟩) | hm
        · exact .inl hm
        · exact .inr ⟨i, by rw [hL2 i (by rintro rfl; rw [hj] at hi; cases hi)]; exact hi, hm⟩
        · exact .inr ⟨j, hL1, hm⟩
      · have := ht.nxs (Nat.zero_le j) (by omega)
        rw [n2 i (by omega), hh.same i hi]
      · rw [n7 b hb hM, hh.view b hb hM]
      · rw [lk_updM, p2, hm]
  · rw [want_sound hs (hw.trans hwt), if_neg (by simp)]
    obtain ⟨f', e1, e2⟩ := hput' .u (by rw [hR])
    refine hK _ _ ⟨f', mem, ι, h, ?_, hh, e2, fun m => ?_⟩
    · refine (hs.put (undef_RS ι h) (by simp [Sv.nms]) e1).weak fun m hm => ?_
      rcases hm with hm | ⟨i, hi, hm⟩
      · exact .inl hm
      · exact .inr ⟨i, by rw [hL2 i (by rintro rfl; rw [hj] at hi; cases hi)]; exact hi, hm⟩
    · rw [p2, hR, hm]
      simp [lk]

theorem Mid.last (ht : Trace c callF n ops T R) (hp : p ≤ (T 0).nx) (hL : ∀ i, i < ops.size → L i = true) (hL' : Down ops L) (hc : Mid n w0 M0 p ι0 h0 ops T R L a w) : Cnf n w0 M0 p ι0 h0 (T ops.size) a w := by
  obtain ⟨fr, mem, ι, h, hs, hh, hf, hm⟩ := hc
  have hx := ht.nxs (Nat.zero_le ops.size) (Nat.le_refl _)
  refine ⟨ι, h, ((hs.congr (fr' := (T ops.size).fr) (mem' := (T ops.size).mem) (fun t => ?_) fun m => ?_).weak fun m hm => ?_), hh, by omega⟩
  · rw [hf, ht.frs t _ (Nat.le_refl _)]
    exact (lastS_congr _ fun i hi _ => hL i hi).symm
  · rw [hm, ht.mems m _ (Nat.le_refl _)]
    exact (lastS_congr _ fun i hi _ => hL i hi).symm
  · rcases hm with hm | ⟨i, hi, _, hm⟩
    · omega
    · have := ht.nxs (show i + 1 ≤ ops.size from hL'.lt i hi) (Nat.le_refl _)
      omega

/-- How many are not listed yet. -/
def left (ops : Array Oper) (listed : Array Bool) : Nat := ((List.range ops.size).filter fun i => !listed.getD i false).length

theorem left_set {listed : Array Bool} {j : Nat} (hz : listed.size = ops.size) (hj : j < ops.size) (hf : listed.getD j false = false) : left ops (listed.setIfInBounds j true) < left ops listed := by
  unfold left
  have hsub : ((List.range ops.size).filter fun i => !(listed.setIfInBounds j true).getD i false) = (((List.range ops.size).filter fun i => !listed.getD i false).filter fun i => i != j) := by
    rw [List.filter_filter]
    apply List.filter_congr
    intro i _
    by_cases hij : i = j
    · subst hij
      simp [hz, hj]
    · rw [getD_set_ne false (Ne.symm hij)]
      simp [hij]
  rw [hsub]
  have hmem : j ∈ (List.range ops.size).filter fun i => !listed.getD i false := by simp [List.mem_filter, hj]; simpa using hf
  have := List.length_filter_lt_length_iff_exists (p := fun i => i != j) (l := (List.range ops.size).filter fun i => !listed.getD i false)
  exact this.2 ⟨j, hmem, by simp⟩

theorem Trace.any (hT : TyOk P c.T) (hC : CallOk P callF) (ht : Trace c callF n ops T R) (hp : p ≤ (T 0).nx) {Q : Exit → Act → World → Prop}
    (hQ : ∀ a' w', Cnf n w0 M0 p ι0 h0 (T ops.size) a' w' → Q .normal a' w') :
    ∀ (fuel : Nat) (listed : Array Bool) (a : Act) (w : World), listed.size = ops.size → left ops listed ≤ fuel → Down ops (fun i => listed.getD i false) →
      Mid n w0 M0 p ι0 h0 ops T R (fun i => listed.getD i false) a w → wpAny P .any ops Q fuel listed a w := by
  have all : ∀ (listed : Array Bool), listed.size = ops.size → Region.ready .any ops listed = [] → ∀ i, i < ops.size → listed.getD i false = true := by
    intro listed hz hr i
    induction i using Nat.strongRecOn with
    | ind i ih =>
      intro hi
      cases hq : listed.getD i false with
      | true => rfl
      | false =>
        have : i ∈ Region.ready .any ops listed := mem_ready.2 ⟨by
          have : i < listed.size := by omega
          simp [this] at hq ⊢
          exact hq, ops[i], by simp [hi], fun e he hb => ih _ (ht.less i ops[i] e (by simp [hi]) he hb) (Nat.lt_trans (ht.less i ops[i] e (by simp [hi]) he hb) hi)⟩
        rw [hr] at this
        cases this
  intro fuel
  induction fuel with
  | zero =>
    intro listed a w hz hl hd hc
    have hall : ∀ i, i < ops.size → listed.getD i false = true := by
      intro i hi
      have h0 : left ops listed = 0 := by omega
      unfold left at h0
      rw [List.length_eq_zero_iff, List.filter_eq_nil_iff] at h0
      have := h0 i (by simp [hi])
      simpa using this
    refine ⟨?_, hQ _ _ (hc.last ht hp hall hd)⟩
    rw [List.eq_nil_iff_forall_not_mem]
    intro i hi
    obtain ⟨h1, o', ho', _⟩ := mem_ready.1 hi
    have hlt : i < ops.size := (Array.getElem?_eq_some_iff.1 ho').1
    have := hall i hlt
    have hlt' : i < listed.size := by omega
    simp [hlt'] at this h1
    rw [this] at h1
    cases h1
  | succ fuel ih =>
    intro listed a w hz hl hd hc
    refine ⟨fun hr => hQ _ _ (hc.last ht hp (all listed hz hr) hd), fun j hj => ?_⟩
    obtain ⟨h1, oj, ho, he⟩ := mem_ready.1 hj
    have hlt : j < ops.size := (Array.getElem?_eq_some_iff.1 ho).1
    have hjf : listed.getD j false = false := by
      have hlt' : j < listed.size := by omega
      simp [hlt'] at h1 ⊢
      exact h1
    have hL1 : (listed.setIfInBounds j true).getD j false = true := by
      have hlt' : j < listed.size := by omega
      simp [hlt']
    have hL2 : ∀ i, i ≠ j → (listed.setIfInBounds j true).getD i false = listed.getD i false := fun i hi => getD_set_ne false (Ne.symm hi)
    refine ht.next hT hC hd hp ho hjf he (L' := fun i => (listed.setIfInBounds j true).getD i false) hL1 hL2 (fun a' w' hm => ih _ a' w' (by simp [hz]) ?_ ?_ hm) hc
    · have := left_set hz hlt hjf
      omega
    · refine ⟨fun i hi => ?_, fun i hi o' ho' e hee hb => ?_⟩
      · by_cases hij : i = j
        · subst hij; exact hlt
        · rw [hL2 i hij] at hi; exact hd.lt i hi
      · by_cases hij : i = j
        · subst hij
          rw [ho] at ho'
          cases ho'
          exact getD_set_true (he e hee hb)
        · rw [hL2 i hij] at hi
          exact getD_set_true (hd.down i hi o' ho' e hee hb)

/-- A row whose order is drawn. -/
theorem draw_sound (hT : TyOk P c.T) (hC : CallOk P callF) (hm : P.follows .mixedOrders = true) {σ σ' : St} {is : List Info} {id : Nat} {Q : Exit → Act → World → Prop}
    (he : runOps c callF n ops.toList ops.toList σ [] = some (σ', is)) (hd : okDraw ops.toList is.reverse = true) (hc : Cnf n w0 M0 p ι0 h0 σ a w)
    (hQ : ∀ a' w', Cnf n w0 M0 p ι0 h0 σ' a' w' → Q .normal a' w') : (Code.region id ops true).wp P Q a w := by
  obtain ⟨T, R, t1, t2, t3, t4⟩ := runOps_trace _ _ _ _ _ he
  subst t1
  simp only [List.reverse_nil, List.nil_append] at t4
  rw [t4] at hd
  simp only [okDraw, Bool.and_eq_true, okPairs, List.all_eq_true, List.mem_range] at hd
  obtain ⟨⟨_, hpairs⟩, hless⟩ := hd
  have ht : Trace c callF n ops T R := by
    refine ⟨fun i o ho => t3 i o (by simpa using ho), ?_, ?_⟩
    · intro i j o p ho hp hij hcl
      have hj : j < ops.size := (Array.getElem?_eq_some_iff.1 hp).1
      have := hpairs j (by simpa using hj) i hij
      have e1 : ops.toList[i]? = some o := by simpa using ho
      have e2 : ops.toList[j]? = some p := by simpa using hp
      rw [e1, e2] at this
      simp only [List.getElem?_map, List.getElem?_range (show i < ops.toList.length by simp; omega), List.getElem?_range (show j < ops.toList.length by simpa using hj), Option.map_some] at this
      rw [hcl] at this
      simp only [Bool.not_true, Bool.false_or] at this
      exact ancs_reach _ _ _ this
    · intro j o e ho hee hb
      have hj : j < ops.size := (Array.getElem?_eq_some_iff.1 ho).1
      have h1 := hless (o, j) (by rw [List.mem_zipIdx_iff_getElem?]; simpa using ho)
      simp only [Array.all_eq_true_iff_forall_mem, Bool.or_eq_true, Bool.not_eq_true', decide_eq_true_eq] at h1
      rcases h1 e hee with h2 | h2
      · rw [hb] at h2; cases h2
      · exact h2
  obtain ⟨ι, h, hs, hh, hp⟩ := hc
  refine wp_region_any hm (ht.any hT hC hp (fun a' w' hc' => hQ a' w' (by rw [← t2]; simpa using hc')) _ _ _ _ (by simp) ?_ ?_ ?_)
  · unfold left
    exact Nat.le_trans (List.length_filter_le _ _) (by simp)
  · refine ⟨fun i hi => ?_, fun i hi => ?_⟩
    all_goals
      simp only [Array.getD_eq_getD_getElem?, Array.getElem?_replicate] at hi
      split at hi <;> simp at hi
  · refine ⟨(T 0).fr, (T 0).mem, ι, h, hs.drew.weak fun m hm => .inl hm, hh, fun t => ?_, fun m => ?_⟩
    all_goals
      have key : ∀ {β : Type} (f : Nat → Option β) (init : Option β) (k : Nat), lastS (fun i => (Array.replicate ops.size false).getD i false) f init k = init := by
        intro β f init k
        induction k with
        | zero => rfl
        | succ k ih =>
          have : (Array.replicate ops.size false).getD k false = false := by
            simp only [Array.getD_eq_getD_getElem?, Array.getElem?_replicate]
            split <;> rfl
          simp only [lastS, this]
          exact ih
      rw [key]
end
end
end Go.Proofs.Ytghdpmejgonjmaa.Am

/- From the machine's word on a law to the program's: arguments opened, the call, what stays. -/
import Derived.Test.YtghdpmejgonjmaaAmFun
import Derived.ChangeArms
import Derived.OpenShut
import Derived.Carry
import Derived.ShutString
import Derived.SizedLaws
set_option linter.unusedVariables false
set_option linter.unusedSimpArgs false
namespace Go.Proofs.Ytghdpmejgonjmaa.Am
open Go Go.RowKit Go.WideShapes

def tiles (P : Program) : List Field → Nat → Nat → Bool
  | [], o, n => o == n
  | f :: r, o, n => f.offset == o && tiles P r (o + P.cellsOf f.type) n

/-- A type of numbers, truths, texts, slices, structs, arrays. -/
def plainT (P : Program) : Nat → TypeId → Bool
  | 0, _ => false
  | d + 1, t =>
    match P.underlying t with
    | some .bool => true
    | some (.int _) => true
    | some .string => true
    | some (.slice e) => decide (0 < P.cellsOf e) && plainT P d e
    | some (.struct fs) => tiles P fs.toList 0 (P.cellsOf t) && fs.toList.all fun f => plainT P d f.type
    | _ => false

/-- What an argument of such a type is. -/
inductive Typed (P : Program) : TypeId → List At → Prop
  | bool {t : TypeId} (hu : P.underlying t = some .bool) (b : Bool) : Typed P t [.bool b]
  | int {t : TypeId} {k : IntKind} (hu : P.underlying t = some (.int k)) (n : Int) (h : (Lit.int k n).wf = true) : Typed P t [.int k n]
  | str {t : TypeId} (hu : P.underlying t = some .string) (s : ByteArray) (h : s.size ≤ maxLen) : Typed P t [.str s]
  | sl {t e : TypeId} (hu : P.underlying t = some (.slice e)) (els : List (List At)) (hn : els.length ≤ maxLen) (h : ∀ el ∈ els, Typed P e el) : Typed P t [.sl (P.cellsOf e) els.length els]
  | st {t : TypeId} {fs : Array Field} (hu : P.underlying t = some (.struct fs)) (cs : List At) (hl : cs.length = P.cellsOf t) (h : ∀ (i : Nat) (f : Field), fs[i]? = some f → Typed P f.type ((cs.drop f.offset).take (P.cellsOf f.type))) : Typed P t cs

section
variable {P : Program} {H : Type} {enc : TypeId × Value → H} {w : World} {base : Nat} {sp : Nat → Bool} {held : Bool}

/-- What is there when the call begins can be read for good. -/
def view (w : World) : Hp := fun b => w.heap[b]?

theorem cells_spot {a : Addr} {n : Nat} {cs : List Value} (h : w.cells? base (a.add 0) n = some cs) (hn : 0 < n) : a.spot = none := by
  obtain ⟨_, hl, hc⟩ := World.cells?_some h
  have h0 := hc 0 hn
  rw [List.getElem?_eq_getElem (show 0 < cs.length by omega)] at h0
  simpa [Addr.add] using World.cell?_spot h0

theorem cells_obj {b off k n : Nat} {cs : List Value} (h : w.cells? base ((⟨b, off, none⟩ : Addr).add k) n = some cs) (hn : 0 < n) :
    ∃ C t z, w.heap[b]? = some (.cells C t z) ∧ cs.length = n ∧ ∀ j, j < n → C[off + (k + j)]? = cs[j]? := by
  rw [Go.WideShapes.add_plain] at h
  obtain ⟨_, hl, hc⟩ := World.cells?_some h
  have hobj : ∃ C t z, w.heap[b]? = some (.cells C t z) := by
    have h0 := hc 0 hn
    rw [List.getElem?_eq_getElem (show 0 < cs.length by omega), Go.WideShapes.add_plain] at h0
    simp only [World.cell?] at h0
    split at h0
    · rename_i C t z hC; exact ⟨C, t, z, hC⟩
    · cases h0
  obtain ⟨C, t, z, hC⟩ := hobj
  refine ⟨C, t, z, hC, hl, fun j hj => ?_⟩
  have := hc j hj
  rw [Go.WideShapes.add_plain] at this
  simp only [World.cell?, hC] at this
  rw [← this]
  simp [Nat.add_assoc]

theorem open_cells : ∀ (d : Nat) (t : TypeId), plainT P d t = true → ∀ (fuel : Nat) (cs : List Value) (x : DataW H × List MemPlace), DataW.trod enc P w base sp held fuel t cs = some x →
    ∃ xs : List At, RL (fun _ => none) (view w) xs cs ∧ (∀ y ∈ xs, y.pr = true) ∧ Typed P t xs := by
  intro d
  induction d with
  | zero => intro t h; cases h
  | succ d ih =>
    intro t ht fuel cs x hx
    simp only [plainT] at ht
    have one : ∀ (y : At) (v : Value), RP (view w) y v → y.pr = true → cs = [v] → Typed P t [y] → ∃ xs : List At, RL (fun _ => none) (view w) xs cs ∧ (∀ y ∈ xs, y.pr = true) ∧ Typed P t xs := by
      rintro y v h1 h2 rfl h3
      exact ⟨[y], RL.cons (RA.ofRP h1) RL.nil, by simpa using h2, h3⟩
    split at ht
    · rename_i hu
      obtain ⟨b, rfl, _⟩ := DataW.trod_bool hu hx
      exact one _ _ (.bool b) rfl rfl (.bool hu b)
    · rename_i k hu
      obtain ⟨n, rfl, _, hw⟩ := DataW.trod_int hu hx
      exact one _ _ (.int k n) rfl rfl (.int hu n hw)
    · rename_i hu
      obtain ⟨s, rfl, _, hs⟩ := DataW.trod_string hu hx
      exact one _ _ (.str s) rfl rfl (.str hu s hs)
    · rename_i e hu
      simp only [Bool.and_eq_true, decide_eq_true_eq] at ht
      obtain ⟨hpos, hte⟩ := ht
      rcases DataW.trod_slice hu hx with ⟨rfl, _⟩ | ⟨a, len, cap, elems, rest, n, rfl, rfl, _, hb, hlc, hcm, hel, hev, _, _⟩
      · exact one _ _ (.sl0 (P.cellsOf e) none 0) rfl rfl (.sl hu [] (Nat.zero_le _) (by simp))
      · -- each element
        have each : ∀ i, i < len → ∃ (ci : List Value) (xs : List At), w.cells? base (a.add (i * P.cellsOf e)) (P.cellsOf e) = some ci ∧ RL (fun _ => none) (view w) xs ci ∧ (∀ y ∈ xs, y.pr = true) ∧ Typed P e xs := by
          intro i hi
          have h1 := hev i hi
          rw [List.getElem?_eq_getElem (by omega)] at h1
          obtain ⟨ci, h2, h3⟩ := Option.bind_eq_some_iff.1 h1
          obtain ⟨xs, r1, r2, r3⟩ := ih e hte n ci _ h3
          exact ⟨ci, xs, h2, r1, r2, r3⟩
        let E : Nat → List At := fun i => if hi : i < len then (each i hi).choose_spec.choose else []
        let V : Nat → List Value := fun i => if hi : i < len then (each i hi).choose else []
        have hE : ∀ i, i < len → w.cells? base (a.add (i * P.cellsOf e)) (P.cellsOf e) = some (V i) ∧ RL (fun _ => none) (view w) (E i) (V i) ∧ (∀ y ∈ E i, y.pr = true) ∧ Typed P e (E i) := by
          intro i hi
          simp only [E, V, dif_pos hi]
          exact (each i hi).choose_spec.choose_spec
        let els := (List.range len).map E
        have hlen : els.length = len := by simp [els]
        have hget : ∀ i e', els[i]? = some e' → i < len ∧ e' = E i := by
          intro i e' he'
          have hi : i < len := by
            have := (List.getElem?_eq_some_iff.1 he').1
            simpa [hlen] using this
          simp only [els, List.getElem?_map, List.getElem?_range hi, Option.map_some, Option.some.injEq] at he'
          exact ⟨hi, he'.symm⟩
        have hty : Typed P t [.sl (P.cellsOf e) els.length els] := by
          refine .sl hu els (by omega) fun el hm => ?_
          obtain ⟨i, hi⟩ := List.getElem?_of_mem hm
          obtain ⟨h1, rfl⟩ := hget i el hi
          exact (hE i h1).2.2.2
        rcases Nat.eq_zero_or_pos len with h0 | h0
        · subst h0
          have hz : els = [] := by simp [els]
          refine one _ _ ?_ rfl rfl hty
          rw [hz]
          exact .sl0 _ _ _
        · obtain ⟨hc0, _⟩ := hE 0 h0
          have hspot : a.spot = none := cells_spot (by rw [Nat.zero_mul] at hc0; exact hc0) hpos
          obtain ⟨b, off, spot⟩ := a
          simp only at hspot
          subst hspot
          obtain ⟨C, t', z, hC, _⟩ := cells_obj hc0 hpos
          have hcell : ∀ i, i < len → (V i).length = P.cellsOf e ∧ ∀ j, j < P.cellsOf e → C[off + (i * P.cellsOf e + j)]? = (V i)[j]? := by
            intro i hi
            obtain ⟨C', t'', z', hC', hl, hj⟩ := cells_obj (hE i hi).1 hpos
            rw [hC] at hC'
            cases hC'
            exact ⟨hl, hj⟩
          refine one _ _ (.sl _ els b off cap (P.cellsOf e) C t' z (fun i j => ((V i)[j]?).getD undef) hC rfl (by rw [hlen]; exact hlc) ?_ ?_ ?_) rfl (by rw [hlen]) hty
          · intro i e' he'
            obtain ⟨hi, rfl⟩ := hget i e' he'
            rw [(hE i hi).2.1.1, (hcell i hi).1]
          · intro i e' j y he' hy
            obtain ⟨hi, rfl⟩ := hget i e' he'
            obtain ⟨u, g1, g2⟩ := (hE i hi).2.1.2 j y hy
            have hj : j < P.cellsOf e := by
              rw [← (hcell i hi).1]
              exact (List.getElem?_eq_some_iff.1 g1).1
            rw [(hcell i hi).2 j hj, g1]
            rfl
          · intro i e' j y he' hy
            obtain ⟨hi, rfl⟩ := hget i e' he'
            obtain ⟨u, g1, g2⟩ := (hE i hi).2.1.2 j y hy
            simp only [g1, Option.getD_some]
            exact RA.toRP ((hE i hi).2.2.1 y (List.mem_of_getElem? hy)) g2
    · rename_i fs hu
      simp only [Bool.and_eq_true, List.all_eq_true] at ht
      obtain ⟨htile, hall⟩ := ht
      obtain ⟨ds, n, rfl, _, hcl, hdl, hf⟩ := DataW.trod_struct hu hx
      have key : ∀ (l : List Field) (o : Nat), tiles P l o (P.cellsOf t) = true → (∀ f ∈ l, plainT P d f.type = true ∧ ∃ y, DataW.trod enc P w base sp held n f.type ((cs.drop f.offset).take (P.cellsOf f.type)) = some y) →
          o ≤ P.cellsOf t ∧ ∃ xs : List At, RL (fun _ => none) (view w) xs (cs.drop o) ∧ (∀ y ∈ xs, y.pr = true) ∧ ∀ f ∈ l, o ≤ f.offset ∧ Typed P f.type ((xs.drop (f.offset - o)).take (P.cellsOf f.type)) := by
        intro l
        induction l with
        | nil =>
          intro o ho _
          simp only [tiles, beq_iff_eq] at ho
          refine ⟨by omega, [], ?_, by simp, by simp⟩
          rw [List.drop_eq_nil_of_le (by omega)]
          exact RL.nil
        | cons f r ih2 =>
          intro o ho hfs
          simp only [tiles, Bool.and_eq_true, beq_iff_eq] at ho
          obtain ⟨rfl, ho⟩ := ho
          obtain ⟨hpf, y, hy⟩ := hfs f (List.mem_cons_self ..)
          obtain ⟨ys, r1, r2, r3⟩ := ih f.type hpf n _ _ hy
          obtain ⟨q0, xs, q1, q2, q3⟩ := ih2 _ ho fun g hg => hfs g (List.mem_cons_of_mem _ hg)
          have hyl : ys.length = P.cellsOf f.type := by rw [r1.1, List.length_take, List.length_drop]; omega
          refine ⟨by omega, ys ++ xs, ?_, ?_, ?_⟩
          · have := r1.append q1
            rwa [show cs.drop (f.offset + P.cellsOf f.type) = (cs.drop f.offset).drop (P.cellsOf f.type) by rw [List.drop_drop], List.take_append_drop] at this
          · intro z hz
            rcases List.mem_append.1 hz with hz | hz
            · exact r2 z hz
            · exact q2 z hz
          · intro g hg
            rcases List.mem_cons.1 hg with rfl | hg
            · refine ⟨Nat.le_refl _, ?_⟩
              rw [Nat.sub_self, List.drop_zero, ← hyl, List.take_left]
              exact r3
            · obtain ⟨h1, h2⟩ := q3 g hg
              refine ⟨by omega, ?_⟩
              rw [show g.offset - f.offset = ys.length + (g.offset - (f.offset + P.cellsOf f.type)) by omega, ← List.drop_drop, List.drop_left]
              exact h2
      obtain ⟨_, xs, q1, q2, q3⟩ := key fs.toList 0 htile fun f hfm => by
        refine ⟨hall f hfm, ?_⟩
        obtain ⟨i, hi⟩ := List.getElem?_of_mem hfm
        have hi' : fs[i]? = some f := by simpa using hi
        have hlt : i < fs.size := (Array.getElem?_eq_some_iff.1 hi').1
        exact ⟨ds[i]'(by omega), by rw [hf i f hi']; exact List.getElem?_eq_getElem _⟩
      rw [List.drop_zero] at q1
      refine ⟨xs, q1, q2, .st hu xs (by rw [q1.1, hcl]) fun i f hi => ?_⟩
      have := (q3 f (by simpa using Array.mem_of_getElem? hi)).2
      simpa using this
    · cases ht

/-- An argument, opened. -/
theorem open_arg {d base' : Nat} {t : TypeId} (ht : plainT P d t = true) {v : Value} (hval : Value.okWide P w .any base' t v) {D : DataW H} {ps : List MemPlace} (hd : DataW.Trod enc P w base sp held t v D ps) :
    ∃ x : Vl, RV (fun _ => none) (view w) x v ∧ namesV [x] = [] ∧ Typed P t x.cells ∧ ((∃ y, x = .a y) ∨ ∃ fs, P.underlying t = some (.struct fs)) ∧ ((∃ ys, x = .g ys) ∨ ¬ ∃ fs, P.underlying t = some (.struct fs)) := by
  obtain ⟨fuel, hf⟩ := hd
  obtain ⟨xs, r1, r2, r3⟩ := open_cells d t ht fuel _ _ hf
  have hno : ∀ y : At, y.pr = true → y.nm = [] := fun y hy => by cases y <;> simp [At.pr, At.nm] at hy ⊢
  have one : v.cells.toList = [v] → (¬ ∃ fs, P.underlying t = some (.struct fs)) → _ := fun hv hns => (show ∃ x : Vl, RV (fun _ => none) (view w) x v ∧ namesV [x] = [] ∧ Typed P t x.cells ∧ ((∃ y, x = .a y) ∨ ∃ fs, P.underlying t = some (.struct fs)) ∧ ((∃ ys, x = .g ys) ∨ ¬ ∃ fs, P.underlying t = some (.struct fs)) by
    rw [hv] at r1
    match xs, r1, r2, r3 with
    | [y], r1, r2, r3 =>
      obtain ⟨u, g1, g2⟩ := r1.2 0 y rfl
      simp at g1
      subst g1
      exact ⟨.a y, g2, by simp [namesV, Vl.cells, hno y (r2 y (by simp))], r3, .inl ⟨y, rfl⟩, .inr hns⟩
    | [], r1, _, _ => exact absurd r1.1 (by simp)
    | _ :: _ :: _, r1, _, _ => exact absurd r1.1 (by simp))
  cases d with
  | zero => cases ht
  | succ d =>
    simp only [plainT] at ht
    split at ht
    · rename_i hu
      obtain ⟨b, rfl⟩ := okWide_bool hu hval
      exact one rfl (by rw [hu]; simp)
    · rename_i k hu
      obtain ⟨n, rfl⟩ := okWide_int hu hval
      exact one rfl (by rw [hu]; simp)
    · rename_i hu
      obtain ⟨s, rfl⟩ := okWide_string hu hval
      exact one rfl (by rw [hu]; simp)
    · rename_i e hu
      obtain ⟨a, l, c, rfl⟩ := okWide_slice hu hval
      exact one rfl (by rw [hu]; simp)
    · rename_i fs hu
      obtain ⟨cs, rfl, _⟩ := okWide_struct hu hval
      refine ⟨.g xs, ⟨cs, rfl, r1⟩, ?_, r3, .inr ⟨fs, hu⟩, .inl ⟨xs, rfl⟩⟩
      simp only [namesV, Vl.cells, List.flatMap_cons, List.flatMap_nil, List.append_nil, List.flatMap_eq_nil_iff]
      exact fun y hy => hno y (r2 y hy)
    · cases ht

/-- The law's call. -/
theorem law_calls {c : Cfg} (hk : CfgOk P c) {k : Nat} {f : FuncId} {xs : List Vl} {vals : Array Value} (hr : RVs (fun _ => none) (view w) xs vals.toList) (hn : namesV xs = [])
    (e : call c k f xs [] = some ([.a (.bool true)], [])) : Calls P f vals w fun e w' => e = .returned (.bool true) ∧ Below w.heap.size w w' := by
  obtain ⟨_, h⟩ := call_sound hk k f xs [] _ _ e
  have hmm : Mm (fun _ => none) (view w) w [] := by
    refine ⟨?_, ?_, ?_, fun b o e => e, ?_, ?_, ?_, ?_⟩ <;> intro i <;> simp
  refine (h w (fun _ => none) (view w) vals hr (by rw [hn]; simp) hmm).mono ?_
  rintro en w' ⟨us, ι', h', rfl, hp⟩
  have hlen := hp.rv.1
  obtain ⟨u, g1, g2⟩ := hp.rv.2 0 _ rfl
  have hu : u = .bool true := RP.bool_inv (show RP h' (.bool true) u from g2)
  subst hu
  have hus : us = #[.bool true] := by
    apply Array.toList_inj.1
    match hq : us.toList, hlen, g1 with
    | [x], _, g1 => simp at g1; subst g1; rfl
  refine ⟨by rw [hus]; rfl, hp.os, hp.tape, hp.output, hp.grow, fun b hb => hp.frame b hb ?_⟩
  rintro ⟨i, B, L, g, _⟩
  simp at g

/-! From the type to the words. -/
def I (k : IntKind) (l : List Int) : List (List At) := l.map fun x => [At.int k x]
theorem I_length (k : IntKind) (l : List Int) : (I k l).length = l.length := by simp [I]

theorem typed_int {t : TypeId} {k : IntKind} (hu : P.underlying t = some (.int k)) {xs : List At} (h : Typed P t xs) : ∃ n, xs = [.int k n] ∧ (Lit.int k n).wf = true := by
  cases h with
  | int hu' n hw => rw [hu] at hu'; cases hu'; exact ⟨n, rfl, hw⟩
  | bool hu' => rw [hu] at hu'; cases hu'
  | str hu' => rw [hu] at hu'; cases hu'
  | sl hu' => rw [hu] at hu'; cases hu'
  | st hu' => rw [hu] at hu'; cases hu'
theorem typed_bool {t : TypeId} (hu : P.underlying t = some .bool) {xs : List At} (h : Typed P t xs) : ∃ b, xs = [.bool b] := by
  cases h with
  | bool hu' b => exact ⟨b, rfl⟩
  | int hu' => rw [hu] at hu'; cases hu'
  | str hu' => rw [hu] at hu'; cases hu'
  | sl hu' => rw [hu] at hu'; cases hu'
  | st hu' => rw [hu] at hu'; cases hu'
theorem typed_str {t : TypeId} (hu : P.underlying t = some .string) {xs : List At} (h : Typed P t xs) : ∃ s, xs = [.str s] ∧ s.size ≤ maxLen := by
  cases h with
  | str hu' s hs => exact ⟨s, rfl, hs⟩
  | int hu' => rw [hu] at hu'; cases hu'
  | bool hu' => rw [hu] at hu'; cases hu'
  | sl hu' => rw [hu] at hu'; cases hu'
  | st hu' => rw [hu] at hu'; cases hu'
theorem typed_sl {t e : TypeId} (hu : P.underlying t = some (.slice e)) {xs : List At} (h : Typed P t xs) : ∃ els, xs = [.sl (P.cellsOf e) els.length els] ∧ els.length ≤ maxLen ∧ ∀ el ∈ els, Typed P e el := by
  cases h with
  | sl hu' els hn he => rw [hu] at hu'; cases hu'; exact ⟨els, rfl, hn, he⟩
  | int hu' => rw [hu] at hu'; cases hu'
  | bool hu' => rw [hu] at hu'; cases hu'
  | str hu' => rw [hu] at hu'; cases hu'
  | st hu' => rw [hu] at hu'; cases hu'
theorem typed_st {t : TypeId} {fs : Array Field} (hu : P.underlying t = some (.struct fs)) {xs : List At} (h : Typed P t xs) :
    xs.length = P.cellsOf t ∧ ∀ (i : Nat) (f : Field), fs[i]? = some f → Typed P f.type ((xs.drop f.offset).take (P.cellsOf f.type)) := by
  cases h with
  | st hu' cs hl hf => rw [hu] at hu'; cases hu'; exact ⟨hl, hf⟩
  | int hu' => rw [hu] at hu'; cases hu'
  | bool hu' => rw [hu] at hu'; cases hu'
  | str hu' => rw [hu] at hu'; cases hu'
  | sl hu' => rw [hu] at hu'; cases hu'
theorem typed_ints {t e : TypeId} {k : IntKind} (hu : P.underlying t = some (.slice e)) (he : P.underlying e = some (.int k)) {xs : List At} (h : Typed P t xs) :
    ∃ l, xs = [.sl (P.cellsOf e) l.length (I k l)] ∧ l.length ≤ maxLen ∧ ∀ n ∈ l, (Lit.int k n).wf = true := by
  obtain ⟨els, rfl, hn, hel⟩ := typed_sl hu h
  have : ∀ els : List (List At), (∀ el ∈ els, Typed P e el) → ∃ l, els = I k l ∧ ∀ n ∈ l, (Lit.int k n).wf = true := by
    intro els
    induction els with
    | nil => intro _; exact ⟨[], rfl, by simp⟩
    | cons x r ih =>
      intro hx
      obtain ⟨n, rfl, hw⟩ := typed_int he (hx x (List.mem_cons_self ..))
      obtain ⟨l, rfl, hl⟩ := ih fun el hm => hx el (List.mem_cons_of_mem _ hm)
      exact ⟨n :: l, rfl, by simpa using ⟨hw, hl⟩⟩
  obtain ⟨l, rfl, hl⟩ := this els hel
  rw [I_length] at hn ⊢
  exact ⟨l, rfl, hn, hl⟩

end
end Go.Proofs.Ytghdpmejgonjmaa.Am

/- Each plain operation of the program does what the abstract machine says: structs and slices made, cut and looked at. -/
import Derived.Test.YtghdpmejgonjmaaAmOps3
import Derived.Laws.MakeOwn
import Derived.Laws.OwnMore
import Derived.Lib.ConvBytes
set_option linter.unusedVariables false
set_option linter.unusedSimpArgs false
namespace Go.Proofs.Ytghdpmejgonjmaa.Am
open Go

section
variable {P : Program} {n : Nat} {w0 : World} {M0 : Bool → Nat → Prop} {U : Nat → Prop} {ι : Io} {h : Hp} {fr : List (Nat × Sv)} {mem : Mem} {a : Act} {w : World}
  {c : Cfg} {callF : FuncId → List Vl → List Blk → Option (List Vl × List Blk)} {o : Oper} {nx : Nat} {e : Eff}

theorem put_get (cells vs : List Value) (o' : Nat) (hle : o' + vs.length ≤ cells.length) (j : Nat) :
    (cells.take o' ++ vs ++ cells.drop (o' + vs.length))[j]? = if j < o' then cells[j]? else if j < o' + vs.length then vs[j - o']? else cells[j]? := by
  rw [List.append_assoc, List.getElem?_append, List.length_take]
  have e1 : min o' cells.length = o' := by omega
  rw [e1]
  by_cases h1 : j < o'
  · rw [if_pos h1, if_pos h1, List.getElem?_take, if_pos h1]
  · rw [if_neg h1, if_neg h1, List.getElem?_append]
    by_cases h2 : j < o' + vs.length
    · rw [if_pos (by omega), if_pos h2]
    · rw [if_neg (by omega), if_neg h2, List.getElem?_drop]
      congr 1
      omega

theorem fold_set (off : Nat) : ∀ (vs : List Value) (k : Nat) (cells : Array Value), off + k + vs.length ≤ cells.size →
    ((vs.zipIdx k).foldl (fun (cs : Array Value) (p : Value × Nat) => cs.setIfInBounds (off + p.2) p.1) cells).toList = cells.toList.take (off + k) ++ vs ++ cells.toList.drop (off + k + vs.length) := by
  intro vs
  induction vs with
  | nil => intro k cells _; simp
  | cons v vs ih =>
    intro k cells hle
    simp only [List.length_cons] at hle
    simp only [List.zipIdx_cons, List.foldl_cons]
    rw [ih (k + 1) _ (by simp; omega)]
    apply List.ext_getElem?
    intro j
    have l1 : off + (k + 1) + vs.length ≤ (cells.setIfInBounds (off + k) v).toList.length := by simp; omega
    have l2 : off + k + (v :: vs).length ≤ cells.toList.length := by simp; omega
    rw [put_get _ _ _ l1, put_get _ _ _ l2]
    simp only [Array.getElem?_toList, Array.getElem?_setIfInBounds, List.length_cons]
    rcases Nat.lt_trichotomy j (off + k) with hj | hj | hj
    · rw [if_pos (by omega), if_neg (by omega), if_pos hj]
    · subst hj
      rw [if_pos (by omega), if_pos rfl, if_pos (by omega), if_neg (by omega), if_pos (by omega), Nat.sub_self]
      rfl
    · rw [if_neg (by omega), if_neg (by omega : ¬ j < off + k)]
      by_cases h2 : j < off + (k + 1) + vs.length
      · rw [if_pos h2, if_pos (by omega)]
        obtain ⟨q, rfl⟩ : ∃ q, j = off + k + 1 + q := ⟨j - (off + k + 1), by omega⟩
        rw [show off + k + 1 + q - (off + (k + 1)) = q by omega, show off + k + 1 + q - (off + k) = q + 1 by omega]
        rfl
      · rw [if_neg h2, if_neg (by omega), if_neg (by omega)]

theorem fill_one (place : Nat → Option (Nat × Nat)) (cells : Array Value) (i off size : Nat) (v : Value) (rest : List (Nat × Value)) (hp : place i = some (off, size)) (hv : v.cells.size = size) (hle : off + size ≤ cells.size) :
    Instr.fill place cells ((i, v) :: rest) = Instr.fill place (cells.toList.take off ++ v.cells.toList ++ cells.toList.drop (off + v.cells.toList.length)).toArray rest := by
  have hf : (v.cells.zipIdx.foldl (fun cs (x : Value × Nat) => cs.setIfInBounds (off + x.2) x.1) cells) = (cells.toList.take off ++ v.cells.toList ++ cells.toList.drop (off + v.cells.toList.length)).toArray := by
    have hq := fold_set off v.cells.toList 0 cells (by simp; omega)
    simp only [Nat.add_zero] at hq
    rw [← hq]
    rw [← Array.foldl_toList, Array.toList_zipIdx]
  simp only [Instr.fill, hp]
  rw [if_neg (by simp; omega)]
  exact congrArg (fun z => Instr.fill place z rest) hf

/-- What a part of a struct or an array literal is. -/
abbrev partsV (fr : List (Nat × Sv)) (ps : List (Nat × Operand)) : Option (List (Nat × Vl)) := mapO (fun p : Nat × Operand => (evV fr p.2).bind fun v => some (p.1, v)) ps

theorem fillV_sound (hs : Sim n w0 M0 U ι h fr mem a w) {ds : List (Nat × Nat)} {place : Nat → Option (Nat × Nat)} (hpl : ∀ i p, ds[i]? = some p → place i = some p) :
    ∀ {parts : List (Nat × Operand)} {ps : List (Nat × Vl)} {cs cs' : List At} {cells : Array Value}, partsV fr parts = some ps → RL ι h cs cells.toList → (∀ x ∈ cs, ∀ m ∈ x.nm, U m) → fillV ds cs ps = some cs' →
    ∃ cells', Instr.fill place cells (parts.map fun (i, x) => (i, a.eval x)) = some cells' ∧ RL ι h cs' cells'.toList ∧ (∀ x ∈ cs', ∀ m ∈ x.nm, U m) := by
  intro parts
  induction parts with
  | nil =>
    intro ps cs cs' cells hp hR hU hf
    simp [partsV, mapO] at hp
    subst hp
    simp [fillV] at hf
    subst hf
    exact ⟨cells, rfl, hR, hU⟩
  | cons p parts ih =>
    intro ps cs cs' cells hp hR hU hf
    obtain ⟨i, x⟩ := p
    simp only [partsV, mapO, Option.bind_eq_some_iff] at hp
    obtain ⟨iv, ⟨v, e1, e2⟩, ps', e3, e4⟩ := hp
    cases e2
    cases e4
    simp only [fillV, Option.bind_eq_some_iff] at hf
    obtain ⟨⟨off, size⟩, e5, hf⟩ := hf
    split at hf
    · rename_i hc
      obtain ⟨hr, hn⟩ := hs.evV e1
      have hV := RV.cells hr
      have hsz : (a.eval x).cells.size = size := by have := hV.1; simp at this; omega
      have hle : off + size ≤ cells.size := by have := hR.1; simp at this; have := hc.2; simp at this; omega
      have hR' := hR.put hV off
      obtain ⟨cells', h1, h2, h3⟩ := ih (cells := (cells.toList.take off ++ (a.eval x).cells.toList ++ cells.toList.drop (off + (a.eval x).cells.toList.length)).toArray) e3 (by simpa using hR') (fun y hy m hm => by
        rcases mem_putAt hy with h' | h'
        · exact hU y h' m hm
        · exact hn m (by simp only [namesV, List.mem_flatMap]; exact ⟨v, by simp, y, h', hm⟩)) hf
      refine ⟨cells', ?_, h2, h3⟩
      rw [List.map_cons, fill_one place cells i off size (a.eval x) _ (hpl i _ e5) hsz hle]
      exact h1
    · cases hf

theorem putAt_whole {cs xs : List At} (hl : xs.length = cs.length) : putAt cs 0 xs = xs := by
  unfold putAt
  simp [hl]

theorem fillE_sound (hs : Sim n w0 M0 U ι h fr mem a w) {es : Nat} :
    ∀ {parts : List (Nat × Operand)} {ps : List (Nat × Vl)} {els els' : List (List At)} {cells : Array Value}, partsV fr parts = some ps → RBs ι h cells es els → els.length * es = cells.size →
      (∀ e ∈ els, ∀ x ∈ e, ∀ m ∈ x.nm, U m) → fillE es els ps = some els' →
    ∃ cells', Instr.fill (fun i => some (i * es, es)) cells (parts.map fun (i, x) => (i, a.eval x)) = some cells' ∧ RBs ι h cells' es els' ∧ els'.length * es = cells'.size ∧ els'.length = els.length ∧ (∀ e ∈ els', ∀ x ∈ e, ∀ m ∈ x.nm, U m) := by
  intro parts
  induction parts with
  | nil =>
    intro ps els els' cells hp hR hl hU hf
    simp [partsV, mapO] at hp
    subst hp
    simp [fillE] at hf
    subst hf
    exact ⟨cells, rfl, hR, hl, rfl, hU⟩
  | cons p parts ih =>
    intro ps els els' cells hp hR hl hU hf
    obtain ⟨i, x⟩ := p
    simp only [partsV, mapO, Option.bind_eq_some_iff] at hp
    obtain ⟨iv, ⟨v, e1, e2⟩, ps', e3, e4⟩ := hp
    cases e2
    cases e4
    simp only [fillE] at hf
    split at hf
    · rename_i hc
      obtain ⟨hr, hn⟩ := hs.evV e1
      have hV := RV.cells hr
      have hsz : (a.eval x).cells.size = es := by rw [← hc.1, hV.1, Array.length_toList]
      have hel : els[i]? = some els[i] := List.getElem?_eq_getElem hc.2
      obtain ⟨hlen, _⟩ := hR i _ hel
      have hle : i * es + es ≤ cells.size := by
        rw [← hl]
        have : (i + 1) * es ≤ els.length * es := Nat.mul_le_mul_right es hc.2
        rw [Nat.add_mul, Nat.one_mul] at this
        exact this
      have hR' := hR.set hel hV (off := 0) (by have := hc.1; omega) (by simp; omega)
      rw [putAt_whole (by rw [hlen]; exact hc.1)] at hR'
      simp only [Nat.add_zero] at hR'
      obtain ⟨cells', h1, h2, h3, h4, h5⟩ := ih e3 hR' (by simp; rw [hl]; omega) (fun e' he' y hy m hm => by
        rcases List.mem_or_eq_of_mem_set he' with h' | h'
        · exact hU e' h' y hy m hm
        · subst h'
          exact hn m (by simp only [namesV, List.mem_flatMap]; exact ⟨v, by simp, y, hy, hm⟩)) hf
      refine ⟨cells', ?_, h2, h3, by simpa using h4, h5⟩
      rw [List.map_cons, fill_one (fun i => some (i * es, es)) cells i (i * es) es (a.eval x) _ rfl hsz hle]
      exact h1
    · cases hf

theorem pl_build (hT : TyOk P c.T) (hs : Sim n w0 M0 U ι h fr mem a w) {t : TypeId} {parts : Array (Nat × Operand)} (hop : o.op = .build t parts) (he : stp c callF o fr mem nx = some e) :
    Plain P n w0 M0 U ι h fr mem a w nx o e := by
  simp only [stp, hop, Option.bind_eq_some_iff] at he
  obtain ⟨ti, e1, he⟩ := he
  split at he
  · rename_i fs _ hd
    split at he
    · cases he
    · rename_i hz
      have hz : ti.zero.length = ti.size := by simpa using hz
      simp only [Option.bind_eq_some_iff] at he
      obtain ⟨ps, e2, cs, e3, he⟩ := he
      obtain ⟨i, z, hi, hzv, hzs, hzr, hzp⟩ := (hT t ti e1).zero hz
      obtain ⟨D, hD, hD', _⟩ := (hT t ti e1).desc
      rw [hd] at hD'
      obtain ⟨F, rfl, hF1, hF2, _⟩ := hD'
      have hR : RL ι h ti.zero z.cells.toList := ⟨by simp [hzs, hz], fun j x hx => by
        obtain ⟨u, e2, e3⟩ := hzr h j x hx
        exact ⟨u, by simpa using e2, RA.ofRP e3⟩⟩
      have hpl : F.toList.mapM (fun f => (P.info? f.type).map fun i => (f.offset, i.size)) = some fs := by
        have : ∀ (G : List Field) (gs : List (Nat × Nat)), gs.length = G.length → (∀ (j : Nat) (p : Nat × Nat), gs[j]? = some p → ∃ f, G[j]? = some f ∧ f.offset = p.1 ∧ ∃ ti, P.info? f.type = some ti ∧ ti.size = p.2) →
            G.mapM (fun f => (P.info? f.type).map fun i => (f.offset, i.size)) = some gs := by
          intro G
          induction G with
          | nil => intro gs hl _; cases gs <;> simp at hl ⊢
          | cons f G ih =>
            intro gs hl hg
            cases gs with
            | nil => simp at hl
            | cons g gs =>
              obtain ⟨f', q1, q2, ti', q3, q4⟩ := hg 0 g rfl
              simp at q1
              subst q1
              have := ih gs (by simpa using hl) (fun j p hp => by simpa using hg (j + 1) p (by simpa using hp))
              simp [List.mapM_cons, q3, this, q2, q4]
        exact this F.toList fs (by simpa using hF1) (fun j p hp => by simpa using hF2 j p hp)
      obtain ⟨cells', f1, f2, f3⟩ := fillV_sound hs (ds := fs) (place := fun x => (fs.toArray)[x]?) (fun i p hp => by simpa using hp) e2 hR (fun x hx m hm => by
        have := hzp x hx
        cases x <;> simp [At.pr, At.nm] at this hm) e3
      refine .inl ⟨.agg cells', w, ?_, Nxt.valV hs he ⟨_, rfl, f2⟩ ?_⟩
      · have hb : P.built t (parts.map fun (i, x) => (i, a.eval x)).toList = some cells' := by
          unfold Program.built
          simp only [hi, hD, hzv, hpl]
          rw [← f1]
          simp
        have := run_build (P := P) w t (parts.map fun (i, x) => (i, a.eval x)) cells' hb
        simp [execOp, hop, this]
      · intro m hm
        simp only [namesV, Vl.cells, List.flatMap_cons, List.flatMap_nil, List.append_nil, List.mem_flatMap] at hm
        obtain ⟨x, hx, hm⟩ := hm
        exact f3 x hx m hm
  · cases he

theorem made_cells {zs : List At} {z : Value} {k es : Nat} (hz : zs.length = es) (hzs : z.cells.size = es) (hes : 0 < es) (hzr : ∀ (h : Hp) (j : Nat) (x : At), zs[j]? = some x → ∃ u, z.cells[j]? = some u ∧ RP h x u) :
    RBs ι h (madeCells z.cells (k * es)) es (List.replicate k zs) := by
  intro i e' he'
  rw [List.getElem?_replicate] at he'
  split at he'
  · rename_i hi
    cases he'
    refine ⟨hz, fun j x hx => ?_⟩
    obtain ⟨u, e1, e2⟩ := hzr h j x hx
    have hj : j < es := by
      rw [← hz]
      rcases Nat.lt_or_ge j zs.length with h' | h'
      · exact h'
      · rw [List.getElem?_eq_none (by omega)] at hx; cases hx
    refine ⟨u, ?_, RA.ofRP e2⟩
    have hlt : i * es + j < k * es := by
      have : (i + 1) * es ≤ k * es := Nat.mul_le_mul_right es hi
      rw [Nat.add_mul, Nat.one_mul] at this
      omega
    have hmod : (i * es + j) % es = j := by rw [Nat.mul_comm, Nat.mul_add_mod]; exact Nat.mod_eq_of_lt hj
    unfold madeCells
    rw [Array.getElem?_map, Array.getElem?_range, if_pos hlt]
    simp only [Option.map_some, hzs, hmod]
    rw [← e1, Array.getElem?_eq_getElem (by omega)]
    simp [hzs, hj]
  · cases he'

theorem pl_makeSlice (hT : TyOk P c.T) (hs : Sim n w0 M0 U ι h fr mem a w) (hf : ∀ m, nx ≤ m → m < e.nn → ¬ U m) {t : TypeId} {l k : Operand} (hop : o.op = .makeSlice t l k) (he : stp c callF o fr mem nx = some e) :
    Plain P n w0 M0 U ι h fr mem a w nx o e := by
  simp only [stp, hop] at he
  split at he
  · rename_i et ht
    simp only [Option.bind_eq_some_iff] at he
    obtain ⟨te, e1, lv, e2, kv, e3, he⟩ := he
    split at he
    · rename_i hc
      obtain ⟨c1, c2, c3, c4, c5, c6⟩ := hc
      cases he
      obtain ⟨D, hD, rfl, _⟩ := tdOf_ok hT ht
      obtain ⟨kl, hl⟩ := hs.evI e2
      obtain ⟨kk, hk⟩ := hs.evI e3
      obtain ⟨i, z, hi, hzv, hzs, hzr, hzp⟩ := (hT et te e1).zero c6
      obtain ⟨i', hi', hsz, hby⟩ := (hT et te e1).info
      rw [hi] at hi'
      cases hi'
      have hk1 : kv ≤ 140737488355328 := by
        have : kv * 1 ≤ kv * te.bytes := Int.mul_le_mul_of_nonneg_left (by omega) (by omega)
        omega
      have hrun := run_make (P := P) w t et i z hD hi hzv kl kk lv kv c1 c2 (by rw [hby, Int.mul_comm]; omega) (by omega)
      rw [hsz] at hrun
      have hsize : (madeCells z.cells (kv.toNat * te.size)).size = kv.toNat * te.size := size_madeCells _ _
      refine .inl ⟨.slice (some ⟨w.heap.size, 0, none⟩) lv.toNat kv.toNat, w.alloc (.cells (madeCells z.cells (kv.toNat * te.size)) et), by simp [execOp, hop, hl, hk, hrun], ?_⟩
      refine Nxt.made (B := { els := List.replicate kv.toNat te.zero, es := te.size, ty := et, pr := true, fz := false }) hs hf (made_cells c6 hzs c4 hzr) rfl ?_ ?_ ?_ ?_
      · intro m hm
        simp only [Blk.nms, List.mem_flatMap] at hm
        obtain ⟨e', he', x, hx, hm⟩ := hm
        have := List.eq_of_mem_replicate he'
        subst this
        have := hzp x hx
        cases x <;> simp [At.pr, At.nm] at this hm
      · intro _ e' he' x hx
        have := List.eq_of_mem_replicate he'
        subst this
        exact hzp x hx
      · refine .inl ⟨_, kv.toNat, by simp [Io.set]; rfl, by simp, ?_, by omega, by simp [maxLen]; omega⟩
        simp [hsize]
      · intro m hm; simpa [Sv.nms, namesV, Vl.cells, At.nm] using hm
    · cases he
  · cases he

theorem pl_buildSlice (hT : TyOk P c.T) (hs : Sim n w0 M0 U ι h fr mem a w) (hf : ∀ m, nx ≤ m → m < e.nn → ¬ U m) {t : TypeId} {len : Nat} {parts : Array (Nat × Operand)} (hop : o.op = .buildSlice t len parts)
    (he : stp c callF o fr mem nx = some e) : Plain P n w0 M0 U ι h fr mem a w nx o e := by
  simp only [stp, hop] at he
  split at he
  · rename_i et ht
    simp only [Option.bind_eq_some_iff] at he
    obtain ⟨te, e1, ps, e2, els, e3, he⟩ := he
    split at he
    · rename_i hc
      obtain ⟨c1, c2, c3, c6⟩ := hc
      cases he
      obtain ⟨D, hD, rfl, _⟩ := tdOf_ok hT ht
      obtain ⟨i, z, hi, hzv, hzs, hzr, hzp⟩ := (hT et te e1).zero c6
      obtain ⟨i', hi', hsz, hby⟩ := (hT et te e1).info
      rw [hi] at hi'
      cases hi'
      obtain ⟨cells', f1, f2, f3, f4, f5⟩ := fillE_sound hs (es := te.size) (cells := madeCells z.cells (len * te.size)) e2 (made_cells c6 hzs c2 hzr) (by rw [size_madeCells]; simp) (fun e' he' x hx m hm => by
        have := List.eq_of_mem_replicate he'
        subst this
        have := hzp x hx
        cases x <;> simp [At.pr, At.nm] at this hm) e3
      have f4' : els.length = len := by simpa using f4
      refine .inl ⟨.slice (some ⟨w.heap.size, 0, none⟩) len len, w.alloc (.cells cells' et), ?_, ?_⟩
      · have f1' : Instr.fill (fun i => some (i * te.size, te.size)) (madeCells z.cells (len * te.size)) (parts.toList.map fun x => (x.1, a.eval x.2)) = some cells' := f1
        have hn : ¬ (16777216 < len * te.size) := by omega
        by_cases h0 : len * te.size = 0
        · have hz0 : madeCells z.cells (len * te.size) = #[] := by rw [h0]; simp [madeCells]
          rw [hz0] at f1'
          simp [execOp, hop, Instr.buildSlice, run_underlying hD, run_sizeOf hi, hsz, h0, Array.range_zero', f1', newRow]
        · simp only [madeCells] at f1'
          simp [execOp, hop, Instr.buildSlice, run_underlying hD, run_sizeOf hi, hsz, h0, hn, run_zeroValue' hi hzv, f1', newRow]
      · refine Nxt.made (B := { els := els, es := te.size, ty := et, pr := els.all fun e => e.all At.pr, fz := false }) hs hf f2 rfl ?_ ?_ ?_ ?_
        · intro m hm
          simp only [Blk.nms, List.mem_flatMap] at hm
          obtain ⟨e', he', x, hx, hm⟩ := hm
          exact f5 e' he' x hx m hm
        · intro hp e' he' x hx
          have hp : (els.all fun e => e.all At.pr) = true := hp
          exact List.all_eq_true.1 (List.all_eq_true.1 hp e' he') x hx
        · refine .inl ⟨_, len, by simp [Io.set]; rfl, by simp, ?_, Nat.le_refl _, by simp [maxLen]; omega⟩
          simp [← f3, f4']
        · intro m hm; simpa [Sv.nms, namesV, Vl.cells, At.nm] using hm
    · cases he
  · cases he

end
end Go.Proofs.Ytghdpmejgonjmaa.Am

/- Each plain operation of the program does what the abstract machine says: conversions, append. -/
import Derived.Test.YtgiamleohegjeaaMA1
import Derived.Maps.AppendAt
import Derived.MapKept
import Derived.Carry
import Derived.LoopN
import Derived.ChangeArms
import Derived.OpenShut
import Derived.ShutString
import Derived.SizedLaws

set_option linter.unusedVariables false
set_option linter.unusedSimpArgs false
namespace Go.Proofs.Ytgiamleohegjeaa.Am
open Go

section
variable {P : Program} {n : Nat} {w0 : World} {M0 : Bool → Nat → Prop} {U : Nat → Prop} {ι : Io} {h : Hp} {fr : List (Nat × Sv)} {mem : Mem} {a : Act} {w w' : World}
 {c : Cfg} {callF : FuncId → List Vl → List Blk → Option (List Vl × List Blk)} {o : Oper} {nx : Nat} {e : Eff}

theorem RP.isPr {h : Hp} {x : At} {v : Value} (hr : RP h x v) : x.pr = true := by cases hr <;> rfl

/-- The world has grown; of what was there one block at most was written, and nobody knows of it. -/
theorem Sim.grown (hs : Sim n w0 M0 U ι h fr mem a w) {row : Option Nat} (hg : w.grownBy w' row)
  (hrow : ∀ g, row = some g → (∀ m B L, mget mem m = some B → ι m = some L → ¬ Ft w L B g) ∧ h g = none ∧ (w0.heap.size ≤ g ∨ M0 false g)) : Sim n w0 M0 U ι h fr mem a w' := by
 have hold : ∀ b, b < w.heap.size → some b ≠ row → w'.heap[b]? = w.heap[b]? := hg.block
 have hne : ∀ {b : Nat} {o : Obj}, h b = some o → some b ≠ row := by
  intro b o e hq
  have := (hrow b hq.symm).2.1
  rw [e] at this
  cases this
 have hne2 : ∀ {m B L b}, mget mem m = some B → ι m = some L → Ft w L B b → some b ≠ row := by
  intro m B L b e l f hq
  exact (hrow b hq.symm).1 m B L e l f
 have old : ∀ {m B L b}, mget mem m = some B → ι m = some L → Ft w' L B b → Ft w L B b := by
  intro m B L b e l f
  exact f.to (hold _ (hs.hdom m L l).2 (hne2 e l Ft.self)).symm rfl rfl
 refine { hs with hmem := ?_, hinjF := ?_, hsub := ?_, hmutF := ?_, hfrzF := ?_, hownF := ?_, hown2F := ?_, hframe := ?_, hgrow := Nat.le_trans hs.hgrow hg.size, hos := hg.os.trans hs.hos, htape := hg.tape.trans hs.htape, houtput := hg.output.trans hs.houtput, hdom := ?_ }
 ·intro m B e
  exact (hs.hmem m B e).to rfl (fun L b hL f => hold _ (hs.ftlt e hL f) (hne2 e hL f)) (Sub.refl h) fun _ _ => rfl
 ·intro m m' B B' L L' b e e' l l' f f'
  exact hs.hinjF m m' B B' L L' b e e' l l' (old e l f) (old e' l' f')
 ·intro b o e
  rw [hold b (hs.hlt e) (hne e)]
  exact hs.hsub b o e
 ·intro m B L b e hz l f
  exact hs.hmutF m B L b e hz l (old e l f)
 ·intro m B L b e hz l f
  rw [hold _ (hs.ftlt e l (old e l f)) (hne2 e l (old e l f))]
  exact hs.hfrzF m B L b e hz l (old e l f)
 ·intro m B L b e hz l f
  exact hs.hownF m B L b e hz l (old e l f)
 ·intro m B L b e l f
  exact hs.hown2F m B L b e l (old e l f)
 ·intro b hb hM
  by_cases hq : some b = row
  ·rcases (hrow b hq.symm).2.2 with h1 | h1
   ·omega
   ·exact absurd h1 hM
  ·rw [hold b (Nat.lt_of_lt_of_le hb hs.hgrow) hq]
   exact hs.hframe b hb hM
 ·intro m L l
  exact ⟨(hs.hdom m L l).1, Nat.lt_of_lt_of_le (hs.hdom m L l).2 hg.size⟩

/-- Cells that lie side by side, and the elements that they are. -/
def RF (ι : Io) (h : Hp) (cells : List Value) (es : Nat) (els : List (List At)) : Prop :=
 cells.length = els.length * es ∧ ∀ (i : Nat) (e : List At), els[i]? = some e → e.length = es ∧ ∀ (j : Nat) (x : At), e[j]? = some x → ∃ u, cells[i * es + j]? = some u ∧ RA ι h x u
theorem RF.append {cs ds : List Value} {es : Nat} {els fls : List (List At)} (h1 : RF ι h cs es els) (h2 : RF ι h ds es fls) : RF ι h (cs ++ ds) es (els ++ fls) := by
 refine ⟨by simp [h1.1, h2.1, Nat.add_mul], fun i e he => ?_⟩
 rw [List.getElem?_append] at he
 split at he
 ·rename_i hi
  obtain ⟨q1, q2⟩ := h1.2 i e he
  refine ⟨q1, fun j x hx => ?_⟩
  obtain ⟨u, q3, q4⟩ := q2 j x hx
  refine ⟨u, ?_, q4⟩
  rw [List.getElem?_append, if_pos]
  ·exact q3
  ·rcases Nat.lt_or_ge (i * es + j) cs.length with h' | h'
   ·exact h'
   ·rw [List.getElem?_eq_none (by omega)] at q3; cases q3
 ·rename_i hi
  obtain ⟨q1, q2⟩ := h2.2 _ e he
  refine ⟨q1, fun j x hx => ?_⟩
  obtain ⟨u, q3, q4⟩ := q2 j x hx
  refine ⟨u, ?_, q4⟩
  have hle : els.length * es ≤ i * es := Nat.mul_le_mul_right es (by omega)
  rw [List.getElem?_append, if_neg (by rw [h1.1]; omega), h1.1, ← q3]
  congr 1
  rw [Nat.sub_mul]
  omega
theorem RF.ofCells {C : Array Value} {es off : Nat} {els : List (List At)} (hes : 0 < es) (hr : ∀ (i : Nat) (e : List At), els[i]? = some e → e.length = es ∧ ∀ (j : Nat) (x : At), e[j]? = some x → ∃ u, C[off + (i * es + j)]? = some u ∧ RA ι h x u) :
  RF ι h ((C.toList.drop off).take (els.length * es)) es els := by
 have hlen : ((C.toList.drop off).take (els.length * es)).length = els.length * es := by
  rcases Nat.eq_zero_or_pos els.length with h0 | h0
  ·rw [h0]; simp
  ·have hi : els[els.length - 1]? = some els[els.length - 1] := List.getElem?_eq_getElem (by omega)
   obtain ⟨q1, q2⟩ := hr _ _ hi
   have hj : (els[els.length - 1])[es - 1]? = some ((els[els.length - 1])[es - 1]'(by rw [q1]; omega)) := List.getElem?_eq_getElem _
   obtain ⟨u, q3, _⟩ := q2 _ _ hj
   have q4 := (Array.getElem?_eq_some_iff.1 q3).1
   have q5 : els.length * es = (els.length - 1) * es + es := by rw [← Nat.succ_mul]; congr 1; omega
   simp
   omega
 refine ⟨hlen, fun i e he => ?_⟩
 obtain ⟨q1, q2⟩ := hr i e he
 refine ⟨q1, fun j x hx => ?_⟩
 obtain ⟨u, q3, q4⟩ := q2 j x hx
 refine ⟨u, ?_, q4⟩
 have hi : i < els.length := by
  rcases Nat.lt_or_ge i els.length with h' | h'
  ·exact h'
  ·rw [List.getElem?_eq_none (by omega)] at he; cases he
 have hj : j < es := by
  rw [← q1]
  rcases Nat.lt_or_ge j e.length with h' | h'
  ·exact h'
  ·rw [List.getElem?_eq_none (by omega)] at hx; cases hx
 have hlt : i * es + j < els.length * es := by
  have : (i + 1) * es ≤ els.length * es := Nat.mul_le_mul_right es hi
  rw [Nat.add_mul, Nat.one_mul] at this
  omega
 rw [List.getElem?_take, if_pos hlt, List.getElem?_drop, Array.getElem?_toList]
 exact q3

theorem Sim.elsOf (hs : Sim n w0 M0 U ι h fr mem a w) {x : At} {u : Value} {es k : Nat} {els : List (List At)} {pr : Bool} {rd : List Nat} (hes : 0 < es) (hr : RA ι h x u) (he : Am.elsOf mem es x = some (k, els, pr, rd)) :
  els.length = k ∧ (∀ m ∈ els.flatMap (fun e => e.flatMap At.nm), U m) ∧ (pr = true → ∀ e ∈ els, ∀ y ∈ e, y.pr = true) ∧
  ((∃ A c', u = .slice (some A) k c' ∧ ∃ cells, RF ι h cells es els ∧ ∀ j v, cells[j]? = some v → w.cell? (A.add j) = some v) ∨ (k = 0 ∧ els = [] ∧ ∃ c', u = .slice none 0 c')) := by
 unfold Am.elsOf at he
 split at he
 ·rename_i es' k' els'
  split at he
  ·rename_i hq
   subst hq
   cases he
   have hr : RP h _ _ := hr
   cases hr with
   | sl0 _ A c' =>
    refine ⟨rfl, by simp, by simp, ?_⟩
    cases A with
    | none => exact .inr ⟨rfl, rfl, c', rfl⟩
    | some A => exact .inl ⟨A, c', rfl, [], ⟨by simp, by simp⟩, by simp⟩
   | sl _ _ b off c' _ C t z us hb hnl hcp hl hu hrr =>
    have hf := RF.ofCells (ι := ι) (h := h) (C := C) (off := off) hes (fun i e he => ⟨hl i e he, fun j y hy => ⟨us i j, hu i e j y he hy, RA.ofRP (hrr i e j y he hy)⟩⟩)
    refine ⟨hnl, ?_, ?_, .inl ⟨⟨b, off, none⟩, c', rfl, _, hf, ?_⟩⟩
    ·intro m hm
     simp only [List.mem_flatMap] at hm
     obtain ⟨e, he, y, hy, hm⟩ := hm
     obtain ⟨i, hi⟩ := List.getElem?_of_mem he
     obtain ⟨j, hj⟩ := List.getElem?_of_mem hy
     rw [RP.nm (hrr i e j y hi hj)] at hm
     cases hm
    ·intro _ e he y hy
     obtain ⟨i, hi⟩ := List.getElem?_of_mem he
     obtain ⟨j, hj⟩ := List.getElem?_of_mem hy
     exact RP.isPr (hrr i e j y hi hj)
    ·intro j v hj
     rw [List.getElem?_take] at hj
     split at hj
     ·rw [List.getElem?_drop, Array.getElem?_toList] at hj
      rw [Addr.add_mid, cell_of (hs.hsub _ _ hb)]
      exact hj
     ·cases hj
  ·cases he
 ·cases he
  have hr : RP h _ _ := hr
  cases hr
  exact ⟨rfl, by simp, by simp, .inr ⟨rfl, rfl, 0, rfl⟩⟩
 ·rename_i m lo k'
  simp only [Option.bind_eq_some_iff] at he
  obtain ⟨B, e1, he⟩ := he
  split at he
  ·rename_i hq
   obtain ⟨hq, hle, how⟩ := hq
   cases he
   have hlen : ((B.els.drop lo).take k).length = k := by simp; omega
   have hmem : ∀ e ∈ (B.els.drop lo).take k, e ∈ B.els := fun e he => List.mem_of_mem_drop (List.mem_of_mem_take he)
   refine ⟨hlen, ?_, ?_, ?_⟩
   ·intro m' hm
    simp only [List.mem_flatMap] at hm
    obtain ⟨e, he, y, hy, hm⟩ := hm
    exact (hs.hnb m B e1).2 m' (by simp only [Blk.nms, List.mem_flatMap]; exact ⟨e, hmem e he, y, hy, hm⟩)
   ·intro hp e he y hy
    exact hs.hpr m B e1 hp e (hmem e he) y hy
   ·have hb := hs.hmem m B e1
    rcases hr with ⟨L, cap, hL, hx, hcap, hkc, hmax⟩ | ⟨hL, hb0, hk0, hx⟩
    ·obtain ⟨C, h1, h2, h3, h4⟩ := hb.cells hL how fun _ h0 _ => by omega
     rw [hq] at h3 h4
     have hf := RF.ofCells (ι := ι) (h := h) (C := C) (off := lo * es) (els := (B.els.drop lo).take k) hes (fun i e he => by
      rw [List.getElem?_take] at he
      split at he
      ·rw [List.getElem?_drop] at he
       obtain ⟨q1, q2⟩ := h4 _ e he
       refine ⟨q1, fun j y hy => ?_⟩
       obtain ⟨v, q3, q4⟩ := q2 j y hy
       refine ⟨v, ?_, q4⟩
       rw [← q3, Nat.add_mul]
       congr 1
       omega
      ·cases he)
     rw [h3] at hx
     refine .inl ⟨⟨L.b, lo * es, none⟩, cap, hx, _, hf, ?_⟩
     intro j v hj
     rw [List.getElem?_take] at hj
     split at hj
     ·rw [List.getElem?_drop, Array.getElem?_toList] at hj
      rw [Addr.add_mid, cell_of h1]
      exact hj
     ·cases hj
    ·refine .inr ⟨hk0, ?_, 0, hx⟩
     simp [hb.els0 hL]
  ·cases he
 ·cases he

theorem append_nothing {t ty e : TypeId} {i : TypeInfo} (ht : P.underlying t = some (.slice e)) (hi : P.info? e = some i) (base : Option Addr) (sLen sCap : Nat) (hle : sLen ≤ sCap) (A : Option Addr) (c' : Nat) :
  (Builtin.append_ #[t, t] ty #[.slice base sLen sCap, .slice A 0 c']).run P w = .ok (.slice base sLen sCap) w := by
 have hz : ∀ q, (Builtin.firstCells i.size 0 (.slice A q c')).run P w = .ok #[] w := by
  intro q
  cases A <;> simp [Builtin.firstCells, loadCells, loadCellsFrom]
 cases base with
 | none => simp [Builtin.append_, run_underlying ht, run_sizeOf hi, Builtin.lenOf, hle, hz]
 | some b => simp [Builtin.append_, run_underlying ht, run_sizeOf hi, Builtin.lenOf, hle, hz, storeCells]

theorem append_sound (hT : TyOk P c.T) (hs : Sim n w0 M0 U ι h fr mem a w) {t : TypeId} {s x : At} {vs vx : Value} (hf : ∀ m, nx ≤ m → m < e.nn → ¬ U m) (hrs : RA ι h s vs) (hrx : RA ι h x vx) (hns : ∀ m ∈ s.nm, U m)
  (he : stpAppend c t s x mem nx = some e) (ty : TypeId) :
  ∃ u w', (Builtin.append_ #[t, t] ty #[vs, vx]).run P w = .ok u w' ∧ Nxt n w0 M0 U ι h fr mem nx e a u w' := by
 unfold stpAppend at he
 split at he
 ·rename_i et ht
  simp only [Option.bind_eq_some_iff] at he
  obtain ⟨te, e1, ⟨k, els, pr, rd⟩, e2, ⟨bels, bn, bpr, brd⟩, e3, he⟩ := he
  split at he
  ·rename_i hc
   obtain ⟨c1, c2, c3, c4⟩ := hc
   cases he
   obtain ⟨D, hD, rfl, -⟩ := tdOf_ok hT ht
   obtain ⟨ti, ht1, ht2, ht3⟩ := (hT et te e1).info
   obtain ⟨hkl, hnm, hpr, hsrc⟩ := hs.elsOf c2 hrx e2
   simp only at c1
   have h63 : bn + k ≤ maxLen := by
    have : (bn + k) * 1 ≤ (bn + k) * te.bytes := Nat.mul_le_mul_left _ c3
    simp [maxLen]
    omega
   -- what the old slice is
   have hbase : (vs = .slice none 0 0 ∧ bn = 0 ∧ bels = [] ∧ bpr = true ∧ brd = []) ∨
     (∃ m B L cap C, s = .sm m 0 bn ∧ mget mem m = some B ∧ ι m = some L ∧ vs = .slice (some ⟨L.b, 0, none⟩) bn cap ∧ cap * te.size = L.sz ∧ bn ≤ cap ∧ cap ≤ maxLen ∧ w.heap[L.b]? = some (.cells C et (0, 0)) ∧ C.size = L.sz ∧
      L.es = te.size ∧ RBs ι h C te.size B.els ∧ bn ≤ B.els.length ∧ B.fz = false ∧ bels = B.els.take bn ∧ bpr = B.pr ∧ brd = [m]) ∨
     (∃ m B, s = .sm m 0 0 ∧ mget mem m = some B ∧ ι m = none ∧ vs = .slice none 0 0 ∧ bn = 0 ∧ bels = [] ∧ bpr = B.pr ∧ brd = [m]) := by
    split at e3
    ·cases e3
     have hrs : RP h _ _ := hrs
     cases hrs
     exact .inl ⟨rfl, rfl, rfl, rfl, rfl⟩
    ·rename_i m lo k'
     simp only [Option.bind_eq_some_iff] at e3
     obtain ⟨B, e4, e3⟩ := e3
     split at e3
     ·rename_i hq
      obtain ⟨q1, q2, q3, q4, q5, how⟩ := hq
      cases e3
      subst q1
      have hb := hs.hmem m B e4
      rcases hrs with ⟨L, cap, hL, hx, hcap, hkc, hmax⟩ | ⟨hL, hb0, hk0, hx⟩
      ·obtain ⟨C, h1, h2, h3, h4⟩ := hb.cells hL how fun _ h0 _ => by omega
       rw [q2] at h3 h4
       rw [q3] at h1
       refine .inr (.inl ⟨m, B, L, cap, C, rfl, e4, hL, by rw [hx]; simp, by rw [← h3, ← hcap]; simp, hkc, hmax, h1, h2, h3, h4, q4, by simpa using q5, rfl, rfl, rfl⟩)
      ·have hb := hb.els0 hL
       subst hk0
       exact .inr (.inr ⟨m, B, rfl, e4, hL, hx, rfl, by simp, rfl, rfl⟩)
     ·cases e3
    ·cases e3
   -- the memory without the old name
   have hmem1 : ∃ mem1, (∀ b, updM mem (brd.map (fun m => (m, none)) ++ [(nx, some b)]) = set1 mem1 (nx, some b)) ∧ Sim n w0 M0 U ι h fr mem1 a w ∧ (∀ m B, mget mem1 m = some B → mget mem m = some B ∧ m ∉ brd) := by
    rcases hbase with ⟨_, _, _, _, rfl⟩ | ⟨m, B, L, cap, C, _, _, _, _, _, _, _, _, _, _, _, _, _, _, _, rfl⟩ | ⟨m, B, _, _, _, _, _, _, _, rfl⟩
    ·exact ⟨mem, fun b => rfl, hs, fun m B e => ⟨e, by simp⟩⟩
    all_goals
     refine ⟨set1 mem (m, none), fun b => rfl, hs.drop m, fun m' B' e => ?_⟩
     rw [mget_set1] at e
     by_cases hq : m = m'
     ·rw [if_pos hq] at e; cases e
     ·rw [if_neg hq] at e; exact ⟨e, by simp; exact Ne.symm hq⟩
   obtain ⟨mem1, hm1, hs1, hm2⟩ := hmem1
   have hbpr : bpr = true → ∀ e ∈ bels, ∀ y ∈ e, y.pr = true := by
    rcases hbase with ⟨_, _, rfl, _, _⟩ | ⟨m, B, L, cap, C, _, hB, _, _, _, _, _, _, _, _, _, _, _, rfl, rfl, _⟩ | ⟨m, B, _, _, _, _, _, rfl, _, _⟩
    ·simp
    ·intro hp e he y hy
     exact hs.hpr m B hB hp e (List.mem_of_mem_take he) y hy
    ·simp
   have hbnm : ∀ m' ∈ bels.flatMap (fun e => e.flatMap At.nm), U m' := by
    rcases hbase with ⟨_, _, rfl, _, _⟩ | ⟨m, B, L, cap, C, _, hB, _, _, _, _, _, _, _, _, _, _, _, rfl, rfl, _⟩ | ⟨m, B, _, _, _, _, _, rfl, _, _⟩
    ·simp
    ·intro m' hm'
     simp only [List.mem_flatMap] at hm'
     obtain ⟨e, he, y, hy, hm'⟩ := hm'
     exact (hs.hnb m B hB).2 m' (by simp only [Blk.nms, List.mem_flatMap]; exact ⟨e, List.mem_of_mem_take he, y, hy, hm'⟩)
    ·simp
   have hprB : (bpr && pr) = true → ∀ e ∈ bels ++ els, ∀ y ∈ e, y.pr = true := by
    intro hp e he
    rw [Bool.and_eq_true] at hp
    rcases List.mem_append.1 he with h' | h'
    ·exact hbpr hp.1 e h'
    ·exact hpr hp.2 e h'
   have hnmB : ∀ m' ∈ (bels ++ els).flatMap (fun e => e.flatMap At.nm), U m' := by
    intro m' hm'
    rw [List.flatMap_append, List.mem_append] at hm'
    rcases hm' with h' | h'
    ·exact hbnm m' h'
    ·exact hnm m' h'
   have hfU : ¬ U nx := hf nx (Nat.le_refl _) (Nat.lt_succ_self _)
   -- the end, where the answer is nil
   have hnil : ∀ w', Sim n w0 M0 U ι h fr mem1 a w' → bn + k = 0 → ∀ u, u = .slice none 0 0 → Nxt n w0 M0 U ι h fr mem nx
     { v := .v (.a (.sm nx 0 (bn + k))), upd := brd.map (fun m => (m, none)) ++ [(nx, some (Blk.mk (bels ++ els) te.size et (bpr && pr) false true [] none))], nn := nx + 1, rd := brd ++ rd } a u w' := by
    intro w' hs1 h0 u hu
    have hb0 : bels ++ els = [] := by
     have h1 : els = [] := List.eq_nil_of_length_eq_zero (by omega)
     have h2 : bels = [] := by
      rcases hbase with ⟨_, _, rfl, _, _⟩ | ⟨m, B, L, cap, C, _, hB, _, _, _, _, _, _, _, _, _, _, _, rfl, rfl, _⟩ | ⟨m, B, _, _, _, _, _, rfl, _, _⟩
      ·rfl
      ·have : bn = 0 := by omega
       subst this
       simp
      ·rfl
     rw [h1, h2]; rfl
    have hιn : ι nx = none := by
     cases hL : ι nx with
     | none => rfl
     | some L => exact absurd (hs.hdom nx L hL).1 hfU
    refine ⟨ι, h, Sub.refl h, fun _ _ => rfl, ?_, ?_, ?_, Nat.le_succ _, fun _ _ _ => rfl⟩
    ·simp only
     rw [hm1]
     exact (hs1.nameNil nx hfU (Blk.mk (bels ++ els) te.size et (bpr && pr) false true [] none) hb0 rfl).weak fun m hm => by
      rcases hm with hm | rfl
      ·exact .inl hm
      ·exact .inr ⟨Nat.le_refl _, Nat.lt_succ_self _⟩
    ·rw [h0]; exact .inr ⟨hιn, rfl, rfl, hu⟩
    ·intro m hm
     simp [Sv.nms, namesV, Vl.cells, At.nm] at hm
     exact .inr ⟨by omega, by show m < nx + 1; omega⟩
   -- the cells of the old slice
   have hown : ∃ xs, w.ownsRow 0 et te.size vs bn xs ∧ RF ι h xs te.size bels ∧ (∀ g, vs.ownBlock = some g → h g = none ∧ (w0.heap.size ≤ g ∨ M0 false g) ∧ (w0.heap.size ≤ g ∨ M0 true g) ∧ (∀ m B L, mget mem1 m = some B → ι m = some L → ¬ Ft w L B g)) := by
    have hnilc : vs = .slice none 0 0 → bn = 0 → bels = [] → ∃ xs, w.ownsRow 0 et te.size vs bn xs ∧ RF ι h xs te.size bels ∧ (∀ g, vs.ownBlock = some g → h g = none ∧ (w0.heap.size ≤ g ∨ M0 false g) ∧ (w0.heap.size ≤ g ∨ M0 true g) ∧ (∀ m B L, mget mem1 m = some B → ι m = some L → ¬ Ft w L B g)) := by
     rintro rfl rfl rfl
     exact ⟨[], ⟨by simp, .inl ⟨rfl, rfl⟩⟩, ⟨by simp, by simp⟩, by intro g hg; cases hg⟩
    rcases hbase with ⟨q1, q2, q3, _, _⟩ | ⟨m, B, L, cap, C, q0, hB, hL, q1, q2, q3, q4, q5, q6, q7, q8, q9, q10, rfl, _, rfl⟩ | ⟨m, B, _, _, _, q1, q2, q3, _, _⟩
    ·exact hnilc q1 q2 q3
    ·subst q1
     have hf := RF.ofCells (ι := ι) (h := h) (C := C) (off := 0) (els := B.els.take bn) c2 (fun i e he => by
      rw [List.getElem?_take] at he
      split at he
      ·obtain ⟨r1, r2⟩ := q8 i e he
       exact ⟨r1, fun j y hy => by
        obtain ⟨v, r3, r4⟩ := r2 j y hy
        exact ⟨v, by rw [← r3]; congr 1; omega, r4⟩⟩
      ·cases he)
     have hbl : (B.els.take bn).length = bn := by simp; omega
     rw [hbl, List.drop_zero] at hf
     refine ⟨C.toList.take (bn * te.size), ⟨by rw [hf.1, hbl], .inr ⟨L.b, cap, C, rfl, Nat.zero_le _, q5, q3, q4, by rw [q6, q2], rfl⟩⟩, hf, ?_⟩
     intro g hg
     simp [Value.ownBlock] at hg
     subst hg
     refine ⟨hs.hmut m B L hB q10 hL, hs.hown m B L hB q10 hL, hs.hown2 m B L hB hL, ?_⟩
     intro m' B' L' e' l' hq
     obtain ⟨r1, r2⟩ := hm2 m' B' e'
     exact r2 (by simp; exact hs.hinjF m' m B' B L' L L.b r1 hB l' hL hq Ft.self)
    ·exact hnilc q1 q2 q3
   have hnew : ∀ (w' : World) (hs1 : Sim n w0 M0 U ι h fr mem1 a w') (g cap : Nat) (cur : Array Value) (cells : List Value), w'.heap[g]? = some (.cells cur et (0, 0)) → cur.size = cap * te.size → bn + k ≤ cap → cap ≤ maxLen →
     cur.toList.take ((bn + k) * te.size) = cells → RF ι h cells te.size (bels ++ els) → (∀ m' B' L', mget mem1 m' = some B' → ι m' = some L' → ¬ Ft w' L' B' g) → h g = none → (w0.heap.size ≤ g ∨ M0 false g) → (w0.heap.size ≤ g ∨ M0 true g) →
     Nxt n w0 M0 U ι h fr mem nx { v := .v (.a (.sm nx 0 (bn + k))), upd := brd.map (fun m => (m, none)) ++ [(nx, some (Blk.mk (bels ++ els) te.size et (bpr && pr) false true [] none))], nn := nx + 1, rd := brd ++ rd } a
      (.slice (some ⟨g, 0, none⟩) (bn + k) cap) w' := by
    intro w' hs1 g cap cur cells hg hsz hle hmax htake hrf hno hh hown hown2
    have hr : RBs ι h cur te.size (bels ++ els) := by
     intro i el hel
     obtain ⟨q1, q2⟩ := hrf.2 i el hel
     refine ⟨q1, fun j y hy => ?_⟩
     obtain ⟨u, q3, q4⟩ := q2 j y hy
     refine ⟨u, ?_, q4⟩
     rw [← htake, List.getElem?_take] at q3
     split at q3
     ·rwa [Array.getElem?_toList] at q3
     ·cases q3
    refine ⟨ι.set nx ⟨g, cur.size, te.size⟩, h, Sub.refl h, fun m hm => by unfold Io.set; rw [if_neg]; rintro rfl; exact hm ⟨Nat.le_refl _, Nat.lt_succ_self _⟩, ?_, ?_, ?_, Nat.le_succ _, fun _ _ _ => rfl⟩
    ·simp only
     rw [hm1]
     exact (hs1.name nx hfU (Blk.mk (bels ++ els) te.size et (bpr && pr) false true [] none) ⟨g, cur.size, te.size⟩ hg rfl rfl (by show te.size ≠ 0; omega) hr rfl rfl hno hh hown hown2 hnmB hprB).weak fun m hm => by
      rcases hm with hm | rfl
      ·exact .inl hm
      ·exact .inr ⟨Nat.le_refl _, Nat.lt_succ_self _⟩
    ·exact .inl ⟨⟨g, cur.size, te.size⟩, cap, by simp [Io.set], by simp, by simp [hsz], hle, hmax⟩
    ·intro m hm
     simp [Sv.nms, namesV, Vl.cells, At.nm] at hm
     exact .inr ⟨by omega, by show m < nx + 1; omega⟩
   obtain ⟨i, z, hi, hzv, hzs, _, _⟩ := (hT et te e1).zero c4
   rw [ht1] at hi
   cases hi
   obtain ⟨xs, ho1, ho2, ho3⟩ := hown
   rcases hsrc with ⟨A, c', rfl, cells, hcf, hcell⟩ | ⟨hk0, hels, c', rfl⟩
   ·have hone : ∀ u ∈ cells, u.oneCell' = true := by
     intro u hu
     obtain ⟨q, hq⟩ := List.getElem?_of_mem hu
     have hql : q < els.length * te.size := by
      rw [← hcf.1]
      rcases Nat.lt_or_ge q cells.length with h' | h'
      ·exact h'
      ·rw [List.getElem?_eq_none (by omega)] at hq; cases hq
     have hqi : q / te.size < els.length := Nat.div_lt_of_lt_mul (by rw [Nat.mul_comm]; exact hql)
     obtain ⟨r1, r2⟩ := hcf.2 (q / te.size) _ (List.getElem?_eq_getElem hqi)
     have hqj : q % te.size < els[q / te.size].length := by rw [r1]; exact Nat.mod_lt _ c2
     obtain ⟨u', r3, r4⟩ := r2 (q % te.size) _ (List.getElem?_eq_getElem hqj)
     rw [Nat.mul_comm, Nat.div_add_mod, hq] at r3
     cases r3
     exact r4.oneCell
    obtain ⟨v', w', r1, r2, r3, r4, r5⟩ := run_append_own_at (P := P) (w := w) 0 t ty et ti z te.size te.bytes hD ht1 hzv ht2 ht3 hzs c2 vs bn xs ho1 A k c' cells (by rw [hcf.1, hkl]) hcell hone h63 (by simpa using c1) (Nat.zero_le _)
    refine ⟨v', w', r1, ?_⟩
    have hs1' : Sim n w0 M0 U ι h fr mem1 a w' := hs1.grown r3 fun g hg => ⟨(ho3 g hg).2.2.2, (ho3 g hg).1, (ho3 g hg).2.1⟩
    rcases r2.2 with ⟨q1, q2⟩ | ⟨g, cap, cur, rfl, _, q1, q2, q3, q4, q5⟩
    ·exact hnil w' hs1' q2 v' q1
    ·refine hnew w' hs1' g cap cur _ q1 q4 q2 q3 q5 (ho2.append hcf) ?_ ?_ ?_ ?_
     ·intro m' B' L' e' l' hq
      have hq : Ft w L' B' g := hq.to (r3.block L'.b (hs1.hdom m' L' l').2 fun hq2 => (ho3 L'.b hq2.symm).2.2.2 m' B' L' e' l' Ft.self).symm rfl rfl
      rcases r5 with r5 | r5
      ·exact (ho3 g (by rw [← r5]; rfl)).2.2.2 m' B' L' e' l' hq
      ·simp [Value.ownBlock] at r5
       have := hs1.ftlt e' l' hq
       omega
     ·rcases r5 with r5 | r5
      ·exact (ho3 g (by rw [← r5]; rfl)).1
      ·simp [Value.ownBlock] at r5
       subst r5
       cases hq : h w.heap.size with
       | none => rfl
       | some o => exact absurd (hs.hlt hq) (by omega)
     ·rcases r5 with r5 | r5
      ·exact (ho3 g (by rw [← r5]; rfl)).2.1
      ·simp [Value.ownBlock] at r5
       subst r5
       exact .inl hs.hgrow
     ·rcases r5 with r5 | r5
      ·exact (ho3 g (by rw [← r5]; rfl)).2.2.1
      ·simp [Value.ownBlock] at r5
       subst r5
       exact .inl hs.hgrow
   ·subst hk0
    subst hels
    rcases ho1.2 with ⟨q1, q2⟩ | ⟨g, cap, cur, rfl, _, q1, q2, q3, q4, q5⟩
    ·subst q1
     subst q2
     exact ⟨_, w, append_nothing hD ht1 none 0 0 (Nat.le_refl _) none c', hnil w hs1 rfl _ rfl⟩
    ·refine ⟨_, w, append_nothing hD ht1 _ bn cap q2 none c', ?_⟩
     have := hnew w hs1 g cap cur xs q1 q4 (by omega) q3 (by simpa using q5) (by simpa using ho2) (ho3 g rfl).2.2.2 (ho3 g rfl).1 (ho3 g rfl).2.1 (ho3 g rfl).2.2.1
     simpa using this
  ·cases he
 ·cases he

end

section
variable {P : Program} {n : Nat} {w0 : World} {M0 : Bool → Nat → Prop} {U : Nat → Prop} {ι : Io} {h : Hp} {fr : List (Nat × Sv)} {mem : Mem} {a : Act} {w w' : World}
 {c : Cfg} {callF : FuncId → List Vl → List Blk → Option (List Vl × List Blk)} {o : Oper} {nx : Nat} {e : Eff}

theorem pl_append (hT : TyOk P c.T) (hs : Sim n w0 M0 U ι h fr mem a w) (hf : ∀ m, nx ≤ m → m < e.nn → ¬ U m) {args : Array Operand} {ats : Array TypeId} (hop : o.op = .call { callee := .builtin .append, args := args, argTypes := ats })
  (he : stp c callF o fr mem nx = some e) : Plain P n w0 M0 U ι h fr mem a w nx o e := by
 simp only [stp, hop, Option.bind_eq_some_iff] at he
 obtain ⟨t, e1, t', e2, s, ⟨so, e3, e4⟩, x, ⟨xo, e5, e6⟩, he⟩ := he
 split at he
 ·rename_i ht
  subst ht
  obtain ⟨hr, hn⟩ := hs.evA e4
  obtain ⟨hr', hn'⟩ := hs.evA e6
  obtain ⟨u, w', h1, h2⟩ := append_sound hT hs hf hr hr' hn he o.type
  refine .inl ⟨u, w', ?_, h2⟩
  have hA : (Builtin.append_ ats o.type (args.map a.eval)).run P w = .ok u w' := by
   rw [← h1]
   unfold Builtin.append_
   simp [e1, e2, e3, e5]
  simp [execOp, hop, resolve, invoke, builtin, hA]
 ·cases he

theorem pl_makeFunc (hs : Sim n w0 M0 U ι h fr mem a w) {fn : Fn} {first cs : Array Operand} (hop : o.op = .makeFunc fn first cs) (he : stp c callF o fr mem nx = some e) : Plain P n w0 M0 U ι h fr mem a w nx o e := by
 simp only [stp, hop] at he
 split at he
 ·rename_i hf
  split at he
  ·rename_i f
   simp only [Option.bind_eq_some_iff] at he
   obtain ⟨xs, e1, ps, e2, he⟩ := he
   cases he
   obtain ⟨h1, s1, s2, s4, s5, s6⟩ := hs.frzStep (ps.flatMap (·.2))
   have hlen := (mapO_some e1).1
   have hlen2 := (mapO_some e2).1
   have hat : ∀ (j : Nat) (y : At), (ps.map (·.1))[j]? = some y → ∃ u, (cs.map a.eval)[j]? = some u ∧ RP h1 y u := by
    intro j y hy
    simp only [List.getElem?_map, Option.map_eq_some_iff] at hy
    obtain ⟨p, hp, rfl⟩ := hy
    obtain ⟨x, hx, hxp⟩ := mapO_some_inv e2 j p hp
    obtain ⟨o', q1, q2⟩ := mapO_some_inv e1 j x hx
    have q1' : cs[j]? = some o' := by simpa using q1
    refine ⟨a.eval o', by simp [q1'], ?_⟩
    have hr := (hs.evA q2).1
    cases x with
    | ptr m i o =>
     simp only [capA, Option.bind_eq_some_iff] at hxp
     obtain ⟨B, b1, hxp⟩ := hxp
     split at hxp
     ·rename_i hpr
      simp only [Option.bind_eq_some_iff] at hxp
      obtain ⟨el, b2, hxp⟩ := hxp
      cases hxp
      obtain ⟨L, hL, hv⟩ := hr
      rw [hv]
      obtain ⟨C, c1, c2, c3, c4⟩ := (hs.hmem m B b1).cells hL hpr.2 fun h0 _ _ => by rw [h0] at b2; simp at b2
      have hh := s2 m (List.mem_flatMap.2 ⟨_, List.mem_of_getElem? hp, List.mem_singleton.2 rfl⟩) B L L.b b1 hL Ft.self
      rw [c1] at hh
      refine .pp el o L.b (i * L.es) C B.ty (0, 0) (fun j => (C[i * L.es + j]?).getD default) hh ?_ ?_
      ·intro j x hx
       obtain ⟨u, d1, d2⟩ := (c4 i el b2).2 j x hx
       rw [c3, d1]; rfl
      ·intro j x hx
       obtain ⟨u, d1, d2⟩ := (c4 i el b2).2 j x hx
       simp only [c3, d1, Option.getD_some]
       exact RP.mono s1 (RA.toRP (hs.hpr m B b1 hpr.1 el (List.mem_of_getElem? b2) x (List.mem_of_getElem? hx)) d2)
     ·cases hxp
    | sm m lo n => cases hxp
    | mp m => cases hxp
    | ptq m i es => cases hxp
    | _ => cases hxp; exact RP.mono s1 hr
   have hn := Nxt.frz (rd' := ps.flatMap (·.2)) s1 s6 (Nxt.valP s4 (nx := nx) (x := .fn f (ps.map (·.1))) (u := .func (.func f) #[] (cs.map a.eval)) rfl
    (.fn f _ _ (fun j => ((cs.map a.eval)[j]?).getD undef) (by simp [hlen, hlen2]) (fun j x hx => by
     obtain ⟨u, q1, _⟩ := hat j x hx
     rw [q1]; rfl) (fun j x hx => by
     obtain ⟨u, q1, q2⟩ := hat j x hx
     rw [q1]; exact q2)))
   rw [List.append_nil] at hn
   refine .inl ⟨.func (.func f) #[] (cs.map a.eval), w, ?_, hn⟩
   have hf' : first = #[] := by simpa using hf
   simp [execOp, hop, Instr.makeFunc, hf']
  ·cases he
 ·cases he

/-- A memory that says the same. -/
theorem Sim.memEq (hs : Sim n w0 M0 U ι h fr mem a w) {mem' : Mem} (hm : ∀ m, mget mem' m = mget mem m) : Sim n w0 M0 U ι h fr mem' a w :=
 { hs with
  hmem := fun x B e => hs.hmem x B (by rw [← hm]; exact e)
  hinjF := fun x y B1 B2 L1 L2 b e1 e2 => hs.hinjF x y B1 B2 L1 L2 b (by rw [← hm]; exact e1) (by rw [← hm]; exact e2)
  hmutF := fun x B L b e => hs.hmutF x B L b (by rw [← hm]; exact e)
  hfrzF := fun x B L b e => hs.hfrzF x B L b (by rw [← hm]; exact e)
  hownF := fun x B L b e => hs.hownF x B L b (by rw [← hm]; exact e)
  hown2F := fun x B L b e => hs.hown2F x B L b (by rw [← hm]; exact e)
  hnb := fun x B e => hs.hnb x B (by rw [← hm]; exact e)
  hpr := fun x B e => hs.hpr x B (by rw [← hm]; exact e) }
theorem RBs.size {C : Array Value} {es k : Nat} {els : List (List At)} (hr : RBs ι h C es els) (hes : 0 < es) (hk : k ≤ els.length) : k * es ≤ C.size := by
 rcases Nat.eq_zero_or_pos k with rfl | h0
 ·simp
 ·obtain ⟨q1, q2⟩ := hr (k - 1) els[k - 1] (List.getElem?_eq_getElem (by omega))
  obtain ⟨u, q3, _⟩ := q2 (es - 1) ((els[k - 1])[es - 1]'(by rw [q1]; omega)) (List.getElem?_eq_getElem _)
  have q4 := (Array.getElem?_eq_some_iff.1 q3).1
  have : k * es = (k - 1) * es + es := by rw [← Nat.succ_mul]; congr 1; omega
  omega
theorem getElem_some_lt {α : Type} {l : List α} {j : Nat} {x : α} (e : l[j]? = some x) : j < l.length := (List.getElem?_eq_some_iff.1 e).1
/-- Some elements anew. -/
theorem RBs.splice {C V : Array Value} {es lo : Nat} {els fls : List (List At)} (hr : RBs ι h C es els) (hv : RBs ι h V es fls) (hes : 0 < es) (hl : lo + fls.length ≤ els.length) (hV : V.size = fls.length * es) :
  RBs ι h (C.toList.take (lo * es) ++ V.toList ++ C.toList.drop (lo * es + V.toList.length)).toArray es (els.take lo ++ fls ++ els.drop (lo + fls.length)) := by
 have hC := hr.size hes hl
 have hC0 := hr.size hes (show lo ≤ els.length by omega)
 rw [Nat.add_mul] at hC
 have hl1 : (C.toList.take (lo * es)).length = lo * es := by simp; omega
 have hV' : V.toList.length = fls.length * es := by simpa using hV
 have hl0 : (els.take lo).length = lo := by simp; omega
 intro i e he
 rw [List.append_assoc, List.getElem?_append, hl0] at he
 simp only [List.getElem?_toArray]
 split at he
 ·rename_i hi
  rw [List.getElem?_take, if_pos hi] at he
  obtain ⟨q1, q2⟩ := hr i e he
  refine ⟨q1, fun j x hx => ?_⟩
  obtain ⟨u, q3, q4⟩ := q2 j x hx
  have hj : j < es := by rw [← q1]; exact getElem_some_lt hx
  have hm : (i + 1) * es ≤ lo * es := Nat.mul_le_mul_right es hi
  rw [Nat.add_mul, Nat.one_mul] at hm
  refine ⟨u, ?_, q4⟩
  rw [List.append_assoc, List.getElem?_append, hl1, if_pos (by omega), List.getElem?_take, if_pos (by omega), Array.getElem?_toList]
  exact q3
 ·rename_i hi
  rw [List.getElem?_append] at he
  split at he
  ·rename_i hi2
   obtain ⟨q1, q2⟩ := hv _ e he
   refine ⟨q1, fun j x hx => ?_⟩
   obtain ⟨u, q3, q4⟩ := q2 j x hx
   have hj : j < es := by rw [← q1]; exact getElem_some_lt hx
   have hm : (i - lo + 1) * es ≤ fls.length * es := Nat.mul_le_mul_right es hi2
   have hm2 : lo * es ≤ i * es := Nat.mul_le_mul_right es (by omega)
   rw [Nat.add_mul, Nat.one_mul, Nat.sub_mul] at hm
   rw [Nat.sub_mul] at q3
   refine ⟨u, ?_, q4⟩
   rw [List.append_assoc, List.getElem?_append, hl1, if_neg (by omega), List.getElem?_append, hV', if_pos (by omega), Array.getElem?_toList, ← q3]
   congr 1
   omega
  ·rename_i hi2
   rw [List.getElem?_drop] at he
   have hi3 : lo + fls.length + (i - lo - fls.length) = i := by omega
   rw [hi3] at he
   obtain ⟨q1, q2⟩ := hr i e he
   refine ⟨q1, fun j x hx => ?_⟩
   obtain ⟨u, q3, q4⟩ := q2 j x hx
   have hm : (lo + fls.length) * es ≤ i * es := Nat.mul_le_mul_right es (by omega)
   rw [Nat.add_mul] at hm
   refine ⟨u, ?_, q4⟩
   rw [List.append_assoc, List.getElem?_append, hl1, if_neg (by omega), List.getElem?_append, hV', if_neg (by omega), List.getElem?_drop, Array.getElem?_toList, ← q3]
   congr 1
   omega
theorem pl_clear (hT : TyOk P c.T) (hs : Sim n w0 M0 U ι h fr mem a w) {args : Array Operand} {ats : Array TypeId} (hop : o.op = .call { callee := .builtin .clear, args := args, argTypes := ats })
  (he : stp c callF o fr mem nx = some e) : Plain P n w0 M0 U ι h fr mem a w nx o e := by
 simp only [stp, hop, Option.bind_eq_some_iff] at he
 obtain ⟨t, e1, y, ⟨x, e3, e4⟩, he⟩ := he
 obtain ⟨hr, hn⟩ := hs.evA e4
 unfold stpClear at he
 split at he
 ·rename_i et ht
  simp only [Option.bind_eq_some_iff] at he
  obtain ⟨te, e5, he⟩ := he
  obtain ⟨D, hD, rfl, _⟩ := tdOf_ok hT ht
  have hrun : ∀ w', (Builtin.clear_ ats o.type (args.map a.eval)).run P w = .ok (.tuple #[]) w' → (execOp a.eval o).run P w = .ok (.value (.tuple #[])) w' := by
   intro w' hk
   simp [execOp, hop, resolve, invoke, builtin, hk]
  have hnil : RS ι h (.t []) (.tuple #[]) := ⟨#[], rfl, rfl, by simp⟩
  have h00 : ∀ A c', a.eval x = .slice A 0 c' → (Builtin.clear_ ats o.type (args.map a.eval)).run P w = .ok (.tuple #[]) w := by
   intro A c' hx
   cases A <;> simp [Builtin.clear_, e1, e3, run_underlying hD, hx]
  split at he
  ·cases he
   have hr : RP h _ _ := hr
   have hx : a.eval x = .slice none 0 0 := by
    generalize a.eval x = q at hr
    cases hr
    rfl
   exact .inl ⟨_, w, hrun _ (h00 _ _ hx), Nxt.val hs hnil (by intro m hm; simp [Sv.nms, namesV] at hm)⟩
  ·rename_i m lo k
   simp only [Option.bind_eq_some_iff] at he
   obtain ⟨B, e6, he⟩ := he
   split at he
   ·rename_i hc
    obtain ⟨c1, c2, c3, c4, c5, how⟩ := hc
    have hfz : B.fz = false := by simpa using c3
    cases he
    have stay : ∀ u, (execOp a.eval o).run P w = .ok (.value u) w → u = .tuple #[] → B.els.take lo ++ List.replicate k (zf te) ++ B.els.drop (lo + k) = B.els →
      Plain P n w0 M0 U ι h fr mem a w nx o { v := .t [], upd := [(m, some { B with els := B.els.take lo ++ List.replicate k (zf te) ++ B.els.drop (lo + k) })], nn := nx, rd := [m] } := by
     intro u q1 q2 q3
     subst q2
     refine .inl ⟨_, w, q1, ι, h, Sub.refl h, fun _ _ => rfl, ?_, hnil, (by intro m hm; simp [Sv.nms, namesV] at hm), Nat.le_refl _, fun _ _ _ => rfl⟩
     refine Sim.weak (U := U) (hs.memEq fun x => ?_) (fun m hm => .inl hm)
     simp only [updM]
     rw [mget_set1]
     split
     ·rename_i hx; subst hx; rw [e6, q3]
     ·rfl
    rcases Nat.eq_zero_or_pos k with rfl | hk0
    ·have hx : ∃ A c', a.eval x = .slice A 0 c' := by
      rcases hr with ⟨L, c', _, hx, _⟩ | ⟨_, _, hk, hx⟩
      ·exact ⟨_, _, hx⟩
      ·exact ⟨_, _, hx⟩
     obtain ⟨A, c', hx⟩ := hx
     exact stay _ (hrun _ (h00 _ _ hx)) rfl (by simp)
    ·rcases hr with ⟨L, cap, hL, hx, hcap, hkc, hmax⟩ | ⟨_, _, hk, hx⟩
     ·have hes : 0 < B.es := by omega
      obtain ⟨C, b1, b2, b3, b4⟩ := (hs.hmem m B e6).cells hL how fun _ h0 _ => by omega
      obtain ⟨i, z, hi, hzv, hzs, hzr, hzp, c7⟩ := (hT et te e5).zeroF c4
      have hV := made_cells (ι := ι) (h := h) (k := k) c7 hzs c5 hzr
      rw [c2] at b4 b3
      have hVs : (madeCells z.cells (k * te.size)).size = (List.replicate k (zf te)).length * te.size := by rw [size_madeCells]; simp
      have hin : lo * te.size + (madeCells z.cells (k * te.size)).toList.length ≤ C.size := by
       have := b4.size c5 c1
       rw [Nat.add_mul] at this
       simp only [Array.length_toList, hVs, List.length_replicate]
       exact this
      have hone : ∀ u ∈ (madeCells z.cells (k * te.size)).toList, u.oneCell' = true := by
       intro u hu
       obtain ⟨j, hj⟩ := List.getElem?_of_mem hu
       have hjl : j < k * te.size := by
        have := getElem_some_lt hj
        simpa [hVs] using this
       have h1 : j / te.size < k := Nat.div_lt_of_lt_mul (by rw [Nat.mul_comm]; exact hjl)
       have h2 : j % te.size < te.size := Nat.mod_lt _ c5
       obtain ⟨q1, q2⟩ := hV (j / te.size) (zf te) (by rw [List.getElem?_replicate, if_pos h1])
       obtain ⟨u', q3, q4⟩ := q2 (j % te.size) ((zf te)[j % te.size]'(by omega)) (List.getElem?_eq_getElem _)
       rw [Nat.mul_comm (j / te.size), Nat.div_add_mod] at q3
       have : u = u' := by
        have hj' : (madeCells z.cells (k * te.size))[j]? = some u := by simpa using hj
        rw [hj'] at q3
        cases q3; rfl
       subst this
       exact q4.oneCell
      have hst := run_storeCells_at (P := P) L.b (lo * te.size) B.ty (madeCells z.cells (k * te.size)).toList 0 C w b1 (by simpa using hin) hone
      refine .inl ⟨_, _, hrun _ ?_, ι, h, Sub.refl h, fun _ _ => rfl, (?_ : Sim n w0 M0 _ ι h fr (set1 mem _) a (w.setRow L.b (C.toList.take (lo * te.size) ++ (madeCells z.cells (k * te.size)).toList ++ C.toList.drop (lo * te.size + (madeCells z.cells (k * te.size)).toList.length)).toArray)), hnil, (by intro m hm; simp [Sv.nms, namesV] at hm), Nat.le_refl _, fun _ _ _ => rfl⟩
      ·have hst' : (storeCells { block := L.b, off := lo * te.size, spot := none } (madeCells z.cells (k * te.size)).toList).run P w = _ := hst
       have hz : Builtin.zeroCells z.cells k = madeCells z.cells (k * te.size) := by unfold Builtin.zeroCells madeCells; rw [hzs]
       have hk1 : ∀ q, k = q + 1 → True := fun _ _ => trivial
       obtain ⟨k', rfl⟩ : ∃ k', k = k' + 1 := ⟨k - 1, by omega⟩
       simp only [Builtin.clear_, Sem.run_bind]
       simp [e1, e3, run_underlying hD, hx, run_zeroValue' hi hzv, hz, b3]
       simp at hst'
       rw [hst']
       simp
      ·refine Sim.weak (Sim.write (B' := { B with els := B.els.take lo ++ List.replicate k (zf te) ++ B.els.drop (lo + k) }) hs e6 hfz hL b1 ?_ rfl rfl hfz how how ?_ (by rw [b3, c2]) ?_ ?_) (fun m hm => .inl hm)
       ·rw [← b2]; simp only [Array.length_toList] at hin; simp; omega
       ·have := b4.splice (lo := lo) hV c5 (by simpa using c1) hVs
        rw [List.length_replicate] at this
        rw [← c2] at this ⊢
        exact this
       ·intro m' hm'
        simp only [Blk.nms, List.mem_flatMap] at hm'
        obtain ⟨e', he', q, hq, hm'⟩ := hm'
        have old : e' ∈ B.els → U m' := fun h' => (hs.hnb m B e6).2 m' (by simp only [Blk.nms, List.mem_flatMap]; exact ⟨e', h', q, hq, hm'⟩)
        rcases List.mem_append.1 he' with h' | h'
        ·rcases List.mem_append.1 h' with h' | h'
         ·exact old (List.mem_of_mem_take h')
         ·have := (List.mem_replicate.1 h').2
          subst this
          have := hzp q hq
          cases q <;> simp [At.pr, At.nm] at this hm'
        ·exact old (List.mem_of_mem_drop h')
       ·intro hp e' he' q hq
        have old : e' ∈ B.els → q.pr = true := fun h' => hs.hpr m B e6 hp e' h' q hq
        rcases List.mem_append.1 he' with h' | h'
        ·rcases List.mem_append.1 h' with h' | h'
         ·exact old (List.mem_of_mem_take h')
         ·have := (List.mem_replicate.1 h').2
          subst this
          exact hzp q hq
        ·exact old (List.mem_of_mem_drop h')
     ·omega
   ·cases he
  ·cases he
 ·cases he

/-- New memory that nobody writes. -/
theorem Sim.persist (hs : Sim n w0 M0 U ι h fr mem a w) {h' : Hp} (hg : w.grownBy w' none) (hsub : Sub h h') (hin : ∀ b o, h' b = some o → w'.heap[b]? = some o) (hold : ∀ b, b < w.heap.size → h' b = h b) :
  Sim n w0 M0 U ι h' fr mem a w' := by
 have hs' := hs.grown hg (fun g hg => by cases hg)
 have old : ∀ {m B L b}, mget mem m = some B → ι m = some L → Ft w' L B b → Ft w L B b := fun e l f => f.to (hg.block _ (hs.hdom _ _ l).2 (by simp)).symm rfl rfl
 refine { hs' with hfr := ?_, hmem := ?_, hsub := hin, hmutF := ?_, hfrzF := ?_ }
 ·intro t v e
  obtain ⟨u, e1, e2⟩ := hs.hfr t v e
  exact ⟨u, e1, e2.mono hsub fun _ _ => rfl⟩
 ·intro m B e
  exact (hs'.hmem m B e).to rfl (fun _ _ _ _ => rfl) hsub fun _ _ => rfl
 ·intro m B L b e hz l f
  rw [hold _ (hs.ftlt e l (old e l f))]
  exact hs.hmutF m B L b e hz l (old e l f)
 ·intro m B L b e hz l f
  rw [hold _ (hs.ftlt e l (old e l f))]
  exact hs'.hfrzF m B L b e hz l f

theorem byteEls_spec : ∀ {els : List (List At)} {bs : List UInt8}, byteEls els = some bs → bs.length = els.length ∧ ∀ (i : Nat) (el : List At), els[i]? = some el → ∃ k : Int, el = [At.int .u8 k] ∧ bs[i]? = some (UInt8.ofNat k.toNat) := by
 intro els
 induction els with
 | nil => intro bs h; simp [byteEls] at h; subst h; simp
 | cons el els ih =>
  intro bs h
  unfold byteEls at h
  split at h
  ·rename_i hq; cases hq
  ·rename_i k r heq
   cases heq
   simp only [Option.bind_eq_some_iff] at h
   obtain ⟨xs, h1, h2⟩ := h
   cases h2
   obtain ⟨q1, q2⟩ := ih h1
   refine ⟨by simp [q1], fun i el hi => ?_⟩
   cases i with
   | zero => simp at hi; subst hi; exact ⟨k, rfl, rfl⟩
   | succ i => simp at hi; simpa using q2 i el hi
  ·cases h

theorem pl_convert (hT : TyOk P c.T) (hs : Sim n w0 M0 U ι h fr mem a w) (hf : ∀ m, nx ≤ m → m < e.nn → ¬ U m) {src dst : TypeId} {x : Operand} (hop : o.op = .convert src dst x) (he : stp c callF o fr mem nx = some e) :
  Plain P n w0 M0 U ι h fr mem a w nx o e := by
 simp only [stp, hop, Option.bind_eq_some_iff] at he
 obtain ⟨y, e1, he⟩ := he
 obtain ⟨hr, hn⟩ := hs.evA e1
 have hrun : ∀ u w', (convert src dst (a.eval x)).run P w = .ok u w' → (execOp a.eval o).run P w = .ok (.value u) w' := by
  intro u w' hu
  simp [execOp, hop, hu]
 split at he
 ·rename_i et hs1 hd1
  split at he
  ·rename_i het
   simp only [Option.bind_eq_some_iff] at he
   obtain ⟨⟨k, els, pr, rd⟩, e2, bs, e3, he⟩ := he
   cases he
   obtain ⟨D1, hD1, rfl, -⟩ := tdOf_ok hT hs1
   obtain ⟨D2, hD2, rfl, -⟩ := tdOf_ok hT hd1
   obtain ⟨D3, hD3, rfl, -⟩ := tdOf_ok hT het
   obtain ⟨hkl, hnm, hpr, hsrc⟩ := hs.elsOf (by omega) hr e2
   obtain ⟨b1, b2⟩ := byteEls_spec e3
   simp only at b1 b2
   rcases hsrc with ⟨A, c', hx, cells, hcf, hcell⟩ | ⟨hk0, hels, c', hx⟩
   ·have hval : ∀ i, i < k → ∃ q : Int, els[i]? = some [At.int .u8 q] ∧ bs[i]? = some (UInt8.ofNat q.toNat) ∧ w.cell? (A.add i) = some (.int .u8 q) := by
     intro i hi
     have hel : els[i]? = some els[i] := List.getElem?_eq_getElem (by omega)
     obtain ⟨q, q1, q2⟩ := b2 i _ hel
     obtain ⟨_, r2⟩ := hcf.2 i _ hel
     obtain ⟨u, r3, r4⟩ := r2 0 (.int .u8 q) (by rw [q1]; rfl)
     simp at r3
     have hu := RP.int_inv' r4
     subst hu
     exact ⟨q, by rw [hel, q1], q2, hcell i _ r3⟩
    refine .inl ⟨.string ⟨bs.toArray⟩, w, hrun _ _ ?_, Nxt.val hs (.str _) (by simp [Sv.nms, namesV, Vl.cells, At.nm])⟩
    rw [hx]
    rcases Nat.eq_zero_or_pos k with h0 | h0
    ·subst h0
     have hbs : bs = [] := List.eq_nil_of_length_eq_zero (by rw [b1, hkl])
     subst hbs
     simp [convert, run_underlying hD1, run_underlying hD2, run_underlying hD3, Conv.bytesToString, loadCells, loadCellsFrom, ByteArray.empty, ByteArray.emptyWithCapacity] <;> rfl
    ·obtain ⟨q0, _, _, hc0⟩ := hval 0 h0
     have hA : ∃ b off, A = ⟨b, off, none⟩ := by
      obtain ⟨b, off, spot⟩ := A
      cases spot with
      | none => exact ⟨b, off, rfl⟩
      | some s =>
       simp [Addr.add, World.cell?] at hc0
       split at hc0 <;> simp at hc0
     obtain ⟨b, off, rfl⟩ := hA
     let xs : List Int := els.map fun el => match el with | [At.int _ q] => q | _ => 0
     have hxs : ∀ i, i < k → ∀ q, els[i]? = some [At.int .u8 q] → xs.getD i 0 = q := by
      intro i hi q hq
      simp [xs, List.getD_eq_getElem?_getD, hq]
     have := run_convert_bytes_arg (P := P) w src et hD1 hD3 b off k c' xs (by simp [xs, hkl]) (fun i hi => by
      obtain ⟨q, r1, r2, r3⟩ := hval i hi
      rw [hxs i hi q r1]
      rw [Addr.add_mid] at r3
      exact r3) dst hD2
     rw [this]
     congr 2
     unfold strOfNums
     congr 1
     apply Array.toList_inj.1
     simp only [List.toList_toArray]
     apply List.ext_getElem?
     intro i
     rcases Nat.lt_or_ge i k with hi | hi
     ·obtain ⟨q, r1, r2, _⟩ := hval i hi
      simp [xs, r1, r2]
     ·rw [List.getElem?_eq_none (by simp [xs]; omega), List.getElem?_eq_none (by omega)]
   ·subst hk0
    have hbs : bs = [] := List.eq_nil_of_length_eq_zero (by rw [b1, hkl])
    subst hbs
    refine .inl ⟨_, w, hrun _ _ (by rw [hx]; exact run_convert_bytes_nil w src et hD1 hD3 0 c' dst hD2), Nxt.val hs (.str _) (by simp [Sv.nms, namesV, Vl.cells, At.nm])⟩
  ·cases he
 ·simp only [valA, Option.bind_eq_some_iff] at he
  obtain ⟨z, e2, he⟩ := he
  unfold convA at e2
  split at e2
  ·split at e2
   ·rename_i hs1 hd1
    cases e2
    obtain ⟨D1, hD1, rfl, -⟩ := tdOf_ok hT hs1
    obtain ⟨D2, hD2, rfl, -⟩ := tdOf_ok hT hd1
    have hx := RP.int_inv' hr
    refine .inl ⟨_, w, hrun _ _ ?_, Nxt.valP hs he (.int _ _)⟩
    rw [hx]
    simp [convert, run_underlying hD1, run_underlying hD2, Conv.intToInt]
   ·cases e2
  ·rename_i s
   have hx := RP.str_inv hr
   split at e2
   ·rename_i hs1 hd1
    cases e2
    obtain ⟨D1, hD1, rfl, -⟩ := tdOf_ok hT hs1
    obtain ⟨D2, hD2, rfl, -⟩ := tdOf_ok hT hd1
    refine .inl ⟨_, w, hrun _ _ ?_, Nxt.valP hs he (.str _)⟩
    rw [hx]
    simp [convert, run_underlying hD1, run_underlying hD2]
   ·rename_i et hs1 hd1
    split at e2
    ·rename_i het
     cases e2
     obtain ⟨D1, hD1, rfl, -⟩ := tdOf_ok hT hs1
     obtain ⟨D2, hD2, rfl, -⟩ := tdOf_ok hT hd1
     obtain ⟨D3, hD3, rfl, -⟩ := tdOf_ok hT het
     have hrun' := Lib.run_convert_string_bytes (P := P) w src dst et s hD1 hD2 hD3
     let h' : Hp := fun b => if b = w.heap.size then (Lib.bytesWorld w et s).heap[b]? else h b
     have hold : ∀ b, b < w.heap.size → h' b = h b := fun b hb => by
      show (if b = w.heap.size then _ else _) = _
      rw [if_neg (by omega)]
     have hsub : Sub h h' := fun b o' e' => by rw [hold b (hs.hlt e')]; exact e'
     have hg : w.grownBy (Lib.bytesWorld w et s) none := ⟨rfl, rfl, rfl, by rw [Lib.bytesWorld_size]; omega, fun b hb _ => Lib.bytesWorld_at_old w et s b hb⟩
     have hs' := hs.persist (h' := h') hg hsub (fun b o' e' => by
      have e'' : (if b = w.heap.size then (Lib.bytesWorld w et s).heap[b]? else h b) = some o' := e'
      split at e''
      ·exact e''
      ·rw [Lib.bytesWorld_at_old w et s b (hs.hlt e'')]; exact hs.hsub b o' e'') hold
     simp only [val, Option.some.injEq] at he
     subst he
     refine .inl ⟨_, _, hrun _ _ (by rw [hx]; exact hrun'), ι, h', hsub, fun _ _ => rfl, hs'.weak fun _ hm => .inl hm, ?_, by simp [Sv.nms, namesV, Vl.cells, At.nm], Nat.le_refl _, fun b hb _ => hold b (Nat.lt_of_lt_of_le hb hs.hgrow)⟩
     have hnew : h' w.heap.size = some (.cells (Lib.bytesCells w et s) et ((Lib.bytesCells w et s).size, (Lib.bytesCells w et s).size + 1)) := by
      show (if w.heap.size = w.heap.size then _ else _) = _
      rw [if_pos rfl, Lib.bytesWorld_at_new]
     refine .sl (h := h') s.size _ w.heap.size 0 (grownCap w s.size 0 et) 1 _ et _ (fun i _ => .int .u8 ((s.data.toList.getD i 0).toNat : Int)) hnew (by simp) ?_ ?_ ?_ ?_
     ·simp [grownCap, Question.cut]
     ·intro i el hi
      rw [List.getElem?_map] at hi
      cases hq : s.data.toList[i]? with
      | none => rw [hq] at hi; cases hi
      | some b => rw [hq] at hi; simp at hi; subst hi; rfl
     ·intro i el j y hi hj
      rw [List.getElem?_map] at hi
      cases hq : s.data.toList[i]? with
      | none => rw [hq] at hi; cases hi
      | some b =>
       rw [hq] at hi; simp at hi; subst hi
       have hj0 : j = 0 := by cases j <;> simp at hj ⊢
       subst hj0
       have hlt : i < s.data.size := by
        rcases Nat.lt_or_ge i s.data.size with h'' | h''
        ·exact h''
        ·rw [List.getElem?_eq_none (by simpa using h'')] at hq; cases hq
       have hlt' : i < s.size := hlt
       have hq' : s.data[i]? = some b := by simpa using hq
       simp [Lib.bytesCells, Array.getElem?_append, hlt', hq']
     ·intro i el j y hi hj
      rw [List.getElem?_map] at hi
      cases hq : s.data.toList[i]? with
      | none => rw [hq] at hi; cases hi
      | some b =>
       rw [hq] at hi; simp at hi; subst hi
       cases j with
       | succ j => simp at hj
       | zero =>
        simp at hj
        subst hj
        rw [List.getD_eq_getElem?_getD, hq]
        exact .int _ _
    ·cases e2
   ·cases e2
  ·cases e2

end
end Go.Proofs.Ytgiamleohegjeaa.Am
namespace Go.Proofs.Ytgiamleohegjeaa.Am
open Go Go.MapKept Go.RowKit

section
variable {P : Program} {n : Nat} {w0 : World} {M0 : Bool → Nat → Prop} {U : Nat → Prop} {ι : Io} {h h1 : Hp} {fr : List (Nat × Sv)} {mem mem1 : Mem} {a : Act} {w w' : World}
 {c : Cfg} {callF : FuncId → List Vl → List Blk → Option (List Vl × List Blk)} {o : Oper} {nx : Nat} {e : Eff}

theorem pl_makeMap (hs : Sim n w0 M0 U ι h fr mem a w) (hf : ∀ m, nx ≤ m → m < e.nn → ¬ U m) {t : TypeId} {r : Option Operand} (hop : o.op = .makeMap t r) (he : stp c callF o fr mem nx = some e) : Plain P n w0 M0 U ι h fr mem a w nx o e := by
 simp only [stp, hop] at he
 split at he
 ·rename_i hr
  cases he
  cases r with
  | some r => simp at hr
  | none =>
   refine .inl ⟨.map (some w.heap.size), w.alloc (.map #[] 0), ?_, ι.set nx ⟨w.heap.size, 0, 0⟩, h, Sub.refl h, fun m hm => by unfold Io.set; rw [if_neg]; rintro rfl; exact hm ⟨Nat.le_refl _, Nat.lt_succ_self _⟩, ?_, ?_, ?_, Nat.le_succ _, fun _ _ _ => rfl⟩
   ·simp [execOp, hop, run_makeMap]
   ·have hset : (ι.set nx ⟨w.heap.size, 0, 0⟩) nx = some ⟨w.heap.size, 0, 0⟩ := by simp [Io.set]
    refine (hs.allocO nx (hf nx (Nat.le_refl _) (Nat.lt_succ_self _)) { els := [], es := 0, ty := t, pr := true, fz := false, ar := true, mp := [] } (.map #[] 0) 0 ?_ rfl (fun m hm => by cases hm) (fun _ e he => by cases he) (fun b hb => hb.plain rfl)).weak fun m hm => by
     rcases hm with hm | rfl
     ·exact .inl hm
     ·exact .inr ⟨Nat.le_refl _, Nat.lt_succ_self _⟩
    unfold RB
    rw [hset]
    exact .inr ⟨⟨rfl, rfl, rfl⟩, #[], (heap_alloc w _).1, rfl, fun i p hp => by simp at hp⟩
   ·exact ⟨⟨w.heap.size, 0, 0⟩, by simp [Io.set], rfl, rfl⟩
   ·intro m hm
    simp [Sv.nms, namesV, Vl.cells, At.nm] at hm
    subst hm
    exact .inr ⟨Nat.le_refl _, Nat.lt_succ_self _⟩
 ·cases he

/-- A key's word, as the program has it. -/
theorem key_is {d : TD} {D : TypeDesc} (hD : TDOk P d D) {x : At} {v : Value} (hk : keyOk d x = true) (hr : RA ι h x v) : IsKey D v ∧ RP h x v := by
 unfold keyOk at hk
 split at hk
 ·have hr : RP h _ _ := hr
  cases hr
  have hD : D = _ := hD
  subst hD
  exact ⟨by simpa [IsKey] using hk, .int _ _⟩
 ·have hr : RP h _ _ := hr
  cases hr
  have hD : D = _ := hD
  subst hD
  exact ⟨trivial, .str _⟩
 ·have hr : RP h _ _ := hr
  cases hr
  have hD : D = _ := hD
  subst hD
  exact ⟨trivial, .bool _⟩
 ·cases hk
theorem keyEq_iff {d : TD} {x y : At} {u v : Value} (hx : keyOk d x = true) (hy : keyOk d y = true) (h1 : RP h x u) (h2 : RP h y v) : keyEq x y = true ↔ u = v := by
 cases d <;> cases x <;> simp [keyOk] at hx <;> cases y <;> simp [keyOk] at hy <;> cases h1 <;> cases h2 <;> simp [keyEq, ByteArray.ext_iff]
/-- Looking for a key, abstractly and by the program. -/
theorem find_at {d : TD} {D : TypeDesc} (hD : TDOk P d D) {key : At} {k : Value} (hk : keyOk d key = true) (hkr : RP h key k) : ∀ (mp : List (At × At)) (es : List MapEntry) (i : Nat), mp.all (fun p => keyOk d p.1) = true →
  es.length = mp.length → (∀ (j : Nat) (p : At × At), mp[j]? = some p → ∃ x, es[j]? = some x ∧ RP h p.1 x.key ∧ RP h p.2 x.val) →
  (findM mp key = none ∧ Instr.findNow D k es i = some none) ∨ ∃ j v x, findM mp key = some (j, v) ∧ es[j]? = some x ∧ j < mp.length ∧ Instr.findNow D k es i = some (some (i + j, x.val)) ∧ RP h v x.val ∧ x.key = k := by
 intro mp
 induction mp with
 | nil =>
  intro es i _ hl _
  cases es with
  | nil => exact .inl ⟨rfl, rfl⟩
  | cons x es => simp at hl
 | cons p mp ih =>
  intro es i ha hl hr
  cases es with
  | nil => simp at hl
  | cons x es =>
   simp only [List.all_cons, Bool.and_eq_true] at ha
   obtain ⟨x', hx', r1, r2⟩ := hr 0 p rfl
   simp at hx'
   subst hx'
   have ik := (key_is (ι := fun _ => none) hD hk (RA.ofRP hkr)).1
   have ip := (key_is (ι := fun _ => none) hD ha.1 (RA.ofRP r1)).1
   obtain ⟨b, hb, hbi⟩ := sameNow_of_keys ik ip
   have he := keyEq_iff hk ha.1 hkr r1
   cases b with
   | true =>
    have hq := hbi.1 rfl
    refine .inr ⟨0, p.2, x, ?_, rfl, by simp, ?_, r2, hq.symm⟩
    ·simp only [findM]; rw [if_pos (he.2 hq)]
    ·simp [Instr.findNow, hb]
   | false =>
    have hq : ¬ k = x.key := fun e => by have := hbi.2 e; cases this
    have hne : ¬ keyEq key p.1 = true := fun e => hq (he.1 e)
    rcases ih es (i + 1) ha.2 (by simpa using hl) (fun j q hj => hr (j + 1) q (by simpa using hj)) with ⟨f1, f2⟩ | ⟨j, v, y, f1, f2, f3, f4, f5, f6⟩
    ·refine .inl ⟨?_, ?_⟩
     ·simp only [findM]; rw [if_neg hne, f1]; rfl
     ·simp [Instr.findNow, hb, f2]
    ·refine .inr ⟨j + 1, v, y, ?_, by simpa using f2, by simp; omega, ?_, f5, f6⟩
     ·simp only [findM]; rw [if_neg hne, f1]; rfl
     ·simp [Instr.findNow, hb, f4]; omega
/-- The map behind a word. -/
theorem mapM_at (hT : TyOk P c.T) (hs : Sim n w0 M0 U ι h fr mem a w) {t : TypeId} {x key : At} {v k : Value} {q : TypeId × Nat × Blk} (e : mapM c.T t mem x key = some q) (hx : RA ι h x v) (hk : RA ι h key k) :
  ∃ kt d D L es, P.underlying t = some (.map kt q.1) ∧ P.underlying kt = some D ∧ TDOk P d D ∧ mget mem q.2.1 = some q.2.2 ∧ ι q.2.1 = some L ∧ L.es = 0 ∧ v = .map (some L.b) ∧ w.heap[L.b]? = some (.map es es.size) ∧ RMs h es.toList q.2.2.mp ∧
   keyOk d key = true ∧ q.2.2.mp.all (fun p => keyOk d p.1) = true ∧ IsKey D k ∧ RP h key k ∧ q.2.2.els = [] ∧ q.2.2.es = 0 ∧ q.2.2.ow = none := by
 unfold mapM at e
 split at e
 ·rename_i kt et ht
  simp only [Option.bind_eq_some_iff] at e
  obtain ⟨d, e1, e⟩ := e
  split at e
  ·rename_i m
   simp only [Option.bind_eq_some_iff] at e
   obtain ⟨B, e2, e⟩ := e
   split at e
   ·rename_i hc
    cases e
    obtain ⟨D0, hD0, hD0', _⟩ := tdOf_ok hT ht
    obtain ⟨D, hD, hD', _⟩ := tdOf_ok hT e1
    obtain ⟨L, hL, hv, hL0⟩ := hx
    obtain ⟨r0, ⟨r1, r2, r3⟩, es, r4, r5⟩ := (hs.hmem m B e2).map hL hL0
    obtain ⟨i1, i2⟩ := key_is hD' hc.1 hk
    have hD0' : D0 = _ := hD0'
    subst hD0'
    exact ⟨kt, d, D, L, es, hD0, hD, hD', e2, hL, hL0, hv, r4, r5, hc.1, hc.2, i1, i2, r1, r2, r0⟩
   ·cases e
  ·cases e
 ·cases e
theorem pl_lookup (hT : TyOk P c.T) (hs : Sim n w0 M0 U ι h fr mem a w) {t : TypeId} {x k : Operand} {ok : Bool} (hop : o.op = .lookup t x k ok) (he : stp c callF o fr mem nx = some e) : Plain P n w0 M0 U ι h fr mem a w nx o e := by
 simp only [stp, hop, Option.bind_eq_some_iff] at he
 obtain ⟨xa, e1, key, e2, q, e3, te, e4, he⟩ := he
 split at he
 ·rename_i hc
  obtain ⟨rfl, hagg, hsz, hz⟩ := hc
  simp only [Option.bind_eq_some_iff] at he
  obtain ⟨v, e5, he⟩ := he
  cases he
  obtain ⟨kt, d, D, L, es, f1, f2, f3, f4, f5, f6, f7, f8, f9, f10, f11, f12, f13, f14, f15, f16⟩ := mapM_at hT hs e3 (hs.evA e1).1 (hs.evA e2).1
  obtain ⟨i0, z, hi, hzv, hzs, hzr, hzp⟩ := (hT q.1 te e4).zero hz
  have hzero : (zeroValue q.1).run P w = .ok z w := run_zeroValue' hi hzv w
  rcases find_at f3 f10 f13 q.2.2.mp es.toList 0 f11 f9.1 (fun j p hp => let ⟨x, y1, _, y3, y4⟩ := f9.2 j p hp; ⟨x, y1, y3, y4⟩) with ⟨g1, g2⟩ | ⟨j, v', y, g1, g2, g3, g4, g5, g6⟩
  ·rw [g1] at e5
   obtain ⟨u, u1, u2⟩ := hzr h 0 v e5
   have hzu : z = u := by
    have h1 : z.cells.size = 1 := by rw [hzs, hsz]
    have hone := (hT q.1 te e4).zone hagg hsz hz i0 z hi hzv
    have := cells_of_oneCell hone
    rw [this] at u1
    simpa using u1
   subst hzu
   refine .inl ⟨z, w, ?_, Nxt.val hs (RA.ofRP u2) (fun m hm => ?_)⟩
   ·simp [execOp, hop, f7, Instr.lookup, run_underlying f1, Go.MapKept.run_getObj_map f8, Go.MapKept.run_checkKey f2 f12, Go.MapKept.run_findKey f2 g2, hzero, Result.andThen]
   ·simp only [Sv.nms, namesV, Vl.cells, List.flatMap_cons, List.flatMap_nil, List.append_nil, RP.nm u2] at hm; cases hm
  ·rw [g1] at e5
   cases e5
   refine .inl ⟨y.val, w, ?_, Nxt.val hs (RA.ofRP g5) (fun m hm => ?_)⟩
   ·simp [execOp, hop, f7, Instr.lookup, run_underlying f1, Go.MapKept.run_getObj_map f8, Go.MapKept.run_checkKey f2 f12, Go.MapKept.run_findKey f2 g4, hzero, Result.andThen]
   ·simp only [Sv.nms, namesV, Vl.cells, List.flatMap_cons, List.flatMap_nil, List.append_nil, RP.nm g5] at hm; cases hm
 ·cases he
theorem heap_put {w : World} {b : Nat} {ob o' : Obj} (hb : w.heap[b]? = some o') : ∀ k, ({ w with heap := w.heap.setIfInBounds b ob } : World).heap[k]? = if k = b then some ob else w.heap[k]? := by
 intro k
 have hlt : b < w.heap.size := (Array.getElem?_eq_some_iff.1 hb).1
 show (w.heap.setIfInBounds b ob)[k]? = _
 rw [Array.getElem?_setIfInBounds]
 by_cases h : b = k
 ·subst h; simp [hlt]
 ·rw [if_neg h, if_neg (Ne.symm h)]
theorem pl_put (hT : TyOk P c.T) (hs : Sim n w0 M0 U ι h fr mem a w) {t : TypeId} {x k y : Operand} {xa key v : At} {q : TypeId × Nat × Blk}
  (hrun : ∀ r w', (Instr.mapUpdate t (a.eval x) (a.eval k) (a.eval y)).run P w = .ok r w' → (execOp a.eval o).run P w = .ok .skip w')
  (e1 : evA fr x = some xa) (e2 : evA fr k = some key) (e3 : evA fr y = some v) (e4 : mapM c.T t mem xa key = some q) (hp : v.pr = true) (hz : q.2.2.fz = false) :
  Plain P n w0 M0 U ι h fr mem a w nx o { v := .u, upd := [(q.2.1, some { q.2.2 with mp := setM q.2.2.mp key v })], nn := nx, rd := [q.2.1] } := by
 obtain ⟨kt, d, D, L, es, f1, f2, f3, f4, f5, f6, f7, f8, f9, f10, f11, f12, f13, f14, f15, f16⟩ := mapM_at hT hs e4 (hs.evA e1).1 (hs.evA e2).1
 have hv := RA.toRP hp (hs.evA e3).1
 have fin : ∀ es' : Array MapEntry, es'.size = es'.size → RMs h es'.toList (setM q.2.2.mp key v) → (Instr.mapUpdate t (a.eval x) (a.eval k) (a.eval y)).run P w = .ok () { w with heap := w.heap.setIfInBounds L.b (.map es' es'.size) } →
   Plain P n w0 M0 U ι h fr mem a w nx o { v := .u, upd := [(q.2.1, some { q.2.2 with mp := setM q.2.2.mp key v })], nn := nx, rd := [q.2.1] } := by
  intro es' _ hr hru
  have hheap := heap_put (ob := .map es' es'.size) f8
  refine .inr ⟨_, hrun _ _ hru, ι, h, Sub.refl h, fun _ _ => rfl, (?_ : Sim n w0 M0 _ ι h fr (set1 mem _) a _), rfl, (fun m hm => by cases hm), Nat.le_refl _, fun _ _ _ => rfl⟩
  refine Sim.weak (U := U) (hs.writeO (B' := { q.2.2 with mp := setM q.2.2.mp key v }) f4 hz f5 hheap (by simp) rfl rfl rfl hz ?_ (fun m' hm' => (hs.hnb _ _ f4).2 m' hm') (show q.2.2.pr = true → ∀ e ∈ q.2.2.els, ∀ x ∈ e, x.pr = true from hs.hpr _ _ f4) (fun b hb => hb.plain (B := { q.2.2 with mp := setM q.2.2.mp key v }) f16 ▸ Ft.self)) (fun m hm => .inl hm)
  unfold RB
  rw [f5]
  show match q.2.2.ow with | none => _ | some q => _
  rw [f16]
  exact .inr ⟨⟨f14, f15, f6⟩, es', by rw [hheap, if_pos rfl], hr⟩
 have hlen : es.size = q.2.2.mp.length := by simpa using f9.1
 rcases find_at f3 f10 f13 q.2.2.mp es.toList 0 f11 f9.1 (fun j p hp => let ⟨x, y1, _, y3, y4⟩ := f9.2 j p hp; ⟨x, y1, y3, y4⟩) with ⟨g1, g2⟩ | ⟨j, v', y', g1, g2, g3, g4, g5, g6⟩
 ·refine fin (es.push { key := a.eval k, val := a.eval y, born := es.size }) rfl ?_ ?_
  ·unfold setM
   rw [g1]
   refine ⟨by simp [hlen], fun i p hi => ?_⟩
   rw [List.getElem?_append] at hi
   split at hi
   ·rename_i hlt
    obtain ⟨z, z1, z2⟩ := f9.2 i p hi
    refine ⟨z, ?_, z2⟩
    have hi' : i < es.size := by omega
    rw [Array.toList_push, List.getElem?_append_left (by simpa using hi')]
    exact z1
   ·rename_i hge
    have hi0 : i - q.2.2.mp.length = 0 := by
     have := (List.getElem?_eq_some_iff.1 hi).1
     simp at this; omega
    rw [hi0] at hi
    cases hi
    refine ⟨{ key := a.eval k, val := a.eval y, born := es.size }, ?_, ?_, f13, hv⟩
    ·rw [Array.toList_push, List.getElem?_append_right (by simp; omega)]
     rw [show i - es.toList.length = 0 by simp; omega]; rfl
    ·show es.size = i; omega
  ·simp [f7, Instr.mapUpdate, run_underlying f1, Go.MapKept.run_getObj_map f8, Go.MapKept.run_checkKey f2 f12, Go.MapKept.run_findKey f2 g2, Go.MapKept.run_setObj_map _ f8, Result.andThen]
 ·refine fin (es.modify j fun e => { e with key := a.eval k, val := a.eval y }) rfl ?_ ?_
  ·unfold setM
   rw [g1]
   refine ⟨by simp [hlen], fun i p hi => ?_⟩
   rw [List.getElem?_set] at hi
   by_cases hij : j = i
   ·subst hij
    rw [if_pos rfl, if_pos g3] at hi
    cases hi
    have hmp : ∃ p0, q.2.2.mp[j]? = some p0 := ⟨_, List.getElem?_eq_getElem g3⟩
    obtain ⟨p0, hp0⟩ := hmp
    obtain ⟨z, z1, z2, _⟩ := f9.2 j p0 hp0
    refine ⟨{ z with key := a.eval k, val := a.eval y }, ?_, z2, f13, hv⟩
    have z1' : es[j]? = some z := by simpa using z1
    simp [Array.getElem?_modify, z1']
   ·rw [if_neg hij] at hi
    obtain ⟨z, z1, z2⟩ := f9.2 i p hi
    refine ⟨z, ?_, z2⟩
    have z1' : es[i]? = some z := by simpa using z1
    simp [Array.getElem?_modify, z1', hij]
  ·have g2' : es[j]? = some y' := by simpa using g2
   have hsz : (es.modify j fun e => { e with key := a.eval k, val := a.eval y }).size = es.size := by simp
   rw [hsz]
   have g4' : Instr.findNow D (a.eval k) es.toList 0 = some (some (j, y'.val)) := by simpa using g4
   simp [f7, Instr.mapUpdate, run_underlying f1, Go.MapKept.run_getObj_map f8, Go.MapKept.run_checkKey f2 f12, Go.MapKept.run_findKey f2 g4', g2', g6, Go.MapKept.run_keyThatStays f12, Go.MapKept.run_setObj_map _ f8, Result.andThen]
theorem pl_mapUpdate (hT : TyOk P c.T) (hs : Sim n w0 M0 U ι h fr mem a w) {t : TypeId} {x k y : Operand} (hop : o.op = .mapUpdate t x k y) (he : stp c callF o fr mem nx = some e) : Plain P n w0 M0 U ι h fr mem a w nx o e := by
 simp only [stp, hop, Option.bind_eq_some_iff] at he
 obtain ⟨xa, e1, key, e2, v, e3, q, e4, he⟩ := he
 split at he
 ·rename_i hc
  cases he
  exact pl_put hT hs (fun r w' hr => by simp [execOp, hop, hr]) e1 e2 e3 e4 hc.1 (by simpa using hc.2)
 ·cases he
theorem pl_insert (hT : TyOk P c.T) (hs : Sim n w0 M0 U ι h fr mem a w) {t : TypeId} {x k y : Operand} (hop : o.op = .insert t x k y) (he : stp c callF o fr mem nx = some e) : Plain P n w0 M0 U ι h fr mem a w nx o e := by
 simp only [stp, hop, Option.bind_eq_some_iff] at he
 obtain ⟨xa, e1, key, e2, v, e3, q, e4, he⟩ := he
 split at he
 ·rename_i hc
  cases he
  exact pl_put hT hs (fun r w' hr => by simp [execOp, hop, hr]) e1 e2 e3 e4 hc.1 (by simpa using hc.2)
 ·cases he
end
end Go.Proofs.Ytgiamleohegjeaa.Am
namespace Go.Proofs.Ytgiamleohegjeaa.Am
open Go

theorem idx_spec : ∀ {N : List Nat} {m j : Nat}, idx N m = some j → N[j]? = some m := by
 intro N
 induction N with
 | nil => intro m j e; cases e
 | cons k N ih =>
  intro m j e
  simp only [idx] at e
  split at e
  ·rename_i hk; cases e; subst hk; rfl
  ·simp only [Option.bind_eq_some_iff] at e
   obtain ⟨i, e1, e2⟩ := e
   cases e2
   simpa using ih e1

theorem clo_nodup (ns : Nat → List Nat) : ∀ (k : Nat) (ms acc : List Nat), acc.Nodup → (clo ns k ms acc).Nodup := by
 intro k
 induction k with
 | zero => intro ms acc h; exact h
 | succ k ih =>
  intro ms acc h
  cases ms with
  | nil => exact h
  | cons m ms =>
   simp only [clo]
   split
   ·exact ih _ _ h
   ·rename_i hc
    refine ih _ _ ?_
    rw [List.nodup_append]
    refine ⟨h, by simp, ?_⟩
    intro x hx y hy hxy
    simp at hy
    subst hy
    subst hxy
    exact hc (by simpa using hx)

section
variable {ι ι' : Io} {h : Hp} {ρ : Nat → Option Nat}

theorem RA.ren {x y : At} {v : Value} (hr : RA ι h x v) (e : renA ρ x = some y) (hρ : ∀ m m', ρ m = some m' → ι' m' = ι m) : RA ι' h y v := by
 cases x with
 | ptr m i o =>
  simp only [renA, Option.bind_eq_some_iff] at e
  obtain ⟨m', e1, e2⟩ := e
  cases e2
  obtain ⟨L, hL, hv⟩ := hr
  exact ⟨L, by rw [hρ m m' e1]; exact hL, hv⟩
 | sm m lo n =>
  simp only [renA, Option.bind_eq_some_iff] at e
  obtain ⟨m', e1, e2⟩ := e
  cases e2
  rcases hr with ⟨L, c, hL, r⟩ | ⟨hL, r⟩
  ·exact .inl ⟨L, c, by rw [hρ m m' e1]; exact hL, r⟩
  ·exact .inr ⟨by rw [hρ m m' e1]; exact hL, r⟩
 | mp m =>
  simp only [renA, Option.bind_eq_some_iff] at e
  obtain ⟨m', e1, e2⟩ := e
  cases e2
  obtain ⟨L, hL, hv⟩ := hr
  exact ⟨L, by rw [hρ m m' e1]; exact hL, hv⟩
 | ptq m i es =>
  simp only [renA, Option.bind_eq_some_iff] at e
  obtain ⟨m', e1, e2⟩ := e
  cases e2
  obtain ⟨L, hL, hv⟩ := hr
  exact ⟨L, by rw [hρ m m' e1]; exact hL, hv⟩
 | _ => cases e; exact hr
theorem renA_nm {x y : At} (e : renA ρ x = some y) : ∀ m' ∈ y.nm, ∃ m ∈ x.nm, ρ m = some m' := by
 cases x with
 | ptr m i o =>
  simp only [renA, Option.bind_eq_some_iff] at e
  obtain ⟨m', e1, e2⟩ := e
  cases e2
  intro q hq
  simp [At.nm] at hq
  subst hq
  exact ⟨m, by simp [At.nm], e1⟩
 | sm m lo n =>
  simp only [renA, Option.bind_eq_some_iff] at e
  obtain ⟨m', e1, e2⟩ := e
  cases e2
  intro q hq
  simp [At.nm] at hq
  subst hq
  exact ⟨m, by simp [At.nm], e1⟩
 | mp m =>
  simp only [renA, Option.bind_eq_some_iff] at e
  obtain ⟨m', e1, e2⟩ := e
  cases e2
  intro q hq
  simp [At.nm] at hq
  subst hq
  exact ⟨m, by simp [At.nm], e1⟩
 | ptq m i es =>
  simp only [renA, Option.bind_eq_some_iff] at e
  obtain ⟨m', e1, e2⟩ := e
  cases e2
  intro q hq
  simp [At.nm] at hq
  subst hq
  exact ⟨m, by simp [At.nm], e1⟩
 | _ => cases e; intro q hq; simp [At.nm] at hq
theorem RL.ren {cs ds : List At} {us : List Value} (hr : RL ι h cs us) (e : mapO (renA ρ) cs = some ds) (hρ : ∀ m m', ρ m = some m' → ι' m' = ι m) : RL ι' h ds us := by
 obtain ⟨e1, _⟩ := mapO_some e
 refine ⟨by rw [e1]; exact hr.1, fun j y hy => ?_⟩
 obtain ⟨x, hx, hxy⟩ := mapO_some_inv e j y hy
 obtain ⟨u, hu, hr'⟩ := hr.2 j x hx
 exact ⟨u, hu, hr'.ren hxy hρ⟩
theorem RV.ren {x y : Vl} {v : Value} (hr : RV ι h x v) (e : renV ρ x = some y) (hρ : ∀ m m', ρ m = some m' → ι' m' = ι m) : RV ι' h y v := by
 cases x with
 | a x =>
  simp only [renV, Option.bind_eq_some_iff] at e
  obtain ⟨y', e1, e2⟩ := e
  cases e2
  exact RA.ren hr e1 hρ
 | g cs =>
  simp only [renV, Option.bind_eq_some_iff] at e
  obtain ⟨ds, e1, e2⟩ := e
  cases e2
  obtain ⟨A, hv, hl⟩ := hr
  exact ⟨A, hv, hl.ren e1 hρ⟩
theorem renV_nm {x y : Vl} (e : renV ρ x = some y) : ∀ m' ∈ namesV [y], ∃ m ∈ namesV [x], ρ m = some m' := by
 cases x with
 | a x =>
  simp only [renV, Option.bind_eq_some_iff] at e
  obtain ⟨y', e1, e2⟩ := e
  cases e2
  intro q hq
  simpa [namesV, Vl.cells] using renA_nm e1 q (by simpa [namesV, Vl.cells] using hq)
 | g cs =>
  simp only [renV, Option.bind_eq_some_iff] at e
  obtain ⟨ds, e1, e2⟩ := e
  cases e2
  intro q hq
  simp only [namesV, Vl.cells, List.flatMap_cons, List.flatMap_nil, List.append_nil, List.mem_flatMap] at hq ⊢
  obtain ⟨y, hy, hq⟩ := hq
  obtain ⟨j, hj⟩ := List.getElem?_of_mem hy
  obtain ⟨x, hx, hxy⟩ := mapO_some_inv e1 j y hj
  obtain ⟨m, hm, hρ⟩ := renA_nm hxy q hq
  exact ⟨m, ⟨x, List.mem_of_getElem? hx, hm⟩, hρ⟩
theorem RVs.ren {xs ys : List Vl} {vs : List Value} (hr : RVs ι h xs vs) (e : mapO (renV ρ) xs = some ys) (hρ : ∀ m m', ρ m = some m' → ι' m' = ι m) : RVs ι' h ys vs := by
 obtain ⟨e1, _⟩ := mapO_some e
 refine ⟨by rw [e1]; exact hr.1, fun j y hy => ?_⟩
 obtain ⟨x, hx, hxy⟩ := mapO_some_inv e j y hy
 obtain ⟨u, hu, hr'⟩ := hr.2 j x hx
 exact ⟨u, hu, hr'.ren hxy hρ⟩
theorem namesV_mem {xs : List Vl} {m : Nat} : m ∈ namesV xs ↔ ∃ x ∈ xs, m ∈ namesV [x] := by
 simp [namesV]
theorem mapO_renV_nm {xs ys : List Vl} (e : mapO (renV ρ) xs = some ys) : ∀ m' ∈ namesV ys, ∃ m ∈ namesV xs, ρ m = some m' := by
 intro q hq
 rw [namesV_mem] at hq
 obtain ⟨y, hy, hq⟩ := hq
 obtain ⟨j, hj⟩ := List.getElem?_of_mem hy
 obtain ⟨x, hx, hxy⟩ := mapO_some_inv e j y hj
 obtain ⟨m, hm, hρ⟩ := renV_nm hxy q hq
 exact ⟨m, namesV_mem.2 ⟨x, List.mem_of_getElem? hx, hm⟩, hρ⟩
theorem RBs.ren {C : Array Value} {es : Nat} {els fls : List (List At)} (hr : RBs ι h C es els) (e : mapO (mapO (renA ρ)) els = some fls) (hρ : ∀ m m', ρ m = some m' → ι' m' = ι m) : RBs ι' h C es fls := by
 intro i el hi
 obtain ⟨el', hi', he'⟩ := mapO_some_inv e i el hi
 obtain ⟨q1, q2⟩ := hr i el' hi'
 refine ⟨by rw [(mapO_some he').1]; exact q1, fun j y hy => ?_⟩
 obtain ⟨x, hx, hxy⟩ := mapO_some_inv he' j y hy
 obtain ⟨u, hu, hr'⟩ := q2 j x hx
 exact ⟨u, hu, hr'.ren hxy hρ⟩
/-- What is the same in a block whose names are new ones. -/
theorem renB_spec {b b' : Blk} (e : renB ρ b = some b') (hp : b.pr = true → ∀ e ∈ b.els, ∀ x ∈ e, x.pr = true) :
  b'.es = b.es ∧ b'.ty = b.ty ∧ b'.pr = b.pr ∧ b'.fz = b.fz ∧ (b'.els = [] ↔ b.els = []) ∧ (∀ m' ∈ b'.nms, ∃ m ∈ b.nms, ρ m = some m') ∧ (b'.pr = true → ∀ e ∈ b'.els, ∀ x ∈ e, x.pr = true) ∧
  (∀ {ι ι' : Io} {h : Hp} {C : Array Value}, RBs ι h C b.es b.els → (∀ m m', ρ m = some m' → ι' m' = ι m) → RBs ι' h C b'.es b'.els) := by
 unfold renB at e
 split at e
 ·rename_i hq
  cases e
  refine ⟨rfl, rfl, rfl, rfl, Iff.rfl, ?_, hp, ?_⟩
  ·intro m hm
   simp only [Blk.nms, List.mem_flatMap] at hm
   obtain ⟨e, he, x, hx, hm⟩ := hm
   have := hp hq e he x hx
   cases x <;> simp [At.pr, At.nm] at this hm
  ·intro ι ι' h C hr hρ i el hi
   obtain ⟨q1, q2⟩ := hr i el hi
   refine ⟨q1, fun j x hx => ?_⟩
   obtain ⟨u, q3, q4⟩ := q2 j x hx
   exact ⟨u, q3, RA.ofRP (RA.toRP (hp hq el (List.mem_of_getElem? hi) x (List.mem_of_getElem? hx)) q4)⟩
 ·rename_i hq
  split at e
  ·cases e
  simp only [Option.bind_eq_some_iff] at e
  obtain ⟨els, e1, e2⟩ := e
  cases e2
  refine ⟨rfl, rfl, rfl, rfl, ?_, ?_, ?_, fun hr hρ => hr.ren e1 hρ⟩
  ·have := (mapO_some e1).1
   constructor
   ·intro h0
    have h0 : els = [] := h0
    rw [h0] at this
    exact List.eq_nil_of_length_eq_zero this.symm
   ·intro h0
    rw [h0] at this
    exact List.eq_nil_of_length_eq_zero this
  ·intro m' hm'
   simp only [Blk.nms, List.mem_flatMap] at hm'
   obtain ⟨e, he, y, hy, hm'⟩ := hm'
   obtain ⟨i, hi⟩ := List.getElem?_of_mem he
   obtain ⟨e', hi', he'⟩ := mapO_some_inv e1 i e hi
   obtain ⟨j, hj⟩ := List.getElem?_of_mem hy
   obtain ⟨x, hx, hxy⟩ := mapO_some_inv he' j y hj
   obtain ⟨m, hm, hρ⟩ := renA_nm hxy m' hm'
   exact ⟨m, by simp only [Blk.nms, List.mem_flatMap]; exact ⟨e', List.mem_of_getElem? hi', x, List.mem_of_getElem? hx, hm⟩, hρ⟩
  ·intro hp'
   exact absurd hp' hq
end

/-- Blocks that a call is handed, or hands back, by their places. -/
theorem renB_mp {ρ : Nat → Option Nat} {b b' : Blk} (e : renB ρ b = some b') : b'.mp = b.mp := by
 unfold renB at e
 split at e
 ·cases e; rfl
 ·split at e
  ·cases e
  simp only [Option.bind_eq_some_iff] at e
  obtain ⟨els, _, e⟩ := e
  cases e; rfl
/-- A block that owns inner slices is all the same; a plain one stays plain. -/
theorem renB_ow {ρ : Nat → Option Nat} {b b' : Blk} (e : renB ρ b = some b') : b'.ow = b.ow ∧ (b'.ow ≠ none → b' = b ∧ b.pr = true) := by
 unfold renB at e
 split at e
 ·cases e; exact ⟨rfl, fun _ => ⟨rfl, by assumption⟩⟩
 ·split at e
  ·cases e
  ·rename_i hn
   simp only [Option.bind_eq_some_iff] at e
   obtain ⟨els, _, e⟩ := e
   cases e
   exact ⟨rfl, fun h => absurd (by simpa using hn) h⟩
structure Mm (ι : Io) (h : Hp) (w : World) (bs : List Blk) : Prop where
 rb : ∀ (i : Nat) (B : Blk), bs[i]? = some B → RB ι h w i B
 nm : ∀ (i : Nat) (B : Blk), bs[i]? = some B → ∀ m ∈ B.nms, m < bs.length
 injF : ∀ (i j : Nat) (B B' : Blk) (L L' : Loc) (b : Nat), bs[i]? = some B → bs[j]? = some B' → ι i = some L → ι j = some L' → Ft w L B b → Ft w L' B' b → i = j
 sub : ∀ b o, h b = some o → w.heap[b]? = some o
 mutF : ∀ (i : Nat) (B : Blk) (L : Loc) (b : Nat), bs[i]? = some B → B.fz = false → ι i = some L → Ft w L B b → h b = none
 frzF : ∀ (i : Nat) (B : Blk) (L : Loc) (b : Nat), bs[i]? = some B → B.fz = true → ι i = some L → Ft w L B b → h b = w.heap[b]?
 dom : ∀ (i : Nat) (B : Blk) (L : Loc), bs[i]? = some B → ι i = some L → L.b < w.heap.size
 pr : ∀ (i : Nat) (B : Blk), bs[i]? = some B → B.pr = true → ∀ e ∈ B.els, ∀ x ∈ e, x.pr = true
theorem Mm.inj {ι : Io} {h : Hp} {w : World} {bs : List Blk} (hm : Mm ι h w bs) : ∀ (i j : Nat) (B B' : Blk) (L L' : Loc), bs[i]? = some B → bs[j]? = some B' → ι i = some L → ι j = some L' → L.b = L'.b → i = j :=
 fun i j B B' L L' e e' l l' hq => hm.injF i j B B' L L' L.b e e' l l' Ft.self (hq ▸ Ft.self)
theorem Mm.mut' {ι : Io} {h : Hp} {w : World} {bs : List Blk} (hm : Mm ι h w bs) : ∀ (i : Nat) (B : Blk) (L : Loc), bs[i]? = some B → B.fz = false → ι i = some L → h L.b = none := fun i B L e z l => hm.mutF i B L L.b e z l Ft.self
theorem Mm.frz {ι : Io} {h : Hp} {w : World} {bs : List Blk} (hm : Mm ι h w bs) : ∀ (i : Nat) (B : Blk) (L : Loc), bs[i]? = some B → B.fz = true → ι i = some L → h L.b = w.heap[L.b]? := fun i B L e z l => hm.frzF i B L L.b e z l Ft.self

/-- A block that a call may write. -/
def Lent (ι : Io) (bs : List Blk) (b : Nat) : Prop := ∃ (i : Nat) (B : Blk) (L : Loc), bs[i]? = some B ∧ B.fz = false ∧ ι i = some L ∧ L.b = b

/-- What a call leaves. -/
structure Post (ι : Io) (h : Hp) (w : World) (blks : List Blk) (rs : List Vl) (bs : List Blk) (us : List Value) (w' : World) (ι' : Io) (h' : Hp) : Prop where
 rv : RVs ι' h' rs us
 rn : ∀ m ∈ namesV rs, m < bs.length
 sub : Sub h h'
 len : blks.length ≤ bs.length
 same : ∀ i, i < blks.length → ι' i = ι i
 mm : Mm ι' h' w' bs
 own : ∀ (i : Nat) (B : Blk) (L : Loc) (b : Nat), bs[i]? = some B → B.fz = false → ι' i = some L → Ft w' L B b → w.heap.size ≤ b ∨ Lent ι blks b
 own2 : ∀ (i : Nat) (B : Blk) (L : Loc) (b : Nat), bs[i]? = some B → ι' i = some L → Ft w' L B b → w.heap.size ≤ b ∨ ∃ (j : Nat) (B0 : Blk) (L0 : Loc), blks[j]? = some B0 ∧ ι j = some L0 ∧ L0.b = b
 frame : ∀ b, b < w.heap.size → ¬ Lent ι blks b → w'.heap[b]? = w.heap[b]?
 view : ∀ b, b < w.heap.size → ¬ Lent ι blks b → h' b = h b
 grow : w.heap.size ≤ w'.heap.size
 os : w'.os = w.os
 tape : w'.tape = w.tape
 output : w'.output = w.output

def packV (us : Array Value) : Value := if h : us.size = 1 then us[0] else .tuple us

def Enters (P : Program) (f : FuncId) : Prop := ∃ fn, P.funcs[f]? = some fn ∧ (fn.name == "runtime.NumGoroutine") = false ∧ fn.body.isNone = false

def CallOk (P : Program) (callF : FuncId → List Vl → List Blk → Option (List Vl × List Blk)) : Prop :=
 ∀ f args blks rs bs, callF f args blks = some (rs, bs) → Enters P f ∧ ∀ (w : World) (ι : Io) (h : Hp) (vals : Array Value),
  RVs ι h args vals.toList → (∀ m ∈ namesV args, m < blks.length) → Mm ι h w blks → (∀ B ∈ blks, B.ow = none) →
  Calls P f vals w fun e w' => ∃ (us : Array Value) (ι' : Io) (h' : Hp), e = .returned (packV us) ∧ Post ι h w blks rs bs us.toList w' ι' h'


section
variable {P : Program} {n : Nat} {w0 : World} {M0 : Bool → Nat → Prop} {U : Nat → Prop} {ι : Io} {h h1 : Hp} {fr : List (Nat × Sv)} {mem mem1 : Mem} {a : Act} {w w' : World}
 {c : Cfg} {callF : FuncId → List Vl → List Blk → Option (List Vl × List Blk)} {o : Oper} {nx : Nat} {e : Eff}

theorem frzVs_sound (hs : Sim n w0 M0 U ι h fr mem a w) (hsub : Sub h h1) {xs ys : List Vl} {vs : List Value} (hv : Vw ι mem w h1 (smnV xs)) (hr : RVs ι h xs vs) (e : mapO (frzV mem) xs = some ys) :
  RVs ι h1 ys vs ∧ (∀ m ∈ namesV ys, m ∈ namesV xs) := by
 obtain ⟨e1, _⟩ := mapO_some e
 constructor
 ·refine ⟨by rw [e1]; exact hr.1, fun j y hy => ?_⟩
  obtain ⟨x, hx, hxy⟩ := mapO_some_inv e j y hy
  obtain ⟨u, hu, hr'⟩ := hr.2 j x hx
  exact ⟨u, hu, (frzV_sound hs hsub (fun m hm => hv m (List.mem_flatMap.2 ⟨x, List.mem_of_getElem? hx, hm⟩)) hr' hxy).1⟩
 ·intro m hm
  obtain ⟨y, hy, hm⟩ := namesV_mem.1 hm
  obtain ⟨j, hj⟩ := List.getElem?_of_mem hy
  obtain ⟨x, hx, hxy⟩ := mapO_some_inv e j y hj
  obtain ⟨u, hu, hr'⟩ := hr.2 j x hx
  have := (frzV_sound hs hsub (fun m hm => hv m (List.mem_flatMap.2 ⟨x, List.mem_of_getElem? hx, hm⟩)) hr' hxy).2 m hm
  refine namesV_mem.2 ⟨x, List.mem_of_getElem? hx, ?_⟩
  obtain ⟨z, hz, hm'⟩ := List.mem_flatMap.1 this
  simp only [namesV, List.flatMap_cons, List.flatMap_nil, List.append_nil, List.mem_flatMap]
  refine ⟨z, hz, ?_⟩
  cases z <;> simp [At.ptrs] at hm' ⊢ <;> simp [At.nm, hm']

/-- A block as it is handed over. -/
theorem conv_sound (hs : Sim n w0 M0 U ι h fr mem a w) (hs1 : Sim n w0 M0 U ι h1 fr mem1 a w) (hz : Fzn mem mem1) (hsub : Sub h h1) {cv : Bool} {m : Nat} (hv : cv = false → Vw ι mem w h1 (smnM mem m)) {b b2 : Blk}
  (e1 : mget mem1 m = some b) (e2 : (if cv then some b else frzB mem b) = some b2) :
  b2.es = b.es ∧ b2.ty = b.ty ∧ b2.fz = b.fz ∧ (b2.els = [] ↔ b.els = []) ∧ (∀ m' ∈ b2.nms, m' ∈ b.nms) ∧ (b2.pr = true → ∀ e ∈ b2.els, ∀ x ∈ e, x.pr = true) ∧ RB ι h1 w m b2 ∧ b2.ow = b.ow ∧ (b.ow ≠ none → b2 = b) := by
 obtain ⟨B0, f1, f2, f3, f4, f5, f6, f7⟩ := hz.of e1
 have hb0 := hs.hmem m B0 f1
 have hb1 := hs1.hmem m b e1
 have same : b2 = b → b2.es = b.es ∧ b2.ty = b.ty ∧ b2.fz = b.fz ∧ (b2.els = [] ↔ b.els = []) ∧ (∀ m' ∈ b2.nms, m' ∈ b.nms) ∧ (b2.pr = true → ∀ e ∈ b2.els, ∀ x ∈ e, x.pr = true) ∧ RB ι h1 w m b2 ∧ b2.ow = b.ow ∧ (b.ow ≠ none → b2 = b) := by
  rintro rfl
  exact ⟨rfl, rfl, rfl, Iff.rfl, fun _ hm => hm, hs1.hpr m b2 e1, hb1, rfl, fun _ => rfl⟩
 split at e2
 ·cases e2; exact same rfl
 ·rename_i hcv
  have hcv : cv = false := by simpa using hcv
  unfold frzB at e2
  split at e2
  ·cases e2; exact same rfl
  ·rename_i hp
   split at e2
   ·cases e2
   rename_i how
   have how : b.ow = none := by simpa using how
   simp only [Option.bind_eq_some_iff] at e2
   obtain ⟨els, g1, g2⟩ := e2
   cases g2
   have hl := (mapO_some g1).1
   have hnil : els = [] ↔ b.els = [] := by
    constructor
    ·intro h0
     rw [h0] at hl
     exact List.eq_nil_of_length_eq_zero hl.symm
    ·intro h0
     rw [h0] at hl
     exact List.eq_nil_of_length_eq_zero hl
   refine ⟨rfl, rfl, rfl, hnil, ?_, fun hq => absurd hq hp, ?_, rfl, fun hn => absurd how hn⟩
   ·intro m' hm'
    simp only [Blk.nms, List.mem_flatMap] at hm' ⊢
    obtain ⟨e, he, y, hy, hm'⟩ := hm'
    obtain ⟨i, hi⟩ := List.getElem?_of_mem he
    obtain ⟨e', hi', he'⟩ := mapO_some_inv g1 i e hi
    obtain ⟨j, hj⟩ := List.getElem?_of_mem hy
    obtain ⟨x, hx, hxy⟩ := mapO_some_inv he' j y hj
    exact ⟨e', List.mem_of_getElem? hi', x, List.mem_of_getElem? hx, ptrs_nm (frzA_ptrs hxy m' hm')⟩
   ·refine hb0.re (f7 ▸ how) how rfl (fun _ _ => rfl) hsub f3 f4 (show b.mp = B0.mp from hz.mp e1 f1) (fun h0 => hnil.2 (by rw [f2]; exact h0)) fun C q4 => ?_
    rw [f2] at g1
    refine frzBs_sound hs hsub ?_ q4 g1
    have := hv hcv
    unfold smnM at this
    rw [f1] at this
    simp only [← f5] at this
    rw [if_neg hp] at this
    exact this

theorem pack_sound (hs : Sim n w0 M0 U ι h fr mem a w) (hs1 : Sim n w0 M0 U ι h1 fr mem1 a w) (hz : Fzn mem mem1) (hsub : Sub h h1) {cv : Bool} {N : List Nat} (hN : N.Nodup) (hv : cv = false → Vw ι mem w h1 (N.flatMap (smnM mem)))
  {bs : List Blk} (e : mapO (fun m => (mget mem1 m).bind fun b => (if cv then some b else frzB mem b).bind (renB (idx N))) N = some bs) :
  Mm (fun j => (N[j]?).bind ι) h1 w bs ∧ bs.length = N.length ∧
  (∀ (i : Nat) (B : Blk), bs[i]? = some B → ∃ m B1, N[i]? = some m ∧ mget mem1 m = some B1 ∧ B.fz = B1.fz ∧ B.ow = B1.ow ∧ ∀ L b, Ft w L B b → Ft w L B1 b) := by
 have hlen := (mapO_some e).1
 have key : ∀ (i : Nat) (B : Blk), bs[i]? = some B → ∃ m B1 b2, N[i]? = some m ∧ mget mem1 m = some B1 ∧ (if cv then some B1 else frzB mem B1) = some b2 ∧ renB (idx N) b2 = some B := by
  intro i B hi
  obtain ⟨m, hm, e1⟩ := mapO_some_inv e i B hi
  simp only [Option.bind_eq_some_iff] at e1
  obtain ⟨B1, e1, b2, e2, e3⟩ := e1
  exact ⟨m, B1, b2, hm, e1, e2, e3⟩
 have hρ : ∀ m m', idx N m = some m' → (fun j => (N[j]?).bind ι) m' = ι m := by
  intro m m' hq
  simp [idx_spec hq]
 have hvm : ∀ m ∈ N, cv = false → Vw ι mem w h1 (smnM mem m) := fun m hm hc m' hm' => hv hc m' (List.mem_flatMap.2 ⟨m, hm, hm'⟩)
 have hft : ∀ (i : Nat) (B : Blk), bs[i]? = some B → ∃ m B1, N[i]? = some m ∧ mget mem1 m = some B1 ∧ B.fz = B1.fz ∧ B.ow = B1.ow ∧ ∀ L b, Ft w L B b → Ft w L B1 b := by
  intro i B hi
  obtain ⟨m, B1, b2, k1, k2, k3, k4⟩ := key i B hi
  obtain ⟨c1, c2, c3, c4, c5, c6, c7, c8, c9⟩ := conv_sound hs hs1 hz hsub (hvm m (List.mem_of_getElem? k1)) k2 k3
  obtain ⟨d1, d2, d3, d4, d5, d6, d7, d8⟩ := renB_spec k4 c6
  obtain ⟨o1, o2⟩ := renB_ow k4
  refine ⟨m, B1, k1, k2, d4.trans c3, o1.trans c8, fun L b f => ?_⟩
  by_cases ho : B.ow = none
  ·rw [f.plain ho]; exact Ft.self
  ·have e1 := (o2 ho).1
   have e2 := c9 (by rw [← c8, ← o1]; exact ho)
   rw [e1, e2] at f
   exact f
 refine ⟨⟨?_, ?_, ?_, hs1.hsub, ?_, ?_, ?_, ?_⟩, hlen, hft⟩
 ·intro i B hi
  obtain ⟨m, B1, b2, k1, k2, k3, k4⟩ := key i B hi
  obtain ⟨c1, c2, c3, c4, c5, c6, c7, c8, c9⟩ := conv_sound hs hs1 hz hsub (hvm m (List.mem_of_getElem? k1)) k2 k3
  obtain ⟨d1, d2, d3, d4, d5, d6, d7, d8⟩ := renB_spec k4 c6
  obtain ⟨o1, o2⟩ := renB_ow k4
  have hi' : (fun j => (N[j]?).bind ι) i = ι m := by simp only [k1, Option.bind_some]
  by_cases ho : B.ow = none
  ·exact c7.re (o1 ▸ ho) ho hi' (fun _ _ => rfl) (Sub.refl h1) d1 d2 (renB_mp k4) d5.2 fun C q4 => by rw [← d1]; exact d8 q4 hρ
  ·obtain ⟨q1, q2⟩ := o2 ho
   rw [q1]
   exact c7.to hi' (fun _ _ _ _ => rfl) (Sub.refl h1) fun x hx => by
    obtain ⟨e, he, hx⟩ := List.mem_flatMap.1 hx
    obtain ⟨y, hy, hx⟩ := List.mem_flatMap.1 hx
    have := c6 q2 e he y hy
    cases y <;> simp [At.pr, At.nm] at this hx
 ·intro i B hi m' hm'
  obtain ⟨m, B1, b2, k1, k2, k3, k4⟩ := key i B hi
  obtain ⟨c1, c2, c3, c4, c5, c6, c7, _⟩ := conv_sound hs hs1 hz hsub (hvm m (List.mem_of_getElem? k1)) k2 k3
  obtain ⟨d1, d2, d3, d4, d5, d6, d7, d8⟩ := renB_spec k4 c6
  obtain ⟨q, _, hq⟩ := d6 m' hm'
  have := idx_spec hq
  rw [hlen]
  rcases Nat.lt_or_ge m' N.length with h' | h'
  ·exact h'
  ·rw [List.getElem?_eq_none (by omega)] at this; cases this
 ·intro i j B B' L L' b hi hj l l' f f'
  obtain ⟨m, B1, k1, k2, _, _, g⟩ := hft i B hi
  obtain ⟨m', B1', k1', k2', _, _, g'⟩ := hft j B' hj
  simp only [k1, k1', Option.bind_some] at l l'
  have := hs1.hinjF m m' B1 B1' L L' b k2 k2' l l' (g L b f) (g' L' b f')
  subst this
  exact (List.getElem?_inj (by
   rcases Nat.lt_or_ge i N.length with h' | h'
   ·exact h'
   ·rw [List.getElem?_eq_none (by omega)] at k1; cases k1) hN).1 (by rw [k1, k1'])
 ·intro i B L b hi hf l f
  obtain ⟨m, B1, k1, k2, k3, _, g⟩ := hft i B hi
  simp only [k1, Option.bind_some] at l
  exact hs1.hmutF m B1 L b k2 (by rw [← k3]; exact hf) l (g L b f)
 ·intro i B L b hi hf l f
  obtain ⟨m, B1, k1, k2, k3, _, g⟩ := hft i B hi
  simp only [k1, Option.bind_some] at l
  exact hs1.hfrzF m B1 L b k2 (by rw [← k3]; exact hf) l (g L b f)
 ·intro i B L hi l
  obtain ⟨m, B1, b2, k1, k2, k3, k4⟩ := key i B hi
  simp only [k1, Option.bind_some] at l
  exact (hs1.hdom m L l).2
 ·intro i B hi hp
  obtain ⟨m, B1, b2, k1, k2, k3, k4⟩ := key i B hi
  obtain ⟨c1, c2, c3, c4, c5, c6, c7, _⟩ := conv_sound hs hs1 hz hsub (hvm m (List.mem_of_getElem? k1)) k2 k3
  exact (renB_spec k4 c6).2.2.2.2.2.2.1 hp
end

theorem cnt_get {α : Type} : ∀ (l : List α) (n j : Nat), (cnt n l)[j]? = if j < l.length then some (n + j) else none := by
 intro l
 induction l with
 | nil => intro n j; simp [cnt]
 | cons x l ih =>
  intro n j
  cases j with
  | zero => simp [cnt]
  | succ j =>
   simp only [cnt, List.getElem?_cons_succ, ih, List.length_cons]
   by_cases h : j < l.length
   ·rw [if_pos h, if_pos (by omega)]; congr 1; omega
   ·rw [if_neg h, if_neg (by omega)]
theorem cnt_length {α : Type} : ∀ (l : List α) (n : Nat), (cnt n l).length = l.length := by
 intro l
 induction l with
 | nil => intro n; rfl
 | cons x l ih => intro n; simp [cnt, ih]

theorem cnt_mem {α : Type} {l : List α} {n m : Nat} (h : m ∈ cnt n l) : n ≤ m := by
 obtain ⟨j, hj⟩ := List.getElem?_of_mem h
 rw [cnt_get] at hj
 split at hj
 ·cases hj; omega
 ·cases hj
theorem cnt_nodup {α : Type} : ∀ (l : List α) (n : Nat), (cnt n l).Nodup := by
 intro l
 induction l with
 | nil => intro n; exact List.nodup_nil
 | cons x l ih =>
  intro n
  refine List.nodup_cons.2 ⟨fun h => ?_, ih _⟩
  have := cnt_mem h
  omega

theorem mget_zipU : ∀ (NL : List Nat) (bs : List Blk) (m : Mem), NL.Nodup → NL.length = bs.length →
  (∀ (i k : Nat) (b : Blk), NL[i]? = some k → bs[i]? = some b → mget (updM m (zipU NL bs)) k = some b) ∧ (∀ k, k ∉ NL → mget (updM m (zipU NL bs)) k = mget m k) := by
 intro NL
 induction NL with
 | nil => intro bs m _ hl; cases bs <;> simp at hl; exact ⟨by simp, fun _ _ => rfl⟩
 | cons k0 NL ih =>
  intro bs m hn hl
  cases bs with
  | nil => simp at hl
  | cons b0 bs =>
   obtain ⟨hk, hn⟩ := List.nodup_cons.1 hn
   obtain ⟨i1, i2⟩ := ih bs (set1 m (k0, some b0)) hn (by simpa using hl)
   simp only [zipU, updM]
   constructor
   ·intro i k b hi hb
    cases i with
    | zero =>
     simp at hi hb
     subst hi
     subst hb
     rw [i2 k0 hk, mget_set1, if_pos rfl]
    | succ i =>
     simp at hi hb
     exact i1 i k b hi hb
   ·intro k hkn
    rw [List.mem_cons, not_or] at hkn
    rw [i2 k hkn.2, mget_set1, if_neg (Ne.symm hkn.1)]

section
variable {P : Program} {n : Nat} {w0 : World} {M0 : Bool → Nat → Prop} {U : Nat → Prop} {ι ι' : Io} {h h1 h2 : Hp} {fr : List (Nat × Sv)} {mem mem1 : Mem} {a : Act} {w w' : World}
 {c : Cfg} {callF : FuncId → List Vl → List Blk → Option (List Vl × List Blk)} {o : Oper} {nx : Nat} {e : Eff}

theorem Sim.after (hs : Sim n w0 M0 U ι h1 fr mem1 a w) {N : List Nat} (hN : N.Nodup) {blks : List Blk} (hbl : blks.length = N.length)
  (hfz : ∀ (i : Nat) (B : Blk), blks[i]? = some B → ∃ m B1, N[i]? = some m ∧ mget mem1 m = some B1 ∧ B.fz = B1.fz) {rs : List Vl} {bs bsR : List Blk} {us : List Value}
  (hp : Post (fun j => (N[j]?).bind ι) h1 w blks rs bs us w' ι' h2) (hf : ∀ m, nx ≤ m → m < nx + (bs.length - N.length) → ¬ U m)
  (e : mapO (renB (fun i => (N ++ cnt nx (bs.drop N.length))[i]?)) bs = some bsR) :
  ∃ ι2 : Io, (∀ m, ¬ (nx ≤ m ∧ m < nx + (bs.length - N.length)) → ι2 m = ι m) ∧ (∀ (i m : Nat), (N ++ cnt nx (bs.drop N.length))[i]? = some m → ι2 m = ι' i) ∧
   Sim n w0 M0 (fun m => U m ∨ (nx ≤ m ∧ m < nx + (bs.length - N.length))) ι2 h2 fr (updM mem1 (zipU (N ++ cnt nx (bs.drop N.length)) bsR)) a w' ∧
   (∀ (i m : Nat), (N ++ cnt nx (bs.drop N.length))[i]? = some m → U m ∨ (nx ≤ m ∧ m < nx + (bs.length - N.length))) := by
 have hNU : ∀ (i m : Nat), N[i]? = some m → U m := by
  intro i m hi
  have hlt : i < blks.length := by
   rw [hbl]
   rcases Nat.lt_or_ge i N.length with h' | h'
   ·exact h'
   ·rw [List.getElem?_eq_none (by omega)] at hi; cases hi
  obtain ⟨m', B1, g1, g2, _⟩ := hfz i _ (List.getElem?_eq_getElem hlt)
  rw [hi] at g1; cases g1
  exact (hs.hnb m B1 g2).1
 have hle : N.length ≤ bs.length := by rw [← hbl]; exact hp.len
 have hNL : ∀ i, (N ++ cnt nx (bs.drop N.length))[i]? = if i < N.length then N[i]? else if i < bs.length then some (nx + (i - N.length)) else none := by
  intro i
  rw [List.getElem?_append]
  by_cases hi : i < N.length
  ·rw [if_pos hi, if_pos hi]
  ·rw [if_neg hi, if_neg hi, cnt_get, List.length_drop]
   by_cases h2 : i < bs.length
   ·rw [if_pos (by omega), if_pos h2]
   ·rw [if_neg (by omega), if_neg h2]
 have hlenNL : (N ++ cnt nx (bs.drop N.length)).length = bs.length := by rw [List.length_append, cnt_length, List.length_drop]; omega
 have hR := mapO_some e
 have hcase : ∀ (i m : Nat), (N ++ cnt nx (bs.drop N.length))[i]? = some m → (i < N.length ∧ N[i]? = some m) ∨ (N.length ≤ i ∧ i < bs.length ∧ m = nx + (i - N.length)) := by
  intro i m hi
  rw [hNL] at hi
  split at hi
  ·exact .inl ⟨‹_›, hi⟩
  ·split at hi
   ·cases hi; exact .inr ⟨by omega, ‹_›, rfl⟩
   ·cases hi
 have hnodup : (N ++ cnt nx (bs.drop N.length)).Nodup := by
  rw [List.nodup_append]
  refine ⟨hN, ?_, ?_⟩
  ·exact cnt_nodup _ _
  ·intro x hx y hy hxy
   subst hxy
   obtain ⟨i, hi⟩ := List.getElem?_of_mem hx
   obtain ⟨j, hj⟩ := List.getElem?_of_mem hy
   rw [cnt_get] at hj
   split at hj
   ·rename_i hlt
    rw [List.length_drop] at hlt
    cases hj
    exact hf (nx + j) (by omega) (by omega) (hNU i _ hi)
   ·cases hj
 obtain ⟨z1, z2⟩ := mget_zipU _ bsR mem1 hnodup (by rw [hlenNL, hR.1])
 let ι2 : Io := fun m => if nx ≤ m ∧ m < nx + (bs.length - N.length) then ι' (N.length + (m - nx)) else ι m
 have hι2 : ∀ m, ¬ (nx ≤ m ∧ m < nx + (bs.length - N.length)) → ι2 m = ι m := fun m hm => if_neg hm
 have hιU : ∀ m, U m → ι2 m = ι m := fun m hm => hι2 m fun hq => hf m hq.1 hq.2 hm
 have hιN : ∀ (i m : Nat), (N ++ cnt nx (bs.drop N.length))[i]? = some m → ι2 m = ι' i := by
  intro i m hi
  rcases hcase i m hi with ⟨h', h''⟩ | ⟨h', h'', rfl⟩
  ·rw [hιU m (hNU i m h''), hp.same i (by omega)]
   simp [h'']
  ·show (if _ then _ else _) = _
   rw [if_pos (by omega)]
   congr 1
   omega
 have hUn : ∀ (i m : Nat), (N ++ cnt nx (bs.drop N.length))[i]? = some m → U m ∨ (nx ≤ m ∧ m < nx + (bs.length - N.length)) := by
  intro i m hi
  rcases hcase i m hi with ⟨h', h''⟩ | ⟨h', h'', rfl⟩
  ·exact .inl (hNU i m h'')
  ·exact .inr (by omega)
 -- what a name's block is, behind the call
 have hk : ∀ x B, mget (updM mem1 (zipU (N ++ cnt nx (bs.drop N.length)) bsR)) x = some B →
   (∃ (i : Nat) (B' : Blk), (N ++ cnt nx (bs.drop N.length))[i]? = some x ∧ bs[i]? = some B' ∧ renB (fun i => (N ++ cnt nx (bs.drop N.length))[i]?) B' = some B) ∨ (x ∉ (N ++ cnt nx (bs.drop N.length)) ∧ mget mem1 x = some B) := by
  intro x B hx
  by_cases hm : x ∈ (N ++ cnt nx (bs.drop N.length))
  ·obtain ⟨i, hi⟩ := List.getElem?_of_mem hm
   have hlt : i < bs.length := by
    rcases hcase i x hi with ⟨h', _⟩ | ⟨_, h', _⟩ <;> omega
   obtain ⟨B'', q1, q2⟩ := hR.2 i _ (List.getElem?_eq_getElem hlt)
   have := z1 i x B'' hi q1
   rw [hx] at this
   cases this
   exact .inl ⟨i, _, hi, List.getElem?_eq_getElem hlt, q2⟩
  ·rw [z2 x hm] at hx
   exact .inr ⟨hm, hx⟩
 have hmm := hp.mm
 -- a block that was not handed over stays
 have hlent : ∀ b, Lent (fun j => (N[j]?).bind ι) blks b → ∃ m B L, mget mem1 m = some B ∧ B.fz = false ∧ ι m = some L ∧ L.b = b ∧ m ∈ N := by
  rintro b ⟨i, B, L, g1, g2, g3, rfl⟩
  obtain ⟨m, B1, q1, q2, q3⟩ := hfz i B g1
  simp only [q1, Option.bind_some] at g3
  exact ⟨m, B1, L, q2, by rw [← q3]; exact g2, g3, rfl, List.mem_of_getElem? q1⟩
 have hstay : ∀ x B L b, x ∉ (N ++ cnt nx (bs.drop N.length)) → mget mem1 x = some B → ι x = some L → Ft w L B b → ¬ Lent (fun j => (N[j]?).bind ι) blks b := by
  intro x B L b hx hB hL hF hq
  obtain ⟨m, B1, L1, q1, q2, q3, q4, q5⟩ := hlent _ hq
  have := hs.hinjF m x B1 B L1 L b q1 hB q3 hL (q4 ▸ Ft.self) hF
  subst this
  exact hx (List.mem_append_left _ q5)
 -- whose part of the heap it was
 have hnewb : ∀ (i : Nat) (B : Blk) (L : Loc) (b : Nat), bs[i]? = some B → ι' i = some L → Ft w' L B b → ∀ y By Ly, y ∉ (N ++ cnt nx (bs.drop N.length)) → mget mem1 y = some By → ι y = some Ly → ¬ Ft w Ly By b := by
  intro i B L b hi l f y By Ly hy ey ly fy
  rcases hp.own2 i B L b hi l f with h' | ⟨j, B0, L0, q1, q2, q3⟩
  ·have := hs.ftlt ey ly fy
   omega
  ·obtain ⟨m, B1, r1, r2, _⟩ := hfz j B0 q1
   simp only [r1, Option.bind_some] at q2
   have := hs.hinjF m y B1 By L0 Ly b r2 ey q2 ly (q3 ▸ Ft.self) fy
   subst this
   exact hy (List.mem_append_left _ (List.mem_of_getElem? r1))
 have hnew : ∀ (i x : Nat) (B B' : Blk) (L : Loc) (b : Nat), (N ++ cnt nx (bs.drop N.length))[i]? = some x → renB (fun i => (N ++ cnt nx (bs.drop N.length))[i]?) B' = some B → Ft w' L B b → Ft w' L B' b := by
  intro i x B B' L b hi hr f
  obtain ⟨o1, o2⟩ := renB_ow hr
  by_cases ho : B.ow = none
  ·rw [f.plain ho]; exact Ft.self
  ·rw [(o2 ho).1] at f; exact f
 have hold : ∀ x B L b, x ∉ (N ++ cnt nx (bs.drop N.length)) → mget mem1 x = some B → ι x = some L → Ft w' L B b → Ft w L B b := by
  intro x B L b hx e' l f
  exact f.to (hp.frame L.b (hs.hdom x L l).2 (hstay x B L L.b hx e' l Ft.self)).symm rfl rfl
 have hstayB : ∀ b, b < w0.heap.size → ¬ M0 false b → ¬ Lent (fun j => (N[j]?).bind ι) blks b := by
  intro b hb hM hq
  obtain ⟨m, B1, L1, q1, q2, q3, q4, q5⟩ := hlent _ hq
  rcases hs.hown m B1 L1 q1 q2 q3 with h' | h'
  ·omega
  ·rw [q4] at h'; exact hM h'
 refine ⟨ι2, hι2, hιN, ?_, hUn⟩
 refine { hsize := hs.hsize, hdefers := hs.hdefers, hfr := ?_, hmem := ?_, hinjF := ?_, hsub := hmm.sub, hmutF := ?_, hfrzF := ?_, hownF := ?_, hown2F := ?_, hframe := ?_, hgrow := Nat.le_trans hs.hgrow hp.grow, hos := hp.os.trans hs.hos, htape := hp.tape.trans hs.htape, houtput := hp.output.trans hs.houtput, hnm := ?_, hnb := ?_, hdom := ?_, hpr := ?_ }
 ·intro t v e'
  obtain ⟨u, q1, q2⟩ := hs.hfr t v e'
  exact ⟨u, q1, q2.mono hp.sub fun m hm => hιU m (hs.hnm t v e' m hm)⟩
 ·intro x B hx
  rcases hk x B hx with ⟨i, B', g1, g2, g3⟩ | ⟨g1, g2⟩
  ·obtain ⟨d1, d2, d3, d4, d5, d6, d7, d8⟩ := renB_spec g3 (hmm.pr i B' g2)
   obtain ⟨o1, o2⟩ := renB_ow g3
   by_cases ho : B.ow = none
   ·exact (hmm.rb i B' g2).re (o1 ▸ ho) ho (hιN i x g1) (fun _ _ => rfl) (Sub.refl _) d1 d2 (renB_mp g3) d5.2 fun C q4 => by rw [← d1]; exact d8 q4 fun m m' hq => hιN m m' hq
   ·obtain ⟨q1, q2⟩ := o2 ho
    rw [q1]
    exact (hmm.rb i B' g2).to (hιN i x g1) (fun _ _ _ _ => rfl) (Sub.refl _) fun y hy => by
     obtain ⟨e, he, hy⟩ := List.mem_flatMap.1 hy
     obtain ⟨z, hz, hy⟩ := List.mem_flatMap.1 hy
     have := hmm.pr i B' g2 q2 e he z hz
     cases z <;> simp [At.pr, At.nm] at this hy
  ·have hu := hs.hnb x B g2
   exact (hs.hmem x B g2).to (hιU x hu.1) (fun L b hL f => hp.frame b (hs.ftlt g2 hL f) (hstay x B L b g1 g2 hL f)) hp.sub fun m hm => hιU m (hu.2 m hm)
 ·intro x y B1 B2 L1 L2 b e1 e2 l1 l2 f1 f2
  rcases hk x B1 e1 with ⟨i, B', g1, g2, g3⟩ | ⟨g1, g2⟩
  ·have f1' := hnew i x B1 B' L1 b g1 g3 f1
   rw [hιN i x g1] at l1
   rcases hk y B2 e2 with ⟨j, B'', k1, k2, k3⟩ | ⟨k1, k2⟩
   ·have f2' := hnew j y B2 B'' L2 b k1 k3 f2
    rw [hιN j y k1] at l2
    have := hmm.injF i j B' B'' L1 L2 b g2 k2 l1 l2 f1' f2'
    subst this
    rw [g1] at k1
    cases k1
    rfl
   ·rw [hιU y (hs.hnb y B2 k2).1] at l2
    exact absurd (hold y B2 L2 b k1 k2 l2 f2) (hnewb i B' L1 b g2 l1 f1' y B2 L2 k1 k2 l2)
  ·rw [hιU x (hs.hnb x B1 g2).1] at l1
   rcases hk y B2 e2 with ⟨j, B'', k1, k2, k3⟩ | ⟨k1, k2⟩
   ·have f2' := hnew j y B2 B'' L2 b k1 k3 f2
    rw [hιN j y k1] at l2
    exact absurd (hold x B1 L1 b g1 g2 l1 f1) (hnewb j B'' L2 b k2 l2 f2' x B1 L1 g1 g2 l1)
   ·rw [hιU y (hs.hnb y B2 k2).1] at l2
    exact hs.hinjF x y B1 B2 L1 L2 b g2 k2 l1 l2 (hold x B1 L1 b g1 g2 l1 f1) (hold y B2 L2 b k1 k2 l2 f2)
 ·intro x B L b e1 hz l f
  rcases hk x B e1 with ⟨i, B', g1, g2, g3⟩ | ⟨g1, g2⟩
  ·obtain ⟨d1, d2, d3, d4, d5, d6, d7, d8⟩ := renB_spec g3 (hmm.pr i B' g2)
   rw [hιN i x g1] at l
   exact hmm.mutF i B' L b g2 (by rw [← d4]; exact hz) l (hnew i x B B' L b g1 g3 f)
  ·rw [hιU x (hs.hnb x B g2).1] at l
   have f' := hold x B L b g1 g2 l f
   rw [hp.view b (hs.ftlt g2 l f') (hstay x B L b g1 g2 l f')]
   exact hs.hmutF x B L b g2 hz l f'
 ·intro x B L b e1 hz l f
  rcases hk x B e1 with ⟨i, B', g1, g2, g3⟩ | ⟨g1, g2⟩
  ·obtain ⟨d1, d2, d3, d4, d5, d6, d7, d8⟩ := renB_spec g3 (hmm.pr i B' g2)
   rw [hιN i x g1] at l
   exact hmm.frzF i B' L b g2 (by rw [← d4]; exact hz) l (hnew i x B B' L b g1 g3 f)
  ·rw [hιU x (hs.hnb x B g2).1] at l
   have f' := hold x B L b g1 g2 l f
   rw [hp.view b (hs.ftlt g2 l f') (hstay x B L b g1 g2 l f'), hp.frame b (hs.ftlt g2 l f') (hstay x B L b g1 g2 l f')]
   exact hs.hfrzF x B L b g2 hz l f'
 ·intro x B L b e1 hz l f
  rcases hk x B e1 with ⟨i, B', g1, g2, g3⟩ | ⟨g1, g2⟩
  ·obtain ⟨d1, d2, d3, d4, d5, d6, d7, d8⟩ := renB_spec g3 (hmm.pr i B' g2)
   rw [hιN i x g1] at l
   rcases hp.own i B' L b g2 (by rw [← d4]; exact hz) l (hnew i x B B' L b g1 g3 f) with h' | h'
   ·exact .inl (Nat.le_trans hs.hgrow h')
   ·obtain ⟨m, B1, L1, q1, q2, q3, q4, q5⟩ := hlent _ h'
    rw [← q4]
    exact hs.hown m B1 L1 q1 q2 q3
  ·rw [hιU x (hs.hnb x B g2).1] at l
   exact hs.hownF x B L b g2 hz l (hold x B L b g1 g2 l f)
 ·intro x B L b e1 l f
  rcases hk x B e1 with ⟨i, B', g1, g2, g3⟩ | ⟨g1, g2⟩
  ·rw [hιN i x g1] at l
   rcases hp.own2 i B' L b g2 l (hnew i x B B' L b g1 g3 f) with h' | ⟨j, B0, L0, q1, q2, q3⟩
   ·exact .inl (Nat.le_trans hs.hgrow h')
   ·obtain ⟨m, B1, r1, r2, _⟩ := hfz j B0 q1
    simp only [r1, Option.bind_some] at q2
    rw [← q3]
    exact hs.hown2 m B1 L0 r2 q2
  ·rw [hιU x (hs.hnb x B g2).1] at l
   exact hs.hown2F x B L b g2 l (hold x B L b g1 g2 l f)
 ·intro b hb hM
  rw [hp.frame b (Nat.lt_of_lt_of_le hb hs.hgrow) (hstayB b hb hM)]
  exact hs.hframe b hb hM
 ·intro t v e' m hm
  exact .inl (hs.hnm t v e' m hm)
 ·intro x B e1
  rcases hk x B e1 with ⟨i, B', g1, g2, g3⟩ | ⟨g1, g2⟩
  ·obtain ⟨d1, d2, d3, d4, d5, d6, d7, d8⟩ := renB_spec g3 (hmm.pr i B' g2)
   refine ⟨hUn i x g1, fun m' hm' => ?_⟩
   obtain ⟨m, hm, hq⟩ := d6 m' hm'
   exact hUn m m' hq
  ·exact ⟨.inl (hs.hnb x B g2).1, fun m hm => .inl ((hs.hnb x B g2).2 m hm)⟩
 ·intro m L l
  by_cases hm : nx ≤ m ∧ m < nx + (bs.length - N.length)
  ·refine ⟨.inr hm, ?_⟩
   have l' : ι' (N.length + (m - nx)) = some L := by
    have : ι2 m = some L := l
    rw [show ι2 m = ι' (N.length + (m - nx)) from if_pos hm] at this
    exact this
   have hlt : N.length + (m - nx) < bs.length := by omega
   exact hmm.dom _ _ L (List.getElem?_eq_getElem hlt) l'
  ·rw [hι2 m hm] at l
   have := hs.hdom m L l
   exact ⟨.inl this.1, Nat.lt_of_lt_of_le this.2 hp.grow⟩
 ·intro x B e1 hpB
  rcases hk x B e1 with ⟨i, B', g1, g2, g3⟩ | ⟨g1, g2⟩
  ·obtain ⟨d1, d2, d3, d4, d5, d6, d7, d8⟩ := renB_spec g3 (hmm.pr i B' g2)
   exact d7 hpB
  ·exact hs.hpr x B g2 hpB

end

section
variable {P : Program} {n : Nat} {w0 : World} {M0 : Bool → Nat → Prop} {U : Nat → Prop} {ι ι' : Io} {h h1 h2 : Hp} {fr : List (Nat × Sv)} {mem mem1 : Mem} {a : Act} {w w' : World}
 {c : Cfg} {callF : FuncId → List Vl → List Blk → Option (List Vl × List Blk)} {o : Oper} {nx : Nat} {e : Eff}

theorem resV_sound {rs : List Vl} {us : Array Value} (hr : RVs ι h rs us.toList) : RS ι h (resV rs) (packV us) := by
 obtain ⟨h1, h2⟩ := hr
 have hlen : rs.length = us.size := by simpa using h1
 unfold packV resV
 split
 ·rename_i x
  have hs : us.size = 1 := by rw [← hlen]; rfl
  rw [dif_pos hs]
  obtain ⟨u, e1, e2⟩ := h2 0 x rfl
  have : us[0]? = some u := by simpa using e1
  rw [Array.getElem?_eq_getElem (by omega)] at this
  cases this
  exact e2
 ·rename_i hne
  have hs : us.size ≠ 1 := by
   intro hs
   rw [← hlen] at hs
   match rs, hs with
   | [x], _ => exact hne x rfl
  rw [dif_neg hs]
  exact ⟨us, rfl, by simpa using h1, h2⟩
theorem resV_nms {rs : List Vl} : ∀ m, m ∈ (resV rs).nms ↔ m ∈ namesV rs := by
 intro m
 unfold resV
 split
 ·rfl
 ·rfl

theorem RA.noSl {x : At} {v : Value} (hn : x.noSl = true) (hm : x.nm = []) (hr : RA ι h x v) : RA ι' h2 x v := by
 cases x <;> simp [At.noSl] at hn
 case ptr => simp [At.nm] at hm
 case sm => simp [At.nm] at hm
 case mp => simp [At.nm] at hm
 case ptq => simp [At.nm] at hm
 all_goals (have hr : RP h _ _ := hr; cases hr; first | exact .int _ _ | exact .bool _ | exact .str _ | exact .snil _ _ | exact .nilp)
theorem RV.noSl {x : Vl} {v : Value} (hn : x.cells.all At.noSl = true) (hm : namesV [x] = []) (hr : RV ι h x v) : RV ι' h2 x v := by
 cases x with
 | a x => exact RA.noSl (by simpa [Vl.cells] using hn) (by simpa [namesV, Vl.cells] using hm) hr
 | g cs =>
  obtain ⟨A, hA, hl⟩ := hr
  refine ⟨A, hA, hl.1, fun j y hy => ?_⟩
  obtain ⟨u, q1, q2⟩ := hl.2 j y hy
  have hy' := List.mem_of_getElem? hy
  refine ⟨u, q1, RA.noSl (List.all_eq_true.1 hn y hy') ?_ q2⟩
  have : ∀ m, m ∉ y.nm := by
   intro m hm'
   have : m ∈ namesV [Vl.g cs] := by simp only [namesV, Vl.cells, List.flatMap_cons, List.flatMap_nil, List.append_nil, List.mem_flatMap]; exact ⟨y, hy', hm'⟩
   rw [hm] at this
   cases this
  exact List.eq_nil_iff_forall_not_mem.2 this

theorem RA.noSl' {x : At} {v : Value} (hn : x.noSl = true) (hr : RA ι h x v) : RA ι h2 x v := by
 cases x <;> simp [At.noSl] at hn
 case ptr => exact hr
 case sm => exact hr
 case mp => exact hr
 case ptq => exact hr
 all_goals (have hr : RP h _ _ := hr; cases hr; first | exact .int _ _ | exact .bool _ | exact .str _ | exact .snil _ _ | exact .nilp)
theorem RVs.noSl {xs : List Vl} {vs : List Value} (hn : xs.all (fun v => v.cells.all At.noSl) = true) (hr : RVs ι h xs vs) : RVs ι h2 xs vs := by
 refine ⟨hr.1, fun j x e => ?_⟩
 obtain ⟨u, g1, g2⟩ := hr.2 j x e
 have hx := List.all_eq_true.1 hn x (List.mem_of_getElem? e)
 refine ⟨u, g1, ?_⟩
 cases x with
 | a x => exact RA.noSl' (by simpa [Vl.cells] using hx) g2
 | g cs =>
  obtain ⟨A, rfl, hl⟩ := g2
  refine ⟨A, rfl, hl.1, fun j y hy => ?_⟩
  obtain ⟨z, q1, q2⟩ := hl.2 j y hy
  exact ⟨z, q1, RA.noSl' (List.all_eq_true.1 hx y (List.mem_of_getElem? hy)) q2⟩
theorem renA_noSl {ρ : Nat → Option Nat} {x y : At} (e : renA ρ x = some y) : y.noSl = x.noSl := by
 cases x
 case ptr | sm | mp | ptq =>
  simp only [renA, Option.bind_eq_some_iff] at e
  obtain ⟨_, _, e⟩ := e
  cases e; rfl
 all_goals (simp only [renA, Option.some.injEq] at e; subst e; rfl)
theorem mapO_noSl {ρ : Nat → Option Nat} {cs ds : List At} (e : mapO (renA ρ) cs = some ds) (h : cs.all At.noSl = true) : ds.all At.noSl = true := by
 rw [List.all_eq_true] at h ⊢
 intro y hy
 obtain ⟨j, hj⟩ := List.getElem?_of_mem hy
 obtain ⟨x, hx, hxy⟩ := mapO_some_inv e j y hj
 rw [renA_noSl hxy]
 exact h x (List.mem_of_getElem? hx)
theorem mapO_renV_noSl {ρ : Nat → Option Nat} {xs ys : List Vl} (e : mapO (renV ρ) xs = some ys) (h : xs.all (fun v => v.cells.all At.noSl) = true) : ys.all (fun v => v.cells.all At.noSl) = true := by
 rw [List.all_eq_true] at h ⊢
 intro y hy
 obtain ⟨j, hj⟩ := List.getElem?_of_mem hy
 obtain ⟨x, hx, hxy⟩ := mapO_some_inv e j y hj
 have hq := h x (List.mem_of_getElem? hx)
 cases x with
 | a x =>
  simp only [renV, Option.bind_eq_some_iff] at hxy
  obtain ⟨z, hz, hxy⟩ := hxy
  cases hxy
  simpa [Vl.cells, renA_noSl hz] using hq
 | g cs =>
  simp only [renV, Option.bind_eq_some_iff] at hxy
  obtain ⟨z, hz, hxy⟩ := hxy
  cases hxy
  exact mapO_noSl hz hq
theorem renB_noSl {ρ : Nat → Option Nat} {b b' : Blk} (e : renB ρ b = some b') (h : ∀ el ∈ b.els, el.all At.noSl = true) : ∀ el ∈ b'.els, el.all At.noSl = true := by
 unfold renB at e
 split at e
 ·cases e; exact h
 ·split at e
  ·cases e
  simp only [Option.bind_eq_some_iff] at e
  obtain ⟨els, e1, e⟩ := e
  cases e
  intro el hel
  obtain ⟨j, hj⟩ := List.getElem?_of_mem hel
  obtain ⟨x, hx, hxy⟩ := mapO_some_inv e1 j el hj
  exact mapO_noSl hxy (h x (List.mem_of_getElem? hx))
theorem RB.noSl {m : Nat} {B : Blk} (hb : RB ι h w m B) (ho : B.ow = none) (hm : B.mp = []) (hn : ∀ el ∈ B.els, el.all At.noSl = true) : RB ι h2 w m B := by
 cases hL : ι m with
 | none => unfold RB at hb ⊢; rw [hL] at hb ⊢; exact hb
 | some L =>
  have hb := hb.plain hL ho
  unfold RB
  rw [hL, ho]
  rcases hb with ⟨⟨C, e1, e2, e3, e4⟩, e5⟩ | ⟨e0, es, e1, e2⟩
  ·refine .inl ⟨⟨C, e1, e2, e3, fun i el he => ⟨(e4 i el he).1, fun j x hx => ?_⟩⟩, e5⟩
   obtain ⟨u, g1, g2⟩ := (e4 i el he).2 j x hx
   exact ⟨u, g1, RA.noSl' (List.all_eq_true.1 (hn el (List.mem_of_getElem? he)) x (List.mem_of_getElem? hx)) g2⟩
  ·refine .inr ⟨e0, es, e1, e2.1, fun i p hp => ?_⟩
   rw [hm] at hp
   simp at hp
/-- What a call was lent is one's own again: what came back names nothing that only reads. -/
theorem Sim.thaw (hs : Sim n w0 M0 U ι h fr mem a w) {rs : List Vl} {bs bsR : List Blk} {us : List Value} {ι2 : Io}
  (hp : Post (fun j => (([] : List Nat)[j]?).bind ι) h1 w [] rs bs us w' ι' h2)
  (s : Sim n w0 M0 (fun m => U m ∨ (nx ≤ m ∧ m < nx + bs.length)) ι2 h2 fr (updM mem1 (zipU (cnt nx bs) bsR)) a w')
  (t1 : ∀ m, ¬ (nx ≤ m ∧ m < nx + bs.length) → ι2 m = ι m) (t2 : ∀ (i m : Nat), (cnt nx bs)[i]? = some m → ι2 m = ι' i)
  (hf : ∀ m, nx ≤ m → m < nx + bs.length → ¬ U m) (e : mapO (renB (fun i => (cnt nx bs)[i]?)) bs = some bsR) (hfl : bs.all flatB = true) :
  Sim n w0 M0 (fun m => U m ∨ (nx ≤ m ∧ m < nx + bs.length)) ι2 h fr (updM mem (zipU (cnt nx bs) bsR)) a w' := by
 have hR := mapO_some e
 have hlen : (cnt nx bs).length = bsR.length := by rw [cnt_length, hR.1]
 obtain ⟨z1, z2⟩ := mget_zipU _ bsR mem (cnt_nodup _ _) hlen
 obtain ⟨y1, y2⟩ := mget_zipU _ bsR mem1 (cnt_nodup _ _) hlen
 have hnl : ∀ b, ¬ Lent (fun j => (([] : List Nat)[j]?).bind ι) [] b := by
  rintro b ⟨i, B, L, g1, _⟩
  simp at g1
 have hfm : ∀ b, b < w.heap.size → w'.heap[b]? = w.heap[b]? := fun b hb => hp.frame b hb (hnl b)
 have hιU : ∀ m, U m → ι2 m = ι m := fun m hm => t1 m fun hq => hf m hq.1 hq.2 hm
 have hk : ∀ x B, mget (updM mem (zipU (cnt nx bs) bsR)) x = some B →
   (mget (updM mem1 (zipU (cnt nx bs) bsR)) x = some B ∧ B.fz = false ∧ (B.mp = [] ∧ B.ow = none) ∧ (∀ el ∈ B.els, el.all At.noSl = true) ∧ ∀ L b, ι2 x = some L → Ft w' L B b → w.heap.size ≤ b) ∨ mget mem x = some B := by
  intro x B hx
  by_cases hm : x ∈ cnt nx bs
  ·obtain ⟨i, hi⟩ := List.getElem?_of_mem hm
   have hlt : i < bs.length := by
    rw [cnt_get] at hi
    split at hi
    ·assumption
    ·cases hi
   obtain ⟨B'', q1, q2⟩ := hR.2 i _ (List.getElem?_eq_getElem hlt)
   have := z1 i x B'' hi q1
   rw [hx] at this
   cases this
   obtain ⟨d1, d2, d3, d4, d5, d6, d7, d8⟩ := renB_spec q2 (hp.mm.pr i _ (List.getElem?_eq_getElem hlt))
   have hq := List.all_eq_true.1 hfl _ (List.getElem_mem hlt)
   simp only [flatB, Bool.and_eq_true, Bool.not_eq_true'] at hq
   have how : B.ow = none := by rw [(renB_ow q2).1]; simpa using hq.2.1
   refine .inl ⟨y1 i x B hi q1, by rw [d4]; exact hq.1, ⟨by rw [renB_mp q2]; simpa using hq.2.2.1, how⟩, renB_noSl q2 (List.all_eq_true.1 hq.2.2.2), fun L b hL f => ?_⟩
   rw [t2 i x hi] at hL
   rw [f.plain how]
   rcases hp.own2 i _ L L.b (List.getElem?_eq_getElem hlt) hL Ft.self with h' | ⟨j, B0, L0, r1, _⟩
   ·exact h'
   ·simp at r1
  ·rw [z2 x hm] at hx
   exact .inr hx
 have hold : ∀ x B L b, mget mem x = some B → ι x = some L → Ft w' L B b → Ft w L B b := fun x B L b e' l f => f.to (hfm L.b (hs.hdom x L l).2).symm rfl rfl
 refine { hsize := hs.hsize, hdefers := hs.hdefers, hfr := ?_, hmem := ?_, hinjF := ?_, hsub := ?_, hmutF := ?_, hfrzF := ?_, hownF := ?_, hown2F := ?_, hframe := ?_, hgrow := s.hgrow, hos := s.hos, htape := s.htape, houtput := s.houtput, hnm := s.hnm, hnb := ?_, hdom := s.hdom, hpr := ?_ }
 ·intro t v e'
  obtain ⟨u, q1, q2⟩ := hs.hfr t v e'
  exact ⟨u, q1, q2.mono (Sub.refl h) fun m hm => hιU m (hs.hnm t v e' m hm)⟩
 ·intro x B hx
  rcases hk x B hx with ⟨g1, g2, g3, g4, g5⟩ | g
  ·exact (s.hmem x B g1).noSl g3.2 g3.1 g4
  ·have hu := hs.hnb x B g
   exact (hs.hmem x B g).to (hιU x hu.1) (fun L b hL f => hfm b (hs.ftlt g hL f)) (Sub.refl h) fun m hm => hιU m (hu.2 m hm)
 ·intro x y B1 B2 L1 L2 b e1 e2 l1 l2 f1 f2
  rcases hk x B1 e1 with ⟨g1, _, _, _, g5⟩ | g
  ·rcases hk y B2 e2 with ⟨k1, _, _, _, k5⟩ | k
   ·exact s.hinjF x y B1 B2 L1 L2 b g1 k1 l1 l2 f1 f2
   ·rw [hιU y (hs.hnb y B2 k).1] at l2
    have := hs.ftlt k l2 (hold y B2 L2 b k l2 f2)
    have := g5 L1 b l1 f1
    omega
  ·rw [hιU x (hs.hnb x B1 g).1] at l1
   rcases hk y B2 e2 with ⟨k1, _, _, _, k5⟩ | k
   ·have := hs.ftlt g l1 (hold x B1 L1 b g l1 f1)
    have := k5 L2 b l2 f2
    omega
   ·rw [hιU y (hs.hnb y B2 k).1] at l2
    exact hs.hinjF x y B1 B2 L1 L2 b g k l1 l2 (hold x B1 L1 b g l1 f1) (hold y B2 L2 b k l2 f2)
 ·intro b o' hb
  have := hs.hsub b o' hb
  rw [hfm b (by
   rcases Nat.lt_or_ge b w.heap.size with h' | h'
   ·exact h'
   ·rw [Array.getElem?_eq_none h'] at this; cases this)]
  exact this
 ·intro x B L b e1 hz l f
  rcases hk x B e1 with ⟨g1, _, _, _, g5⟩ | g
  ·have hL := g5 L b l f
   cases hh : h b with
   | none => rfl
   | some o' =>
    have := hs.hsub _ _ hh
    rw [Array.getElem?_eq_none hL] at this
    cases this
  ·rw [hιU x (hs.hnb x B g).1] at l
   exact hs.hmutF x B L b g hz l (hold x B L b g l f)
 ·intro x B L b e1 hz l f
  rcases hk x B e1 with ⟨g1, g2, _, _, g5⟩ | g
  ·rw [g2] at hz; cases hz
  ·rw [hιU x (hs.hnb x B g).1] at l
   have f' := hold x B L b g l f
   rw [hfm b (hs.ftlt g l f')]
   exact hs.hfrzF x B L b g hz l f'
 ·intro x B L b e1 hz l f
  rcases hk x B e1 with ⟨g1, _, _, _, g5⟩ | g
  ·exact .inl (Nat.le_trans hs.hgrow (g5 L b l f))
  ·rw [hιU x (hs.hnb x B g).1] at l
   exact hs.hownF x B L b g hz l (hold x B L b g l f)
 ·intro x B L b e1 l f
  rcases hk x B e1 with ⟨g1, _, _, _, g5⟩ | g
  ·exact .inl (Nat.le_trans hs.hgrow (g5 L b l f))
  ·rw [hιU x (hs.hnb x B g).1] at l
   exact hs.hown2F x B L b g l (hold x B L b g l f)
 ·intro b hb hM
  rw [hfm b (Nat.lt_of_lt_of_le hb hs.hgrow)]
  exact hs.hframe b hb hM
 ·intro x B e1
  rcases hk x B e1 with ⟨g1, _⟩ | g
  ·exact s.hnb x B g1
  ·exact ⟨.inl (hs.hnb x B g).1, fun m hm => .inl ((hs.hnb x B g).2 m hm)⟩
 ·intro x B e1
  rcases hk x B e1 with ⟨g1, _⟩ | g
  ·exact s.hpr x B g1
  ·exact hs.hpr x B g

theorem wp_enter {f : FuncId} {args : Array Value} {next : Act → World → Prop} {Q : Exit → Act → World → Prop} {R : Ending → World → Prop} (hr : (execOp a.eval o).run P w = .ok (.enter f args) w) (hc : Calls P f args w R)
  (hn : ∀ e w', R e w' → ∃ v, e = .returned v ∧ next (a.put o.dst v) w') : o.wp P a w next Q := by
 unfold Oper.wp
 rw [hr]
 refine hc.mono fun e w' he => ?_
 obtain ⟨v, rfl, h2⟩ := hn e w' he
 exact h2

theorem RVs.append {xs ys : List Vl} {us vs : List Value} (h1 : RVs ι h xs us) (h2 : RVs ι h ys vs) : RVs ι h (xs ++ ys) (us ++ vs) := by
 refine ⟨by simp [h1.1, h2.1], fun j y e => ?_⟩
 rw [List.getElem?_append] at e ⊢
 by_cases hj : j < xs.length
 ·rw [if_pos hj] at e; rw [if_pos (by rw [← h1.1]; exact hj)]; exact h1.2 j y e
 ·rw [if_neg hj] at e; rw [if_neg (by rw [← h1.1]; exact hj), ← h1.1]; exact h2.2 _ y e
theorem args_sound (hs : Sim n w0 M0 U ι h fr mem a w) : ∀ {os : List Operand} {vs : List Vl}, mapO (Am.evV fr) os = some vs → RVs ι h vs (os.map a.eval) ∧ ∀ m ∈ namesV vs, U m := by
 intro os vs e
 obtain ⟨e1, _⟩ := mapO_some e
 refine ⟨⟨by simp [e1], fun j x hx => ?_⟩, fun m hm => ?_⟩
 ·obtain ⟨o', ho, hv⟩ := mapO_some_inv e j x hx
  exact ⟨a.eval o', by simp [ho], (hs.evV hv).1⟩
 ·obtain ⟨x, hx, hm⟩ := namesV_mem.1 hm
  obtain ⟨j, hj⟩ := List.getElem?_of_mem hx
  obtain ⟨o', ho, hv⟩ := mapO_some_inv e j x hj
  exact (hs.evV hv).2 m hm

theorem wp_call (hC : CallOk P callF) (hs : Sim n w0 M0 U ι h fr mem a w) (hf : ∀ m, nx ≤ m → m < e.nn → ¬ U m) {fo : Operand} {args : Array Operand} {ats : Array TypeId} (hop : o.op = .call { callee := .value fo, args := args, argTypes := ats })
  (he : stp c callF o fr mem nx = some e) {next : Act → World → Prop} {Q : Exit → Act → World → Prop} (hk : ∀ u w', Nxt n w0 M0 U ι h fr mem nx e a u w' → next (a.put o.dst u) w') : o.wp P a w next Q := by
 simp only [stp, hop, Option.bind_eq_some_iff] at he
 obtain ⟨fa, e1, he⟩ := he
 obtain ⟨hrf, -⟩ := hs.evA e1
 split at he
 ·rename_i g cs
  simp only [Option.bind_eq_some_iff] at he
  obtain ⟨as0, e2, he⟩ := he
  obtain ⟨hargs0, hargn0⟩ := args_sound hs e2
  obtain ⟨V, hfv, hV⟩ : ∃ V : Array Value, a.eval fo = .func (.func g) #[] V ∧ RVs ι h (cs.map Vl.a) V.toList := by
   have hrf : RP h _ _ := hrf
   generalize a.eval fo = q at hrf
   cases hrf
   rename_i V us hn' hu hr'
   refine ⟨V, rfl, by simpa using hn', fun j x hx => ?_⟩
   obtain ⟨y, hy, rfl⟩ := List.getElem?_map .. ▸ hx |> Option.map_eq_some_iff.1
   exact ⟨us j, by simpa using hu j y hy, RA.ofRP (hr' j y hy)⟩
  have hVn : ∀ m ∈ namesV (cs.map Vl.a), U m := by
   intro m hm
   obtain ⟨x, hx, hm⟩ := namesV_mem.1 hm
   obtain ⟨y, hy, rfl⟩ := List.mem_map.1 hx
   obtain ⟨j, hj⟩ := List.getElem?_of_mem hy
   have hrf : RP h _ _ := hrf
   generalize a.eval fo = q at hrf
   cases hrf
   rename_i V us hn' hu hr'
   have := (hr' j y hj).nm
   simp only [namesV, Vl.cells, List.flatMap_cons, List.flatMap_nil, List.append_nil, this] at hm
   cases hm
  have hargs : RVs ι h (as0 ++ cs.map Vl.a) ((args.map a.eval ++ V).toList) := by
   rw [Array.toList_append, Array.toList_map]
   exact hargs0.append hV
  have hargn : ∀ m ∈ namesV (as0 ++ cs.map Vl.a), U m := by
   intro m hm
   rw [namesV, List.flatMap_append] at hm
   rcases List.mem_append.1 hm with hm | hm
   ·exact hargn0 m hm
   ·exact hVn m hm
  generalize as0 ++ cs.map Vl.a = as at he hargs hargn
  unfold stpCall at he
  simp only [Option.bind_eq_some_iff] at he
  obtain ⟨vals, e3, he⟩ := he
  generalize hN : clo (fun m => if c.mutA g = true then namesM mem m else ptrsM mem m) 64 (namesV vals) [] = N at *
  generalize hF : (if c.mutA g = true then [] else smnV as ++ N.flatMap (smnM mem)) = F at *
  by_cases hnest : N.any (nests (updM mem (fzUpd mem F))) = true
  ·rw [if_pos hnest] at he; cases he
  rw [if_neg hnest] at he
  simp only [Option.bind_eq_some_iff] at he
  obtain ⟨blks, e4, vals', e5, ⟨rs0, bs⟩, e6, rs, e7, bsR, e8, lu, e9, he⟩ := he
  have hNd : N.Nodup := by rw [← hN]; exact clo_nodup _ _ _ _ List.nodup_nil
  obtain ⟨h1, s1, s2, s3, s4, s5⟩ := Sim.freezeL F hs (Fzn.refl mem)
  have hvF : c.mutA g = false → Vw ι mem w h1 (smnV as) ∧ Vw ι mem w h1 (N.flatMap (smnM mem)) := by
   intro hq
   rw [← hF] at s2
   simp only [hq] at s2
   exact ⟨fun m hm => s2 m (List.mem_append_left _ hm), fun m hm => s2 m (List.mem_append_right _ hm)⟩
  -- the arguments
  have hvals : RVs ι h1 vals (args.map a.eval ++ V).toList := by
   split at e3
   ·cases e3; exact hargs.mono s1 fun _ _ => rfl
   ·rename_i hq
    exact (frzVs_sound hs s1 (hvF (by simpa using hq)).1 hargs e3).1
  obtain ⟨hmm, hbl, hbf⟩ := pack_sound hs s4 s5 s1 hNd (cv := c.mutA g) (fun hq => (hvF hq).2) e4
  have hpl : ∀ B ∈ blks, B.ow = none := by
   intro B hB
   obtain ⟨i, hi⟩ := List.getElem?_of_mem hB
   obtain ⟨m, B1, k1, k2, _, k4, _⟩ := hbf i B hi
   rw [k4]
   cases hq : B1.ow with
   | none => rfl
   | some q =>
    exfalso
    refine hnest (List.any_eq_true.2 ⟨m, List.mem_of_getElem? k1, ?_⟩)
    unfold nests
    rw [k2]
    show B1.ow.isSome = true
    rw [hq]
    rfl
  have hbf : ∀ (i : Nat) (B : Blk), blks[i]? = some B → ∃ m B1, N[i]? = some m ∧ mget (updM mem (fzUpd mem F)) m = some B1 ∧ B.fz = B1.fz := fun i B hi => let ⟨m, B1, k1, k2, k3, _⟩ := hbf i B hi; ⟨m, B1, k1, k2, k3⟩
  have hvals' := hvals.ren (ι' := fun j => (N[j]?).bind ι) e5 (fun m m' hq => by simp [idx_spec hq])
  have hvn : ∀ m ∈ namesV vals', m < blks.length := by
   intro m hm
   obtain ⟨m', _, hq⟩ := mapO_renV_nm e5 m hm
   have := idx_spec hq
   rw [hbl]
   rcases Nat.lt_or_ge m N.length with h' | h'
   ·exact h'
   ·rw [List.getElem?_eq_none (by omega)] at this; cases this
  obtain ⟨⟨fn, hfn, hnm, hbd⟩, hcall⟩ := hC g vals' blks rs0 bs e6
  have hrun : (execOp a.eval o).run P w = .ok (.enter g (args.map a.eval ++ V)) w := by
   have h1 : ¬ fn.name = "runtime.NumGoroutine" := by simpa using hnm
   have h2 : ¬ fn.body = none := by cases hx : fn.body <;> simp_all
   simp [execOp, hop, resolve, hfv, Deferred.ofValue, invoke, callFunc, hfn, h1, h2]
  refine wp_enter hrun (hcall w _ h1 (args.map a.eval ++ V) hvals' hvn hmm hpl) ?_
  rintro en w' ⟨us, ι', h2, rfl, hp⟩
  refine ⟨_, rfl, hk _ w' ?_⟩
  unfold lentU at e9
  split at e9
  ·-- what was lent stays one's own
   split at e9
   ·rename_i hq
    cases e9
    cases he
    simp only [Bool.and_eq_true] at hq
    obtain ⟨q1, q2, q3⟩ := hq
    have hN0 : N = [] := by simpa using q1
    subst hN0
    have hbl0 : blks = [] := List.eq_nil_of_length_eq_zero (by rw [hbl]; rfl)
    subst hbl0
    obtain ⟨ι2, t1, t2, t3, t4⟩ := s4.after hNd hbl hbf hp hf e8
    simp only [List.length_nil, List.nil_append, Nat.sub_zero, List.drop_zero] at t1 t2 t3 t4 e8 hf ⊢
    have hth := hs.thaw hp t3 t1 t2 hf e8 q3
    have hrs : RVs ι2 h rs us.toList := RVs.noSl (mapO_renV_noSl e7 q2) (hp.rv.ren e7 fun m m' hq => t2 m m' (by simpa using hq))
    refine ⟨ι2, h, Sub.refl h, t1, hth, resV_sound hrs, ?_, by simp, fun _ _ _ => rfl⟩
    intro m hm
    rw [resV_nms] at hm
    obtain ⟨m', _, hq⟩ := mapO_renV_nm e7 m hm
    exact t4 m' m (by simpa using hq)
   ·cases e9
  cases e9
  split at he
  ·-- nothing that only reads is handed back
   rename_i hq
   rw [Bool.and_eq_true] at hq
   obtain ⟨q1, q2⟩ := hq
   have hbs : bs = [] := by simpa using q1
   subst hbs
   have hbl0 : blks = [] := by have := hp.len; exact List.eq_nil_of_length_eq_zero (by simpa using this)
   have hN0 : N = [] := List.eq_nil_of_length_eq_zero (by rw [← hbl, hbl0]; rfl)
   subst hN0
   subst hbl0
   cases he
   have hno : namesV rs0 = [] := List.eq_nil_iff_forall_not_mem.2 fun m hm => by have := hp.rn m hm; simp at this
   have hrn : namesV rs = [] := List.eq_nil_iff_forall_not_mem.2 fun m hm => by
    obtain ⟨m', hm', _⟩ := mapO_renV_nm e7 m hm
    rw [hno] at hm'
    cases hm'
   have hRs : RVs ι h rs0 us.toList := by
    refine ⟨hp.rv.1, fun j x hx => ?_⟩
    obtain ⟨u, g1, g2⟩ := hp.rv.2 j x hx
    have hx' := List.mem_of_getElem? hx
    refine ⟨u, g1, RV.noSl (List.all_eq_true.1 q2 x hx') (List.eq_nil_iff_forall_not_mem.2 fun m hm => ?_) g2⟩
    have := hp.rn m (namesV_mem.2 ⟨x, hx', hm⟩)
    simp at this
   have hRs' : RVs ι h rs us.toList := hRs.ren e7 (fun m m' hq => by simp [cnt] at hq)
   have hlent : ∀ b, ¬ Lent (fun j => (([] : List Nat)[j]?).bind ι) [] b := by
    rintro b ⟨i, B, L, g1, _⟩
    simp at g1
   have hg : w.grownBy w' none := ⟨hp.os, hp.tape, hp.output, hp.grow, fun b hb _ => hp.frame b hb (hlent b)⟩
   have hbR : bsR = [] := by simp [mapO] at e8; exact e8
   subst hbR
   refine ⟨ι, h, Sub.refl h, fun _ _ => rfl, ?_, resV_sound hRs', ?_, by simp, fun _ _ _ => rfl⟩
   ·simp [zipU, cnt, updM]
    exact (hs.grown hg fun g hg => by cases hg).weak fun m hm => .inl hm
   ·intro m hm
    rw [resV_nms, hrn] at hm
    cases hm
  ·cases he
   obtain ⟨ι2, t1, t2, t3, t4⟩ := s4.after hNd hbl hbf hp hf e8
   refine ⟨ι2, h2, s1.trans hp.sub, t1, ?_, ?_, ?_, by simp, ?_⟩
   ·simp only
    rw [updM_append]
    exact t3
   ·exact resV_sound (hp.rv.ren e7 fun m m' hq => t2 m m' hq)
   ·intro m hm
    rw [resV_nms] at hm
    obtain ⟨m', _, hq⟩ := mapO_renV_nm e7 m hm
    exact t4 m' m hq
   ·intro b hb hM
    have hnl : ¬ Lent (fun j => (N[j]?).bind ι) blks b := by
     rintro ⟨i, B, L, g1, g2, g3, rfl⟩
     obtain ⟨m, B1, k1, k2, k3⟩ := hbf i B g1
     simp only [k1, Option.bind_some] at g3
     rcases s4.hown m B1 L k2 (by rw [← k3]; exact g2) g3 with h' | h'
     ·omega
     ·exact hM h'
    rw [hp.view b (Nat.lt_of_lt_of_le hb hs.hgrow) hnl]
    by_cases hx : ∃ m ∈ F, ∃ B L, mget mem m = some B ∧ ι m = some L ∧ Ft w L B b
    ·obtain ⟨m, hm, B, L, k1, k2, kf⟩ := hx
     rw [s2 m hm B L b k1 k2 kf]
     cases hz : B.fz with
     | false =>
      rcases hs.hownF m B L b k1 hz k2 kf with h' | h'
      ·omega
      ·exact absurd h' hM
     | true => exact (hs.hfrzF m B L b k1 hz k2 kf).symm
    ·exact s3 b fun m hm B L k1 k2 hq => hx ⟨m, hm, B, L, k1, k2, hq⟩
 ·cases he

end

section
variable {P : Program} {n : Nat} {w0 : World} {M0 : Bool → Nat → Prop} {U : Nat → Prop} {ι ι' ι0 : Io} {h h1 h2 h0 : Hp} {fr : List (Nat × Sv)} {mem mem1 : Mem} {a : Act} {w w' : World} {p : Nat}
 {c : Cfg} {callF : FuncId → List Vl → List Blk → Option (List Vl × List Blk)} {o : Oper} {nx : Nat} {e : Eff}

theorem Plain.wp (hp : Plain P n w0 M0 U ι h fr mem a w nx o e) {next : Act → World → Prop} {Q : Exit → Act → World → Prop} (hk : ∀ u w', Nxt n w0 M0 U ι h fr mem nx e a u w' → next (a.put o.dst u) w') : o.wp P a w next Q := by
 rcases hp with ⟨u, w', h1, h2⟩ | ⟨w', h1, h2⟩
 ·exact wp_val h1 (hk u w' h2)
 ·exact wp_skip' h1 (hk _ w' h2)

theorem op_sound (hT : TyOk P c.T) (hC : CallOk P callF) (hs : Sim n w0 M0 U ι h fr mem a w) (hf : ∀ m, nx ≤ m → m < e.nn → ¬ U m) (he : stp c callF o fr mem nx = some e) {next : Act → World → Prop} {Q : Exit → Act → World → Prop}
  (hk : ∀ u w', Nxt n w0 M0 U ι h fr mem nx e a u w' → next (a.put o.dst u) w') : o.wp P a w next Q := by
 cases hop : o.op with
 | move x => exact (pl_move hs hop he).wp hk
 | assign x => exact (pl_assign hs hop he).wp hk
 | pick k x y => exact (pl_pick hs hop he).wp hk
 | alloc t => exact (pl_alloc hT hs hf hop he).wp hk
 | box t x => exact (pl_box hT hs hf hop he).wp hk
 | build t ps => exact (pl_build hT hs hop he).wp hk
 | buildSlice t l ps => exact (pl_buildSlice hT hs hf hop he).wp hk
 | load t x => exact (pl_load hT hs hf hop he).wp hk
 | store t x y => exact (pl_store hT hs hop he).wp hk
 | nilCheck x => exact (pl_nilCheck hs hop he).wp hk
 | binOp op t x y t2 => exact (pl_binOp hT hs hop he).wp hk
 | unOp op t x => exact (pl_unOp hs hop he).wp hk
 | convert s d x => exact (pl_convert hT hs hf hop he).wp hk
 | makeSlice t l k => exact (pl_makeSlice hT hs hf hop he).wp hk
 | slice t x lo hi mx => exact (pl_slice hT hs hop he).wp hk
 | fieldAddr s x f => exact (pl_fieldAddr hT hs hop he).wp hk
 | field s x f => exact (pl_field hT hs hop he).wp hk
 | indexAddr t x i => exact (pl_indexAddr hT hs hop he).wp hk
 | index t x i => exact (pl_index hT hs hop he).wp hk
 | extract x i => exact (pl_extract hs hop he).wp hk
 | call k =>
  obtain ⟨callee, args, ats⟩ := k
  cases callee with
  | value f => exact wp_call hC hs hf hop he hk
  | invoke r m => simp [stp, hop] at he
  | builtin b =>
   cases b with
   | len => exact (pl_len hT hs hop he).wp hk
   | min => exact (pl_min hs hop he).wp hk
   | max => exact (pl_max hs hop he).wp hk
   | append => exact (pl_append hT hs hf hop he).wp hk
   | clear => exact (pl_clear hT hs hop he).wp hk
   | _ => simp [stp, hop] at he
 | makeFunc fn first cs => exact (pl_makeFunc hs hop he).wp hk
 | makeMap t r => exact (pl_makeMap hs hf hop he).wp hk
 | lookup t x k ok => exact (pl_lookup hT hs hop he).wp hk
 | mapUpdate t x k y => exact (pl_mapUpdate hT hs hop he).wp hk
 | insert t x k y => exact (pl_insert hT hs hop he).wp hk
 | _ => simp [stp, hop] at he

theorem Sim.put (hs : Sim n w0 M0 U ι h fr mem a w) {dst : Option Nat} {v : Sv} {u : Value} {fr' : List (Nat × Sv)} (hr : RS ι h v u) (hn : ∀ m ∈ v.nms, U m) (e : putD n fr dst v = some fr') :
  Sim n w0 M0 U ι h fr' mem (a.put dst u) w := by
 cases dst with
 | none => cases e; exact hs
 | some d =>
  simp only [putD] at e
  split at e
  ·rename_i hd
   cases e
   refine { hs with hsize := by simp [Act.put, hs.hsize], hfr := ?_, hnm := ?_ }
   ·intro t v' e'
    rw [lk_cons] at e'
    split at e'
    ·rename_i ht
     cases e'
     subst ht
     exact ⟨u, by simp [Act.put, hs.hsize, hd], hr⟩
    ·rename_i ht
     obtain ⟨u', q1, q2⟩ := hs.hfr t v' e'
     exact ⟨u', by simp [Act.put, Array.getElem?_setIfInBounds_ne ht, q1], q2⟩
   ·intro t v' e' m hm
    rw [lk_cons] at e'
    split at e'
    ·cases e'; exact hn m hm
    ·exact hs.hnm t v' e' m hm
  ·cases e

def valB : Value → Option Bool
 | .bool b => some b
 | _ => none

/-- Is an operation wanted? -/
theorem want_sound (hs : Sim n w0 M0 U ι h fr mem a w) {ops : Array Oper} {b : Bool} (e : wantO ops.toList o fr = some b) : Region.wanted o (yielded ops a.tmps) = b := by
 unfold wantO at e
 unfold Region.wanted
 split at e
 ·rename_i hg
  cases e
  rw [hg]
 ·rename_i j want hg
  rw [hg]
  simp only [Option.bind_eq_some_iff] at e
  obtain ⟨d, ⟨o', e1, e2⟩, v, e3, e⟩ := e
  obtain ⟨u, q1, q2⟩ := hs.hfr d v e3
  have hy : yielded ops a.tmps j = valB u := by
   have h1 : ((ops[j]?).bind (·.dst)).bind (a.tmps[·]?) = some u := by
    have : ops[j]? = some o' := by simpa using e1
    rw [this]
    simp only [Option.bind_some, e2]
    exact q1
   unfold yielded
   rw [h1]
   cases u <;> rfl
  simp only [hy]
  split at e
  ·rename_i b'
   cases e
   have := RP.bool_inv (show RP h (.bool b') u from q2)
   subst this
   rfl
  ·rename_i hnb
   cases e
   have hub : ∀ b', u ≠ .bool b' := by
    rintro b' rfl
    cases v with
    | v x =>
     cases x with
     | a x =>
      cases x with
      | ptr m i o => obtain ⟨L, _, hq⟩ := q2; cases hq
      | sm m lo k => rcases q2 with ⟨L, c, _, hq, _⟩ | ⟨_, _, _, hq⟩ <;> cases hq
      | mp m => obtain ⟨L, _, hq, _⟩ := q2; cases hq
      | ptq m i es => obtain ⟨L, _, hq⟩ := q2; cases hq
      | bool b => exact hnb b rfl
      | _ => have q2 : RP h _ _ := q2; cases q2
     | g cs => obtain ⟨A, hq, _⟩ := q2; cases hq
    | t vs => obtain ⟨A, hq, _⟩ := q2; cases hq
    | u => cases q2
   cases u <;> first | rfl | exact absurd rfl (hub _)

/-- What has become of what was there when the function was entered. -/
structure Hist (w0 : World) (M0 : Bool → Nat → Prop) (p : Nat) (ι0 : Io) (h0 : Hp) (ι : Io) (h : Hp) : Prop where
 sub : Sub h0 h
 same : ∀ i, i < p → ι i = ι0 i
 view : ∀ b, b < w0.heap.size → ¬ M0 false b → h b = h0 b

/-- The machine's state stands for the program's. -/
def Cnf (n : Nat) (w0 : World) (M0 : Bool → Nat → Prop) (p : Nat) (ι0 : Io) (h0 : Hp) (σ : St) (a : Act) (w : World) : Prop :=
 ∃ ι h, Sim n w0 M0 (fun m => m < σ.nx) ι h σ.fr σ.mem a w ∧ Hist w0 M0 p ι0 h0 ι h ∧ p ≤ σ.nx

theorem undef_RS (ι : Io) (h : Hp) : RS ι h .u undef := rfl

theorem runOps_sound (hT : TyOk P c.T) (hC : CallOk P callF) {ops : Array Oper} {Q : Exit → Act → World → Prop} :
  ∀ (r : List Oper) (i : Nat) (σ σ' : St) (is is' : List Info) (a : Act) (w : World), ops.toList.drop i = r → Cnf n w0 M0 p ι0 h0 σ a w → runOps c callF n ops.toList r σ is = some (σ', is') →
   (∀ a' w', Cnf n w0 M0 p ι0 h0 σ' a' w' → Q .normal a' w') → wpOps P ops Q (List.range' i r.length) a w := by
 intro r
 induction r with
 | nil =>
  intro i σ σ' is is' a w _ hc he hk
  simp [runOps] at he
  obtain ⟨rfl, rfl⟩ := he
  exact hk a w hc
 | cons o r ih =>
  intro i σ σ' is is' a w hd hc he hk
  have ho : ops[i]? = some o := by
   have : ops.toList[i]? = some o := by
    have := List.getElem?_drop (xs := ops.toList) (i := i) (j := 0)
    rw [hd] at this
    simpa using this.symm
   simpa using this
  have hd' : ops.toList.drop (i + 1) = r := by
   rw [← List.drop_drop, hd]
   rfl
  simp only [List.length_cons, List.range'_succ, wpOps, ho]
  obtain ⟨ι, h, hs, hh, hp⟩ := hc
  simp only [runOps] at he
  cases hw : wantO ops.toList o σ.fr with
  | none => rw [hw] at he; simp [wantK] at he
  | some b =>
   rw [want_sound hs hw]
   rw [hw] at he
   cases b with
   | false =>
    simp only [wantK] at he
    cases hp' : putD n σ.fr o.dst .u with
    | none => rw [hp'] at he; simp [putK] at he
    | some fr' =>
     rw [hp'] at he
     simp only [putK] at he
     rw [if_neg (by simp)]
     exact ih (i + 1) ⟨fr', σ.mem, σ.nx⟩ σ' _ is' _ w hd' ⟨ι, h, hs.put (undef_RS ι h) (by simp [Sv.nms]) hp', hh, hp⟩ he hk
   | true =>
    simp only [wantK] at he
    rw [if_pos rfl]
    left
    cases hst : stp c callF o σ.fr σ.mem σ.nx with
    | none => rw [hst] at he; simp [didK] at he
    | some e =>
     rw [hst] at he
     simp only [didK] at he
     cases hp' : putD n σ.fr o.dst e.v with
     | none => rw [hp'] at he; simp [putK] at he
     | some fr' =>
      rw [hp'] at he
      simp only [putK] at he
      refine op_sound hT hC hs (fun m h1 h2 h3 => by omega) hst ?_
      rintro u w' ⟨ι', h', n1, n2, n3, n4, n5, n6, n7⟩
      refine ih (i + 1) ⟨fr', updM σ.mem e.upd, e.nn⟩ σ' _ is' _ w' hd' ⟨ι', h', ?_, ⟨hh.sub.trans n1, fun j hj => ?_, fun b hb hM => ?_⟩, by simp only; omega⟩ he hk
      ·exact (n3.put n4 n5 hp').weak fun m hm => by
        simp only at hm ⊢
        rcases hm with hm | hm <;> omega
      ·rw [n2 j (by omega), hh.same j hj]
      ·rw [n7 b hb hM, hh.view b hb hM]

end

theorem clo_congr {ns ns' : Nat → List Nat} : ∀ (k : Nat) (ms acc : List Nat), (∀ m ∈ clo ns k ms acc, ns' m = ns m) → clo ns' k ms acc = clo ns k ms acc := by
 have pre : ∀ (k : Nat) (ms acc : List Nat) (m : Nat), m ∈ acc → m ∈ clo ns k ms acc := by
  intro k
  induction k with
  | zero => intro ms acc m hm; exact hm
  | succ k ih =>
   intro ms acc m hm
   cases ms with
   | nil => exact hm
   | cons x ms =>
    simp only [clo]
    split
    ·exact ih _ _ m hm
    ·exact ih _ _ m (List.mem_append_left _ hm)
 intro k
 induction k with
 | zero => intro ms acc _; rfl
 | succ k ih =>
  intro ms acc h
  cases ms with
  | nil => rfl
  | cons x ms =>
   simp only [clo] at h ⊢
   split
   ·rename_i hc
    rw [if_pos hc] at h
    exact ih _ _ h
   ·rename_i hc
    rw [if_neg hc] at h
    have hx : ns' x = ns x := h x (pre _ _ _ _ (by simp))
    rw [hx]
    exact ih _ _ h

theorem mapO_congr {α β : Type} {f g : α → Option β} {l : List α} (h : ∀ x ∈ l, f x = g x) : mapO f l = mapO g l := by
 induction l with
 | nil => rfl
 | cons x l ih =>
  simp only [mapO]
  rw [h x (List.mem_cons_self ..), ih fun y hy => h y (List.mem_cons_of_mem _ hy)]

section
variable {mem mem' : Mem} {fr fr' : List (Nat × Sv)}

def Eqm (mem mem' : Mem) (F : List Nat) : Prop := ∀ m ∈ F, mget mem' m = mget mem m

theorem frzA_congr {x : At} (h : Eqm mem mem' x.smn) : frzA mem' x = frzA mem x := by
 cases x <;> first | rfl | skip
 simp only [frzA]
 rw [h _ (by simp [At.smn])]
theorem frzV_congr {x : Vl} (h : Eqm mem mem' (x.cells.flatMap At.smn)) : frzV mem' x = frzV mem x := by
 cases x with
 | a x => simp only [frzV]; rw [frzA_congr (by simpa [Vl.cells] using h)]
 | g cs =>
  simp only [frzV]
  rw [mapO_congr (l := cs) fun x hx => frzA_congr fun m hm => h m (List.mem_flatMap.2 ⟨x, hx, hm⟩)]
theorem frzVs_congr {xs : List Vl} (h : Eqm mem mem' (smnV xs)) : mapO (frzV mem') xs = mapO (frzV mem) xs :=
 mapO_congr fun x hx => frzV_congr fun m hm => h m (List.mem_flatMap.2 ⟨x, hx, hm⟩)
theorem frzB_congr {b : Blk} (h : b.pr = false → Eqm mem mem' (b.els.flatMap fun e => e.flatMap At.smn)) : frzB mem' b = frzB mem b := by
 unfold frzB
 split
 ·rfl
 ·rename_i hp
  split
  ·rfl
  rw [mapO_congr fun e he => mapO_congr fun x hx => frzA_congr fun m hm => h (by simpa using hp) m (List.mem_flatMap.2 ⟨e, he, List.mem_flatMap.2 ⟨x, hx, hm⟩⟩)]
theorem fzUpd_congr {F : List Nat} (h : Eqm mem mem' F) : fzUpd mem' F = fzUpd mem F := by
 induction F with
 | nil => rfl
 | cons m F ih =>
  simp only [fzUpd]
  rw [h m (List.mem_cons_self ..), ih fun x hx => h x (List.mem_cons_of_mem _ hx)]
theorem elsOf_congr {es : Nat} {x : At} {r : Nat × List (List At) × Bool × List Nat} (e : elsOf mem es x = some r) (h : Eqm mem mem' r.2.2.2) : elsOf mem' es x = some r := by
 cases x <;> first | exact e | skip
 rename_i m lo k
 simp only [elsOf, Option.bind_eq_some_iff] at e ⊢
 obtain ⟨B, e1, e2⟩ := e
 split at e2
 ·rename_i hc
  cases e2
  exact ⟨B, by rw [h m (by simp), e1], by rw [if_pos hc]⟩
 ·cases e2
theorem mget_updM_congr {F : List Nat} {m : Nat} (u : Mem) (hm : mget mem' m = mget mem m) : mget (updM mem' u) m = mget (updM mem u) m := by
 induction u generalizing mem mem' with
 | nil => exact hm
 | cons p u ih =>
  obtain ⟨k, b⟩ := p
  simp only [updM]
  refine ih ?_
  rw [mget_set1, mget_set1, hm]

theorem ev_congr {o : Operand} (h : ∀ t, o = .tmp t → lk fr' t = lk fr t) : ev fr' o = ev fr o := by
 cases o <;> first | rfl | exact h _ rfl
theorem gOf_congr {fr fr' : List (Nat × Sv)} {o : Operand} (h : ev fr' o = ev fr o) : gOf fr' o = gOf fr o := by unfold gOf; rw [h]
theorem evA_congr {o : Operand} (h : ∀ t, o = .tmp t → lk fr' t = lk fr t) : evA fr' o = evA fr o := by unfold evA; rw [ev_congr h]
theorem evV_congr {o : Operand} (h : ∀ t, o = .tmp t → lk fr' t = lk fr t) : evV fr' o = evV fr o := by unfold evV; rw [ev_congr h]
theorem evB_congr {o : Operand} (h : ∀ t, o = .tmp t → lk fr' t = lk fr t) : evB fr' o = evB fr o := by unfold evB; rw [evA_congr h]
theorem evI_congr {o : Operand} (h : ∀ t, o = .tmp t → lk fr' t = lk fr t) : evI fr' o = evI fr o := by unfold evI; rw [evA_congr h]
theorem boundO_congr {d : Nat} {o : Option Operand} (h : ∀ t, o = some (.tmp t) → lk fr' t = lk fr t) : boundO fr' d o = boundO fr d o := by
 cases o with
 | none => rfl
 | some o => exact evI_congr fun t ht => h t (by rw [ht])
theorem partsV_congr {ps : List (Nat × Operand)} (h : ∀ i t, (i, Operand.tmp t) ∈ ps → lk fr' t = lk fr t) : partsV fr' ps = partsV fr ps :=
 mapO_congr fun p hp => by
  obtain ⟨i, x⟩ := p
  simp only
  rw [evV_congr fun t ht => h i t (by rw [← ht]; exact hp)]

variable {c : Cfg} {callF : FuncId → List Vl → List Blk → Option (List Vl × List Blk)} {o : Oper} {nx : Nat} {e : Eff}

theorem Fzn.upd (F : List Nat) : ∀ {mem1 : Mem}, Fzn mem mem1 → Fzn mem (updM mem1 (fzUpd mem F)) := by
 induction F with
 | nil => intro mem1 h; exact h
 | cons m F ih =>
  intro mem1 h
  cases hB : mget mem m with
  | none => simp only [fzUpd, hB]; exact ih h
  | some B =>
   simp only [fzUpd, hB, updM]
   refine ih fun x => ?_
   rw [mget_set1]
   by_cases hx : m = x
   ·rw [if_pos hx]; exact .inr ⟨B, by rw [← hx, hB], rfl⟩
   ·rw [if_neg hx]; exact h x

theorem stpCall_congr {g : FuncId} {args : List Vl} (he : stpCall c callF g args mem nx = some e) (hm : Eqm mem mem' e.rd) : stpCall c callF g args mem' nx = some e := by
 unfold stpCall at he ⊢
 simp only [Option.bind_eq_some_iff] at he ⊢
 obtain ⟨vals, e3, he⟩ := he
 generalize hN : clo (fun m => if c.mutA g = true then namesM mem m else ptrsM mem m) 64 (namesV vals) [] = N at *
 generalize hF : (if c.mutA g = true then [] else smnV args ++ N.flatMap (smnM mem)) = F at *
 by_cases hnest : N.any (nests (updM mem (fzUpd mem F))) = true
 ·rw [if_pos hnest] at he; cases he
 rw [if_neg hnest] at he
 simp only [Option.bind_eq_some_iff] at he
 obtain ⟨blks, e4, vals', e5, ⟨rs0, bs⟩, e6, rs, e7, bsR, e8, lu, e9, he⟩ := he
 have hrd : Eqm mem mem' (N ++ F) := by
  cases he
  exact hm
 have hNm : Eqm mem mem' N := fun m h => hrd m (List.mem_append_left _ h)
 have hFm : Eqm mem mem' F := fun m h => hrd m (List.mem_append_right _ h)
 have hN' : clo (fun m => if c.mutA g = true then namesM mem' m else ptrsM mem' m) 64 (namesV vals) [] = N := by
  rw [← hN]
  refine clo_congr _ _ _ fun m h => ?_
  rw [hN] at h
  simp only [namesM, ptrsM, hNm m h]
 have hsm : N.flatMap (smnM mem') = N.flatMap (smnM mem) := by
  have : ∀ (l : List Nat), (∀ m ∈ l, m ∈ N) → l.flatMap (smnM mem') = l.flatMap (smnM mem) := by
   intro l
   induction l with
   | nil => intro _; rfl
   | cons x l ih =>
    intro h
    simp only [List.flatMap_cons]
    rw [ih fun m hm => h m (List.mem_cons_of_mem _ hm)]
    congr 1
    simp only [smnM, hNm x (h x (List.mem_cons_self ..))]
  exact this N fun _ h => h
 have hF' : (if c.mutA g = true then [] else smnV args ++ N.flatMap (smnM mem')) = F := by rw [hsm, hF]
 have hnest' : ¬ N.any (nests (updM mem' (fzUpd mem' F))) = true := by
  have : ∀ (l : List Nat), (∀ m ∈ l, m ∈ N) → l.any (nests (updM mem' (fzUpd mem' F))) = l.any (nests (updM mem (fzUpd mem F))) := by
   intro l
   induction l with
   | nil => intro _; rfl
   | cons x l ih =>
    intro h
    simp only [List.any_cons]
    rw [ih fun m hm => h m (List.mem_cons_of_mem _ hm)]
    congr 1
    unfold nests
    rw [mget_updM_congr (F := []) _ (hNm x (h x (List.mem_cons_self ..))), fzUpd_congr hFm]
  rw [this N fun _ h => h]
  exact hnest
 refine ⟨vals, ?_, ?_⟩
 rotate_left
 rw [hN', hF', if_neg hnest']
 simp only [Option.bind_eq_some_iff]
 refine ⟨blks, ?_, vals', e5, (rs0, bs), e6, rs, e7, bsR, e8, lu, by rw [fzUpd_congr hFm]; exact e9, he⟩
 rotate_left
 ·split
  ·rename_i hq; rw [if_pos hq] at e3; exact e3
  ·rename_i hq
   rw [if_neg hq] at e3
   rw [frzVs_congr]
   ·exact e3
   ·intro m h
    refine hFm m ?_
    rw [← hF, if_neg hq]
    exact List.mem_append_left _ h
 ·rw [← e4]
  refine mapO_congr fun m h => ?_
  rw [mget_updM_congr (F := []) _ (hNm m h), fzUpd_congr hFm]
  cases hb : mget (updM mem (fzUpd mem F)) m with
  | none => rfl
  | some b =>
   simp only [Option.bind_some]
   split
   ·rfl
   ·rename_i hq
    rw [frzB_congr]
    intro hp
    intro m' hm'
    refine hFm m' ?_
    rw [← hF, if_neg hq]
    refine List.mem_append_right _ (List.mem_flatMap.2 ⟨m, h, ?_⟩)
    have hz : Fzn mem (updM mem (fzUpd mem F)) := Fzn.upd F (Fzn.refl mem)
    obtain ⟨B0, f1, f2, _, _, f5, _⟩ := hz.of hb
    unfold smnM
    rw [f1]
    simp only [← f5, hp]
    rw [← f2]
    simpa using hm'

theorem stl_congr {b : Blk} {q : TypeId × Nat} {r : List (List At) × List Nat} (e : stl mem b q = some r) (h : Eqm mem mem' r.2) : stl mem' b q = some r := by
 unfold stl at e ⊢
 split at e
 ·exact e
 ·simp only [Option.bind_eq_some_iff] at e ⊢
  obtain ⟨el, e1, p, e2, e⟩ := e
  split at e
  ·rename_i hall
   cases e
   refine ⟨el, e1, p, ?_, by rw [if_pos hall]⟩
   unfold home at e2 ⊢
   split at e2
   ·simp only [Option.bind_eq_some_iff] at e2 ⊢
    obtain ⟨bx, e3, e2⟩ := e2
    split at e2
    ·rename_i hc
     cases e2
     exact ⟨bx, by rw [h _ (List.mem_singleton.2 rfl), e3], by rw [if_pos hc]⟩
    ·cases e2
   ·cases e2
  ·cases e
theorem stpOut_congr {t : TypeId} {m i es : Nat} (he : stpOut c t m i es mem nx = some e) (hm : Eqm mem mem' e.rd) : stpOut c t m i es mem' nx = some e := by
 simp only [stpOut, Option.bind_eq_some_iff] at he ⊢
 obtain ⟨b, e1, he⟩ := he
 split at he
 ·rename_i q e3 ho ht
  split at he
  ·rename_i hc
   simp only [Option.bind_eq_some_iff] at he
   obtain ⟨r, e2, he⟩ := he
   split at he
   ·rename_i hri
    cases he
    refine ⟨b, by rw [hm _ (List.mem_cons_self ..), e1], ?_⟩
    simp only [ho, ht]
    rw [if_pos hc, stl_congr e2 fun m' h' => hm m' (List.mem_cons_of_mem _ h')]
    simp only [Option.bind_some, hri]
   ·cases he
  ·cases he
 ·cases he
theorem stpInto_congr {t : TypeId} {m i es : Nat} {v : Vl} (he : stpInto c t m i es v mem nx = some e) (hm : Eqm mem mem' e.rd) : stpInto c t m i es v mem' nx = some e := by
 simp only [stpInto, Option.bind_eq_some_iff] at he ⊢
 obtain ⟨b, e1, he⟩ := he
 split at he
 ·rename_i q y k e3 ho ht
  split at he
  ·rename_i hc
   cases he
   exact ⟨b, by rw [hm _ (List.mem_cons_self ..), e1], by simp only [ho, ht]; rw [if_pos hc]⟩
  ·cases he
 ·cases he
theorem stpAppend_congr {t : TypeId} {s x : At} (he : stpAppend c t s x mem nx = some e) (hm : Eqm mem mem' e.rd) : stpAppend c t s x mem' nx = some e := by
 unfold stpAppend at he ⊢
 split at he
 ·rename_i et ht
  simp only [Option.bind_eq_some_iff] at he ⊢
  obtain ⟨te, e1, src, e2, base, e3, he⟩ := he
  split at he
  ·rename_i hc
   cases he
   refine ⟨te, e1, src, elsOf_congr e2 fun m h => hm m (List.mem_append_right _ h), base, ?_, by rw [if_pos hc]⟩
   split at e3
   ·exact e3
   ·rename_i m lo k
    simp only [Option.bind_eq_some_iff] at e3 ⊢
    obtain ⟨B, e4, e3⟩ := e3
    split at e3
    ·rename_i hq
     cases e3
     exact ⟨B, by rw [hm m (List.mem_append_left _ (by simp)), e4], by rw [if_pos hq]⟩
    ·cases e3
   ·cases e3
  ·cases he
 ·cases he

theorem frzE_congr {els : List (List At)} (h : Eqm mem mem' (smnE els)) : frzE mem' els = frzE mem els :=
 mapO_congr fun e he => mapO_congr fun x hx => frzA_congr fun m hm => h m (List.mem_flatMap.2 ⟨e, he, List.mem_flatMap.2 ⟨x, hx, hm⟩⟩)
theorem arF_congr {m : Nat} {v : Vl} {q : Vl × List Nat} (e : arF mem m v = some q) (h : Eqm mem mem' (m :: q.2)) : arF mem' m v = some q := by
 unfold arF at e ⊢
 rw [h m (List.mem_cons_self ..)]
 simp only [Option.bind_eq_some_iff] at e ⊢
 obtain ⟨b, e1, e⟩ := e
 refine ⟨b, e1, ?_⟩
 split at e
 ·rename_i hb
  simp only [Option.bind_eq_some_iff] at e
  obtain ⟨v', e2, e⟩ := e
  cases e
  rw [if_pos hb, frzV_congr fun m' hm' => h m' (List.mem_cons_of_mem _ (by simpa [smnV] using hm')), e2]
  rfl
 ·rename_i hb; rw [if_neg hb]; exact e
theorem stpClear_congr {t : TypeId} {x : At} (he : stpClear c t x mem nx = some e) (hm : Eqm mem mem' e.rd) : stpClear c t x mem' nx = some e := by
 unfold stpClear at he ⊢
 split at he
 ·simp only [Option.bind_eq_some_iff] at he ⊢
  obtain ⟨te, e1, he⟩ := he
  refine ⟨te, e1, ?_⟩
  split at he
  ·exact he
  ·simp only [Option.bind_eq_some_iff] at he ⊢
   obtain ⟨B, e2, he⟩ := he
   split at he
   ·rename_i hc
    cases he
    exact ⟨B, by rw [hm _ (by simp), e2], by rw [if_pos hc]⟩
   ·cases he
  ·cases he
 ·cases he

theorem capA_congr {x : At} {p : At × List Nat} (e : capA mem x = some p) (h : Eqm mem mem' p.2) : capA mem' x = some p := by
 cases x <;> simp only [capA] at e ⊢ <;> first | exact e | skip
 simp only [Option.bind_eq_some_iff] at e ⊢
 obtain ⟨B, e1, e⟩ := e
 split at e
 ·rename_i hp
  simp only [Option.bind_eq_some_iff] at e
  obtain ⟨el, e2, e⟩ := e
  cases e
  exact ⟨B, by rw [h _ (List.mem_singleton.2 rfl), e1], by rw [if_pos hp, e2]; rfl⟩
 ·cases e
theorem capAs_congr : ∀ {xs : List At} {ps : List (At × List Nat)}, mapO (capA mem) xs = some ps → Eqm mem mem' (ps.flatMap (·.2)) → mapO (capA mem') xs = some ps := by
 intro xs
 induction xs with
 | nil => intro ps e _; exact e
 | cons x xs ih =>
  intro ps e h
  simp only [mapO, Option.bind_eq_some_iff] at e ⊢
  obtain ⟨p, e1, qs, e2, e⟩ := e
  cases e
  exact ⟨p, capA_congr e1 fun m hm => h m (List.mem_flatMap.2 ⟨p, List.mem_cons_self .., hm⟩), qs, ih e2 fun m hm => h m (by
   obtain ⟨q, hq, hm⟩ := List.mem_flatMap.1 hm
   exact List.mem_flatMap.2 ⟨q, List.mem_cons_of_mem _ hq, hm⟩), rfl⟩
theorem mapM_congr {T : TypeId → Option TI} {t : TypeId} {a k : At} {q : TypeId × Nat × Blk} (e : mapM T t mem a k = some q) (h : Eqm mem mem' [q.2.1]) : mapM T t mem' a k = some q := by
 unfold mapM at e ⊢
 split at e
 ·simp only [Option.bind_eq_some_iff] at e ⊢
  obtain ⟨d, e1, e⟩ := e
  refine ⟨d, e1, ?_⟩
  split at e
  ·simp only [Option.bind_eq_some_iff] at e ⊢
   obtain ⟨B, e2, e⟩ := e
   split at e
   ·rename_i hc
    cases e
    exact ⟨B, by rw [h _ (List.mem_singleton.2 rfl), e2], by rw [if_pos hc]⟩
   ·cases e
  ·cases e
 ·cases e
theorem stp_congr (he : stp c callF o fr mem nx = some e) (hf : ∀ t, Operand.tmp t ∈ o.op.operands.toList → lk fr' t = lk fr t) (hm : Eqm mem mem' e.rd) : stp c callF o fr' mem' nx = some e := by
 have oE : ∀ x, x ∈ o.op.operands.toList → ev fr' x = ev fr x := fun x hx => ev_congr fun t ht => hf t (ht ▸ hx)
 have oA : ∀ x, x ∈ o.op.operands.toList → evA fr' x = evA fr x := fun x hx => evA_congr fun t ht => hf t (ht ▸ hx)
 have oV : ∀ x, x ∈ o.op.operands.toList → evV fr' x = evV fr x := fun x hx => evV_congr fun t ht => hf t (ht ▸ hx)
 have oB : ∀ x, x ∈ o.op.operands.toList → evB fr' x = evB fr x := fun x hx => evB_congr fun t ht => hf t (ht ▸ hx)
 have oI : ∀ x, x ∈ o.op.operands.toList → evI fr' x = evI fr x := fun x hx => evI_congr fun t ht => hf t (ht ▸ hx)
 cases hop : o.op <;> simp only [hop, Op.operands] at oE oA oV oB oI hf <;> simp only [stp, hop] at he ⊢
 case move x => rw [oE x (by simp)]; exact he
 case assign x => rw [oE x (by simp)]; exact he
 case pick k x y => rw [oB k (by simp), oA x (by simp), oA y (by simp)]; exact he
 case alloc t => exact he
 case box t x => rw [oV x (by simp)]; exact he
 case build t ps =>
  have : mapO (fun p : Nat × Operand => (evV fr' p.2).bind fun v => some (p.1, v)) ps.toList = mapO (fun p : Nat × Operand => (evV fr p.2).bind fun v => some (p.1, v)) ps.toList :=
   partsV_congr fun i t h => hf t (by simp; exact ⟨i, by simpa using h⟩)
  rw [this]
  exact he
 case buildSlice t l ps =>
  have : ∀ z, mapO (fun p : Nat × Operand => (evV fr' p.2).bind fun v => some (p.1, fixN z v)) ps.toList = mapO (fun p : Nat × Operand => (evV fr p.2).bind fun v => some (p.1, fixN z v)) ps.toList :=
   fun z => mapO_congr fun p hp => by
    obtain ⟨i, x⟩ := p
    simp only
    rw [evV_congr fun t ht => hf t (by simp; exact ⟨i, by rw [← ht]; simpa using hp⟩)]
  simp only [this]
  split at he
  ·simp only [Option.bind_eq_some_iff] at he ⊢
   obtain ⟨te, e1, ps', e2, els0, e3, els, e4, he⟩ := he
   split at he
   ·rename_i hc
    cases he
    have hF : Eqm mem mem' (smnE els0) := hm
    exact ⟨te, e1, ps', e2, els0, e3, els, by rw [frzE_congr hF]; exact e4, by rw [if_pos hc, fzUpd_congr hF]⟩
   ·cases he
  ·cases he
 case load t x =>
  rw [oA x (by simp)]
  simp only [Option.bind_eq_some_iff] at he ⊢
  obtain ⟨ti, e1, y, e2, he⟩ := he
  refine ⟨ti, e1, y, e2, ?_⟩
  split at he
  ·simp only [Option.bind_eq_some_iff] at he ⊢
   obtain ⟨B, e3, he⟩ := he
   split at he
   ·cases he
   rename_i how
   simp only [Option.bind_eq_some_iff] at he
   obtain ⟨el, e4, v, e5, he⟩ := he
   cases he
   refine ⟨B, by rw [hm _ (by simp), e3], ?_⟩
   rw [if_neg how]
   simp only [Option.bind_eq_some_iff]
   exact ⟨el, e4, v, e5, rfl⟩
  ·exact stpOut_congr he hm
  ·exact he
  ·cases he
 case store t x y =>
  rw [oA x (by simp), oV y (by simp)]
  simp only [Option.bind_eq_some_iff] at he ⊢
  obtain ⟨ti, e1, v, e2, z, e3, he⟩ := he
  refine ⟨ti, e1, v, e2, z, e3, ?_⟩
  split at he
  ·simp only [Option.bind_eq_some_iff] at he ⊢
   obtain ⟨q, e4, B, e5, el, e6, he⟩ := he
   split at he
   ·rename_i hc
    cases he
    have hF : Eqm mem mem' q.2 := fun m' h' => hm m' (List.mem_cons_of_mem _ h')
    refine ⟨q, arF_congr e4 hm, B, ?_, el, e6, by rw [if_pos hc, fzUpd_congr hF]⟩
    rw [fzUpd_congr hF, mget_updM_congr (F := []) _ (hm _ (List.mem_cons_self ..))]
    exact e5
   ·cases he
  ·split at he
   ·rename_i h1
    rw [if_pos h1]
    exact stpInto_congr he hm
   ·cases he
  ·cases he
 case nilCheck x => rw [oA x (by simp)]; exact he
 case binOp op t x y t2 => rw [gOf_congr (oE x (by simp)), oA x (by simp), oA y (by simp), oV y (by simp)]; exact he
 case unOp op t x => rw [oA x (by simp)]; exact he
 case convert s d x =>
  rw [oA x (by simp)]
  simp only [Option.bind_eq_some_iff] at he ⊢
  obtain ⟨y, e1, he⟩ := he
  refine ⟨y, e1, ?_⟩
  split at he
  ·split at he
   ·simp only [Option.bind_eq_some_iff] at he ⊢
    obtain ⟨q, e2, bs, e3, he⟩ := he
    cases he
    exact ⟨q, elsOf_congr e2 hm, bs, e3, rfl⟩
   ·cases he
  ·exact he
 case makeSlice t l k => rw [oI l (by simp), oI k (by simp)]; exact he
 case slice t x lo hi mx =>
  rw [oA x (by simp)]
  have hb1 : ∀ d, boundO fr' d lo = boundO fr d lo := fun d => boundO_congr fun t ht => hf t (by simp [ht])
  have hb2 : ∀ d, boundO fr' d hi = boundO fr d hi := fun d => boundO_congr fun t ht => hf t (by simp [ht])
  simp only [hb1, hb2]
  split at he
  ·cases he
  ·rename_i hmx
   rw [if_neg hmx]
   simp only [Option.bind_eq_some_iff] at he ⊢
   obtain ⟨td, e1, y, e2, he⟩ := he
   refine ⟨td, e1, y, e2, ?_⟩
   split at he
   ·exact he
   ·exact he
   ·simp only [Option.bind_eq_some_iff] at he ⊢
    obtain ⟨te, e3, B, e4, l, b1, r, b2, he⟩ := he
    split at he
    ·rename_i hc
     cases he
     exact ⟨te, e3, B, by rw [hm _ (by simp), e4], l, b1, r, b2, by rw [if_pos hc]⟩
    ·cases he
   ·cases he
 case fieldAddr s x f => rw [oA x (by simp)]; exact he
 case field s x f => rw [oV x (by simp)]; exact he
 case indexAddr t x i =>
  rw [oA x (by simp), oI i (by simp)]
  split at he
  ·simp only [Option.bind_eq_some_iff] at he ⊢
   obtain ⟨te, e1, iv, e2, y, e3, he⟩ := he
   refine ⟨te, e1, iv, e2, y, e3, ?_⟩
   split at he
   ·exact he
   ·split at he
    ·rename_i hne
     rw [if_pos hne]
     exact he
    rename_i hne
    rw [if_neg hne]
    simp only [Option.bind_eq_some_iff] at he ⊢
    obtain ⟨B, e4, he⟩ := he
    split at he
    ·rename_i hc
     cases he
     exact ⟨B, by rw [hm _ (by simp), e4], by rw [if_pos hc]⟩
    ·cases he
   ·cases he
  ·cases he
 case index t x i => rw [gOf_congr (oE x (by simp)), oA x (by simp), oI i (by simp)]; exact he
 case extract x i => rw [oE x (by simp)]; exact he
 case call k =>
  obtain ⟨callee, args, ats⟩ := k
  have hargs : ∀ x, x ∈ args.toList → x ∈ (Call.operands ⟨callee, args, ats⟩).toList := by
   intro x hx
   simp only [Call.operands, Array.toList_append, List.mem_append]
   exact .inr hx
  have harg : ∀ (i : Nat) (x : Operand), args[i]? = some x → x ∈ args.toList := by
   intro i x hx
   exact List.mem_of_getElem? (i := i) (by simpa using hx)
  have hb : ∀ i : Nat, ((args[i]?).bind fun o => evA fr' o) = (args[i]?).bind fun o => evA fr o := by
   intro i
   cases hx : args[i]? with
   | none => rfl
   | some x => exact oA x (hargs x (harg i x hx))
  cases callee with
  | value f =>
   simp only at he ⊢
   have hfm : f ∈ (Call.operands ⟨.value f, args, ats⟩).toList := by simp [Call.operands]
   rw [oA f hfm]
   simp only [Option.bind_eq_some_iff] at he ⊢
   obtain ⟨fa, e1, he⟩ := he
   refine ⟨fa, e1, ?_⟩
   split at he
   ·simp only [Option.bind_eq_some_iff] at he ⊢
    obtain ⟨as, e2, he⟩ := he
    refine ⟨as, ?_, stpCall_congr he hm⟩
    rw [← e2]
    exact mapO_congr fun x hx => oV x (hargs x hx)
   ·cases he
  | invoke r m => cases he
  | builtin b =>
   cases b <;> simp only at he ⊢ <;> first | (cases he; done) | skip
   case len =>
    rw [hb 0]
    simp only [Option.bind_eq_some_iff] at he ⊢
    obtain ⟨td, e1, y, e2, he⟩ := he
    refine ⟨td, e1, y, e2, ?_⟩
    split at he <;> first | exact he | skip
    simp only [Option.bind_eq_some_iff] at he ⊢
    obtain ⟨B, e3, he⟩ := he
    cases he
    exact ⟨B, by rw [hm _ (List.mem_singleton.2 rfl), e3], rfl⟩
   case min => rw [hb 0, hb 1]; exact he
   case max => rw [hb 0, hb 1]; exact he
   case clear =>
    rw [hb 0]
    simp only [Option.bind_eq_some_iff] at he ⊢
    obtain ⟨t, e1, x, e2, he⟩ := he
    exact ⟨t, e1, x, e2, stpClear_congr he hm⟩
   case append =>
    rw [hb 0, hb 1]
    simp only [Option.bind_eq_some_iff] at he ⊢
    obtain ⟨t, e1, t', e2, s, e3, x, e4, he⟩ := he
    refine ⟨t, e1, t', e2, s, e3, x, e4, ?_⟩
    split at he
    ·rename_i hq
     rw [if_pos hq]
     exact stpAppend_congr he hm
    ·cases he
 case makeMap t r => exact he
 case lookup t x k ok =>
  rw [oA x (by simp), oA k (by simp)]
  simp only [Option.bind_eq_some_iff] at he ⊢
  obtain ⟨xa, e1, key, e2, q, e3, te, e4, he⟩ := he
  split at he
  ·rename_i hc
   simp only [Option.bind_eq_some_iff] at he
   obtain ⟨v, e5, he⟩ := he
   cases he
   exact ⟨xa, e1, key, e2, q, mapM_congr e3 hm, te, e4, by rw [if_pos hc, e5]; rfl⟩
  ·cases he
 case mapUpdate t x k y =>
  rw [oA x (by simp), oA k (by simp), oA y (by simp)]
  simp only [Option.bind_eq_some_iff] at he ⊢
  obtain ⟨xa, e1, key, e2, v, e3, q, e4, he⟩ := he
  split at he
  ·rename_i hc
   cases he
   exact ⟨xa, e1, key, e2, v, e3, q, mapM_congr e4 hm, by rw [if_pos hc]⟩
  ·cases he
 case insert t x k y =>
  rw [oA x (by simp), oA k (by simp), oA y (by simp)]
  simp only [Option.bind_eq_some_iff] at he ⊢
  obtain ⟨xa, e1, key, e2, v, e3, q, e4, he⟩ := he
  split at he
  ·rename_i hc
   cases he
   exact ⟨xa, e1, key, e2, v, e3, q, mapM_congr e4 hm, by rw [if_pos hc]⟩
  ·cases he
 case makeFunc fn first cs =>
  split at he
  ·rename_i hf'
   split at he
   ·rw [if_pos hf']
    simp only [Option.bind_eq_some_iff] at he ⊢
    obtain ⟨xs, e1, ps, e2, he⟩ := he
    cases he
    exact ⟨xs, by rw [← e1]; exact mapO_congr fun x hx => oA x (by simp at hx ⊢; exact .inr hx), ps, capAs_congr e2 hm, by rw [fzUpd_congr hm]⟩
   ·cases he
  ·cases he
 all_goals cases he

end

/-- What stands there behind the steps of a set: the last of them that wrote, else the beginning. -/
def lastS {β : Type} (L : Nat → Bool) (f : Nat → Option β) (init : Option β) : Nat → Option β
 | 0 => init
 | i + 1 => if L i then (match f i with | some x => some x | none => lastS L f init i) else lastS L f init i

theorem lastS_eq {β : Type} {L : Nat → Bool} {f : Nat → Option β} {init : Option β} {j : Nat} (h1 : ∀ i, i < j → f i ≠ none → L i = true) :
  ∀ n, j ≤ n → (∀ k, j ≤ k → k < n → f k ≠ none → L k = false) → lastS L f init n = lastS (fun _ => true) f init j := by
 have base : ∀ i, i ≤ j → lastS L f init i = lastS (fun _ => true) f init i := by
  intro i
  induction i with
  | zero => intro _; rfl
  | succ i ih =>
   intro hi
   simp only [lastS, if_true]
   rw [ih (by omega)]
   cases hf : f i with
   | none => simp
   | some x => rw [h1 i (by omega) (by rw [hf]; simp)]; simp
 intro n
 induction n with
 | zero =>
  intro hj _
  have : j = 0 := by omega
  subst this
  rfl
 | succ n ih =>
  intro hj h2
  rcases Nat.eq_or_lt_of_le hj with hq | hq
  ·rw [← hq]; exact base j (Nat.le_refl _)
  ·simp only [lastS]
   rw [ih (by omega) fun k hk hk2 hf => h2 k hk (by omega) hf]
   cases hf : f n with
   | none => simp
   | some x => rw [h2 n (by omega) (by omega) (by rw [hf]; simp)]; simp

theorem lastS_congr {β : Type} {L L' : Nat → Bool} {f : Nat → Option β} {init : Option β} : ∀ n, (∀ i, i < n → f i ≠ none → L i = L' i) → lastS L f init n = lastS L' f init n := by
 intro n
 induction n with
 | zero => intro _; rfl
 | succ n ih =>
  intro h
  simp only [lastS]
  rw [ih fun i hi hf => h i (by omega) hf]
  cases hf : f n with
  | none => simp
  | some x => rw [h n (by omega) (by rw [hf]; simp)]

theorem lastS_top {β : Type} {L : Nat → Bool} {f : Nat → Option β} {init : Option β} {j : Nat} {x : β} (hj : L j = true) (hx : f j = some x) :
  ∀ n, j < n → (∀ k, j < k → k < n → f k ≠ none → L k = false) → lastS L f init n = some x := by
 intro n
 induction n with
 | zero => intro h _; omega
 | succ n ih =>
  intro h h2
  simp only [lastS]
  rcases Nat.eq_or_lt_of_le h with hq | hq
  ·have : j = n := by omega
   subst this
   rw [hj, hx]
   simp
  ·rw [ih (by omega) fun k hk hk2 hf => h2 k hk (by omega) hf]
   cases hf : f n with
   | none => simp
   | some y => rw [h2 n (by omega) (by omega) (by rw [hf]; simp)]; simp

section
variable {P : Program} {n : Nat} {w0 : World} {M0 : Bool → Nat → Prop} {U : Nat → Prop} {ι ι' ι0 : Io} {h h1 h2 h0 : Hp} {fr fr' : List (Nat × Sv)} {mem mem' : Mem} {a : Act} {w w' : World} {p : Nat}
 {c : Cfg} {callF : FuncId → List Vl → List Blk → Option (List Vl × List Blk)} {o : Oper} {nx : Nat} {e : Eff}

/-- The text's order, step by step. -/
structure Rec where
 v : Sv
 upd : Mem
 rd : List Nat

/-- One step. -/
def Stepd (c : Cfg) (callF : FuncId → List Vl → List Blk → Option (List Vl × List Blk)) (nt : Nat) (ops : List Oper) (o : Oper) (σ σ' : St) (r : Rec) : Prop :=
 ((wantO ops o σ.fr = some true ∧ stp c callF o σ.fr σ.mem σ.nx = some { v := r.v, upd := r.upd, nn := σ'.nx, rd := r.rd }) ∨
  (wantO ops o σ.fr = some false ∧ r = { v := .u, upd := [], rd := [] } ∧ σ'.nx = σ.nx)) ∧
 putD nt σ.fr o.dst r.v = some σ'.fr ∧ σ'.mem = updM σ.mem r.upd

theorem runOps_trace {nt : Nat} {ops : List Oper} : ∀ (r : List Oper) (σ σ' : St) (is is' : List Info), runOps c callF nt ops r σ is = some (σ', is') →
  ∃ (T : Nat → St) (R : Nat → Rec), T 0 = σ ∧ T r.length = σ' ∧ (∀ (i : Nat) (o : Oper), r[i]? = some o → Stepd c callF nt ops o (T i) (T (i + 1)) (R i)) ∧
   is'.reverse = is.reverse ++ (List.range r.length).map fun i => ({ rd := (R i).rd, wr := (R i).upd.map (·.1) } : Info) := by
 intro r
 induction r with
 | nil =>
  intro σ σ' is is' h
  simp [runOps] at h
  obtain ⟨rfl, rfl⟩ := h
  exact ⟨fun _ => σ, fun _ => ⟨.u, [], []⟩, rfl, rfl, by simp, by simp⟩
 | cons o r ih =>
  intro σ σ' is is' h
  simp only [runOps] at h
  have fin : ∀ (σ1 : St) (rc : Rec), Stepd c callF nt ops o σ σ1 rc → runOps c callF nt ops r σ1 ({ rd := rc.rd, wr := rc.upd.map (·.1) } :: is) = some (σ', is') →
    ∃ (T : Nat → St) (R : Nat → Rec), T 0 = σ ∧ T (o :: r).length = σ' ∧ (∀ (i : Nat) (o' : Oper), (o :: r)[i]? = some o' → Stepd c callF nt ops o' (T i) (T (i + 1)) (R i)) ∧
     is'.reverse = is.reverse ++ (List.range (o :: r).length).map fun i => ({ rd := (R i).rd, wr := (R i).upd.map (·.1) } : Info) := by
   intro σ1 rc hst hr
   obtain ⟨T, R, t1, t2, t3, t4⟩ := ih σ1 σ' _ is' hr
   refine ⟨fun i => match i with | 0 => σ | i + 1 => T i, fun i => match i with | 0 => rc | i + 1 => R i, rfl, by simpa using t2, ?_, ?_⟩
   ·intro i o' hi
    cases i with
    | zero => simp at hi; subst hi; simp only [t1]; exact hst
    | succ i => simp at hi; exact t3 i o' hi
   ·rw [t4]
    simp only [List.length_cons, List.range_succ_eq_map, List.map_cons, List.map_map, List.reverse_cons, List.append_assoc, List.singleton_append]
    rfl
  cases hw : wantO ops o σ.fr with
  | none => rw [hw] at h; simp [wantK] at h
  | some b =>
   rw [hw] at h
   cases b with
   | false =>
    simp only [wantK] at h
    cases hp : putD nt σ.fr o.dst .u with
    | none => rw [hp] at h; simp [putK] at h
    | some f =>
     rw [hp] at h
     exact fin ⟨f, σ.mem, σ.nx⟩ ⟨.u, [], []⟩ ⟨.inr ⟨hw, rfl, rfl⟩, hp, rfl⟩ h
   | true =>
    simp only [wantK] at h
    cases hst : stp c callF o σ.fr σ.mem σ.nx with
    | none => rw [hst] at h; simp [didK] at h
    | some e =>
     rw [hst] at h
     simp only [didK] at h
     cases hp : putD nt σ.fr o.dst e.v with
     | none => rw [hp] at h; simp [putK] at h
     | some f =>
      rw [hp] at h
      exact fin ⟨f, updM σ.mem e.upd, e.nn⟩ ⟨e.v, e.upd, e.rd⟩ ⟨.inl ⟨hw, hst⟩, hp, rfl⟩ h

/-! ancestors -/
inductive Reach (ops : List Oper) : Nat → Nat → Prop
 | edge {i j : Nat} {o : Oper} {e : Edge} (ho : ops[j]? = some o) (he : e ∈ o.after) (hb : Region.binds .any e = true) (hi : e.on = i) : Reach ops i j
 | step {i k j : Nat} {o : Oper} {e : Edge} (ho : ops[j]? = some o) (he : e ∈ o.after) (hb : Region.binds .any e = true) (hk : e.on = k) (hr : Reach ops i k) : Reach ops i j

theorem bits_fold (acc : List Nat) (i : Nat) : ∀ (l : List Edge) (m : Nat), (l.foldl (fun m e => m ||| 2 ^ e.on ||| acc.getD e.on 0) m).testBit i = true →
  m.testBit i = true ∨ ∃ e ∈ l, e.on = i ∨ (acc.getD e.on 0).testBit i = true := by
 intro l
 induction l with
 | nil => intro m h; exact .inl h
 | cons e l ih =>
  intro m h
  rcases ih _ h with h | ⟨e', he', h⟩
  ·simp only [Nat.testBit_or, Bool.or_eq_true, Nat.testBit_two_pow, decide_eq_true_eq] at h
   rcases h with (h | h) | h
   ·exact .inl h
   ·exact .inr ⟨e, List.mem_cons_self .., .inl h⟩
   ·exact .inr ⟨e, List.mem_cons_self .., .inr h⟩
  ·exact .inr ⟨e', List.mem_cons_of_mem _ he', h⟩

theorem ancs_reach (ops : List Oper) : ∀ j i, ((ancs ops).getD j 0).testBit i = true → Reach ops i j := by
 have key : ∀ (r : List Oper) (k : Nat) (acc : List Nat), acc.length = k → ops.drop k = r → (∀ j i, (acc.getD j 0).testBit i = true → Reach ops i j) →
   ∀ j i, ((r.foldl (fun acc o => acc ++ [(o.after.toList.filter (Region.binds .any)).foldl (fun m e => m ||| 2 ^ e.on ||| acc.getD e.on 0) 0]) acc).getD j 0).testBit i = true → Reach ops i j := by
  intro r
  induction r with
  | nil => intro k acc _ _ h; exact h
  | cons o r ih =>
   intro k acc hl hd h
   have ho : ops[k]? = some o := by
    have := List.getElem?_drop (xs := ops) (i := k) (j := 0)
    rw [hd] at this
    simpa using this.symm
   refine ih (k + 1) _ (by simp [hl]) (by rw [← List.drop_drop, hd]; rfl) ?_
   intro j i hi
   rw [List.getD_eq_getElem?_getD, List.getElem?_append] at hi
   split at hi
   ·exact h j i (by rw [List.getD_eq_getElem?_getD]; exact hi)
   ·rename_i hj
    rcases Nat.eq_or_lt_of_le (Nat.le_of_not_lt hj) with hq | hq
    ·rw [← hq] at hi
     simp only [Nat.sub_self, List.getElem?_cons_zero, Option.getD_some] at hi
     have hjk : j = k := by omega
     subst hjk
     rcases bits_fold acc i _ _ hi with h0 | ⟨e, he, hi⟩
     ·simp at h0
     ·rw [List.mem_filter] at he
      obtain ⟨he, hb⟩ := he
      rcases hi with hi | hi
      ·exact .edge ho (by simpa using he) hb hi
      ·exact .step ho (by simpa using he) hb rfl (h _ _ hi)
    ·rw [List.getElem?_eq_none (by simp; omega)] at hi
     simp at hi
 intro j i hi
 exact key ops 0 [] rfl rfl (by simp) j i hi

theorem Reach.listed {ops : List Oper} {L : Nat → Bool} (hd : ∀ j, L j = true → ∀ o, ops[j]? = some o → ∀ e ∈ o.after, Region.binds .any e = true → L e.on = true) {i j : Nat} (hr : Reach ops i j)
  (hj : ∀ o, ops[j]? = some o → ∀ e ∈ o.after, Region.binds .any e = true → L e.on = true) : L i = true := by
 induction hr with
 | edge ho he hb hi => rw [← hi]; exact hj _ ho _ he hb
 | step ho he hb hk hr ih =>
  have := hj _ ho _ he hb
  rw [hk] at this
  exact ih (hd _ this)

end

section
variable {P : Program} {n : Nat} {w0 : World} {M0 : Bool → Nat → Prop} {U : Nat → Prop} {ι ι' ι0 : Io} {h h1 h2 h0 : Hp} {fr fr' : List (Nat × Sv)} {mem mem' : Mem} {a : Act} {w w' : World} {p : Nat}
  {c : Cfg} {callF : FuncId → List Vl → List Blk → Option (List Vl × List Blk)} {o : Oper} {nx : Nat} {e : Eff}

theorem val_nn {v : Vl} (h : Am.val v nx = some e) : e.nn = nx := by
  simp only [Am.val, Option.some.injEq] at h; subst h; rfl
theorem valA_nn {v : Option At} (h : Am.valA v nx = some e) : e.nn = nx := by
  simp only [Am.valA, Option.bind_eq_some_iff] at h
  obtain ⟨x, _, h⟩ := h
  exact val_nn h

theorem stp_nn (he : stp c callF o fr mem nx = some e) : nx ≤ e.nn := by
  unfold stp at he
  split at he
  all_goals
    (repeat' first
      | (rw [val_nn he]; exact Nat.le_refl _)
      | (rw [valA_nn he]; exact Nat.le_refl _)
      | (cases he; first | exact Nat.le_refl _ | exact Nat.le_succ _)
      | (simp only [stpAppend, stpCall, stpClear, stpOut, stpInto] at he)
      | (unfold minA at he)
      | (unfold maxA at he)
      | (unfold eqG at he)
      | (cases he; done)
      | (obtain ⟨_, _, he⟩ := he)
      | (simp only [Option.bind_eq_some_iff, Option.some.injEq] at he; obtain ⟨_, _, he⟩ := he)
      | (simp only [Option.some.injEq] at he; subst he; first | exact Nat.le_refl _ | exact Nat.le_succ _ | exact Nat.le_add_right _ _)
      | split at he
      | exact Nat.le_add_right _ _)

theorem wantO_congr {ops : List Oper} (hf : ∀ t ∈ slotsOf ops o, lk fr' t = lk fr t) : wantO ops o fr' = wantO ops o fr := by
  unfold wantO
  cases hg : o.guard with
  | none => rfl
  | some jw =>
    obtain ⟨j, want⟩ := jw
    simp only
    cases hd : (ops[j]?).bind (·.dst) with
    | none => rfl
    | some d =>
      simp only [Option.bind_some]
      rw [hf d (by simp [slotsOf, hg, hd])]

/-- The text's order, told by its writes. -/
def wF (ops : Array Oper) (R : Nat → Rec) (t i : Nat) : Option Sv := if ((ops[i]?).bind (·.dst)) = some t then some (R i).v else none
def wM (R : Nat → Rec) (m i : Nat) : Option (Option Blk) := lk (R i).upd.reverse m

structure Trace (c : Cfg) (callF : FuncId → List Vl → List Blk → Option (List Vl × List Blk)) (n : Nat) (ops : Array Oper) (T : Nat → St) (R : Nat → Rec) : Prop where
  step : ∀ (i : Nat) (o : Oper), ops[i]? = some o → Stepd c callF n ops.toList o (T i) (T (i + 1)) (R i)
  clash : ∀ (i j : Nat) (o p : Oper), ops[i]? = some o → ops[j]? = some p → i < j → clash ops.toList o p ⟨(R i).rd, (R i).upd.map (·.1)⟩ ⟨(R j).rd, (R j).upd.map (·.1)⟩ = true → Reach ops.toList i j
  less : ∀ (j : Nat) (o : Oper) (e : Edge), ops[j]? = some o → e ∈ o.after → Region.binds .any e = true → e.on < j

section
variable {ops : Array Oper} {T : Nat → St} {R : Nat → Rec} {L : Nat → Bool}

theorem Trace.nx1 (ht : Trace c callF n ops T R) {i : Nat} (hi : i < ops.size) : (T i).nx ≤ (T (i + 1)).nx := by
  obtain ⟨hs, _, _⟩ := ht.step i ops[i] (by simp [hi])
  rcases hs with ⟨_, hs⟩ | ⟨_, _, hs⟩
  · exact stp_nn hs
  · omega
theorem Trace.nxs (ht : Trace c callF n ops T R) {i j : Nat} (hij : i ≤ j) (hj : j ≤ ops.size) : (T i).nx ≤ (T j).nx := by
  induction j with
  | zero => have : i = 0 := by omega
            subst this; exact Nat.le_refl _
  | succ j ih =>
    rcases Nat.eq_or_lt_of_le hij with h | h
    · subst h; exact Nat.le_refl _
    · exact Nat.le_trans (ih (by omega) (by omega)) (ht.nx1 (by omega))

theorem Trace.frs (ht : Trace c callF n ops T R) (t : Nat) : ∀ j, j ≤ ops.size → lk (T j).fr t = lastS (fun _ => true) (wF ops R t) (lk (T 0).fr t) j := by
  intro j
  induction j with
  | zero => intro _; rfl
  | succ j ih =>
    intro hj
    have hlt : j < ops.size := by omega
    obtain ⟨_, hp, _⟩ := ht.step j ops[j] (by simp [hlt])
    simp only [lastS, if_true, wF, Array.getElem?_eq_getElem hlt, Option.bind_some]
    cases hd : ops[j].dst with
    | none =>
      rw [hd] at hp
      simp only [putD, Option.some.injEq] at hp
      rw [← hp, ih (by omega)]
      simp
    | some d =>
      rw [hd] at hp
      simp only [putD] at hp
      split at hp
      · rw [← Option.some.inj hp, lk_cons]
        by_cases hdt : d = t
        · simp [hdt]
        · rw [if_neg hdt, ih (by omega)]
          simp [hdt]
      · cases hp
theorem Trace.mems (ht : Trace c callF n ops T R) (m : Nat) : ∀ j, j ≤ ops.size → lk (T j).mem m = lastS (fun _ => true) (wM R m) (lk (T 0).mem m) j := by
  intro j
  induction j with
  | zero => intro _; rfl
  | succ j ih =>
    intro hj
    have hlt : j < ops.size := by omega
    obtain ⟨_, _, hm⟩ := ht.step j ops[j] (by simp [hlt])
    rw [hm, lk_updM, ih (by omega)]
    simp only [lastS, if_true, wM]
    cases lk (R j).upd.reverse m <;> rfl

/-- What is listed, together with what it must come behind. -/
structure Down (ops : Array Oper) (L : Nat → Bool) : Prop where
  lt : ∀ i, L i = true → i < ops.size
  down : ∀ j, L j = true → ∀ o, ops[j]? = some o → ∀ e ∈ o.after, Region.binds .any e = true → L e.on = true

theorem lk_rev_none {β : Type} {l : List (Nat × β)} {m : Nat} (h : lk l.reverse m ≠ none) : m ∈ l.map (·.1) := by
  have : ∀ (l : List (Nat × β)), lk l m ≠ none → m ∈ l.map (·.1) := by
    intro l
    induction l with
    | nil => intro h; exact absurd rfl h
    | cons q r ih =>
      intro h
      rw [lk_cons] at h
      split at h
      · simp [*]
      · exact List.mem_cons_of_mem _ (ih h)
  have := this _ h
  simpa using this

theorem meets_of {xs ys : List Nat} {m : Nat} (h1 : m ∈ xs) (h2 : m ∈ ys) : meets xs ys = true := by
  simp only [meets, List.any_eq_true, List.contains_iff_mem]
  exact ⟨m, h1, h2⟩

/-- An operation that is ready sees what it saw in the text's order. -/
theorem Trace.sees (ht : Trace c callF n ops T R) (hL : Down ops L) {j : Nat} {oj : Oper} (ho : ops[j]? = some oj) (hj : L j = false)
    (hr : ∀ e ∈ oj.after, Region.binds .any e = true → L e.on = true) :
    (∀ t ∈ slotsOf ops.toList oj, lastS L (wF ops R t) (lk (T 0).fr t) ops.size = lk (T j).fr t) ∧
    (∀ m ∈ (R j).rd, lastS L (wM R m) (lk (T 0).mem m) ops.size = lk (T j).mem m) := by
  have hlt : j < ops.size := (Array.getElem?_eq_some_iff.1 ho).1
  have hdn : ∀ i, Reach ops.toList i j → L i = true := fun i hi =>
    hi.listed (fun k hk o' ho' => hL.down k hk o' (by simpa using ho')) (fun o' ho' => by
      have : o' = oj := by have h1 : ops[j]? = some o' := by simpa using ho'
                           rw [ho] at h1; exact (Option.some.inj h1).symm
      subst this; exact hr)
  have hup : ∀ k, Reach ops.toList j k → L k = false := fun k hk => by
    cases hq : L k with
    | false => rfl
    | true =>
      have := hk.listed (L := L) (fun k hk o' ho' => hL.down k hk o' (by simpa using ho')) (fun o' ho' => hL.down k hq o' (by simpa using ho'))
      rw [hj] at this; cases this
  constructor
  · intro t htm
    rw [ht.frs t j (by omega)]
    have hw : ∀ k, k < ops.size → wF ops R t k ≠ none → ∃ ok, ops[k]? = some ok ∧ ok.dst = some t := by
      intro k hk hne
      unfold wF at hne
      split at hne
      · rename_i hd
        simp only [Option.bind_eq_some_iff] at hd
        exact hd
      · exact absurd rfl hne
    refine lastS_eq (fun i hi hne => ?_) _ (by omega) fun k hk hk2 hne => ?_
    · obtain ⟨oi, e1, e2⟩ := hw i (by omega) hne
      refine hdn i (ht.clash i j oi oj e1 ho hi ?_)
      simp only [Am.clash, e2, List.contains_iff_mem.2 htm, Bool.true_or]
    · rcases Nat.eq_or_lt_of_le hk with rfl | hk
      · exact hj
      · obtain ⟨ok, e1, e2⟩ := hw k hk2 hne
        refine hup k (ht.clash j k oj ok ho e1 hk ?_)
        simp only [Am.clash, e2, List.contains_iff_mem.2 htm, Bool.true_or, Bool.or_true]
  · intro m hm
    rw [ht.mems m j (by omega)]
    refine lastS_eq (fun i hi hne => ?_) _ (by omega) fun k hk hk2 hne => ?_
    · refine hdn i (ht.clash i j _ oj (Array.getElem?_eq_getElem (by omega)) ho hi ?_)
      simp only [Am.clash, meets_of (lk_rev_none hne) hm, Bool.true_or, Bool.or_true]
    · rcases Nat.eq_or_lt_of_le hk with rfl | hk
      · exact hj
      · refine hup k (ht.clash j k oj _ ho (Array.getElem?_eq_getElem hk2) hk ?_)
        simp only [Am.clash, meets_of hm (lk_rev_none hne), Bool.true_or, Bool.or_true]

/-- Behind it. -/
theorem Trace.puts (ht : Trace c callF n ops T R) (hL : Down ops L) {j : Nat} {oj : Oper} (ho : ops[j]? = some oj) (hj : L j = false) {L' : Nat → Bool}
    (hL1 : L' j = true) (hL2 : ∀ i, i ≠ j → L' i = L i) :
    (∀ t, lastS L' (wF ops R t) (lk (T 0).fr t) ops.size = if oj.dst = some t then some (R j).v else lastS L (wF ops R t) (lk (T 0).fr t) ops.size) ∧
    (∀ m, lastS L' (wM R m) (lk (T 0).mem m) ops.size = (lk (R j).upd.reverse m).or (lastS L (wM R m) (lk (T 0).mem m) ops.size)) := by
  have hlt : j < ops.size := (Array.getElem?_eq_some_iff.1 ho).1
  have hup : ∀ k, j < k → Reach ops.toList j k → L' k = false := fun k hjk hk => by
    rw [hL2 k (by omega)]
    cases hq : L k with
    | false => rfl
    | true =>
      have := hk.listed (L := L) (fun k hk o' ho' => hL.down k hk o' (by simpa using ho')) (fun o' ho' => hL.down k hq o' (by simpa using ho'))
      rw [hj] at this; cases this
  constructor
  · intro t
    by_cases hd : oj.dst = some t
    · rw [if_pos hd]
      refine lastS_top hL1 (by simp [wF, ho, hd]) _ hlt fun k hk hk2 hne => ?_
      unfold wF at hne
      split at hne
      · rename_i hdk
        simp only [Option.bind_eq_some_iff] at hdk
        obtain ⟨ok, e1, e2⟩ := hdk
        refine hup k hk (ht.clash j k oj ok ho e1 hk ?_)
        simp only [Am.clash, hd, e2, beq_self_eq_true, Bool.or_true, Bool.true_or]
      · exact absurd rfl hne
    · rw [if_neg hd]
      refine lastS_congr _ fun i hi hne => hL2 i ?_
      rintro rfl
      simp [wF, ho, hd] at hne
  · intro m
    cases hm : lk (R j).upd.reverse m with
    | some x =>
      simp only [Option.some_or]
      refine lastS_top hL1 hm _ hlt fun k hk hk2 hne => hup k hk (ht.clash j k oj _ ho (Array.getElem?_eq_getElem hk2) hk ?_)
      simp only [Am.clash, meets_of (lk_rev_none (show lk (R j).upd.reverse m ≠ none by rw [hm]; simp)) (lk_rev_none hne), Bool.true_or, Bool.or_true]
    | none =>
      simp only [Option.none_or]
      refine lastS_congr _ fun i hi hne => hL2 i ?_
      rintro rfl
      exact hne hm

/-- The state that stands behind the operations listed. -/
def Mid (n : Nat) (w0 : World) (M0 : Bool → Nat → Prop) (p : Nat) (ι0 : Io) (h0 : Hp) (ops : Array Oper) (T : Nat → St) (R : Nat → Rec) (L : Nat → Bool) (a : Act) (w : World) : Prop :=
  ∃ fr mem ι h, Sim n w0 M0 (fun m => m < (T 0).nx ∨ ∃ i, L i = true ∧ (T i).nx ≤ m ∧ m < (T (i + 1)).nx) ι h fr mem a w ∧ Hist w0 M0 p ι0 h0 ι h ∧
    (∀ t, lk fr t = lastS L (wF ops R t) (lk (T 0).fr t) ops.size) ∧ (∀ m, lk mem m = lastS L (wM R m) (lk (T 0).mem m) ops.size)

theorem Sim.ext {U' : Nat → Prop} (hs : Sim n w0 M0 U ι h fr mem a w) (hu : ∀ m, U m → U' m) : Sim n w0 M0 U' ι h fr mem a w := hs.weak hu

theorem Trace.next (hT : TyOk P c.T) (hC : CallOk P callF) (ht : Trace c callF n ops T R) (hL : Down ops L) (hp : p ≤ (T 0).nx) {j : Nat} {oj : Oper} (ho : ops[j]? = some oj) (hj : L j = false)
    (hr : ∀ e ∈ oj.after, Region.binds .any e = true → L e.on = true) {L' : Nat → Bool} (hL1 : L' j = true) (hL2 : ∀ i, i ≠ j → L' i = L i)
    {Q : Exit → Act → World → Prop} {K : Act → World → Prop} (hK : ∀ a' w', Mid n w0 M0 p ι0 h0 ops T R L' a' w' → K a' w') (hc : Mid n w0 M0 p ι0 h0 ops T R L a w) : wpOp P ops Q j K a w := by
  have hlt : j < ops.size := (Array.getElem?_eq_some_iff.1 ho).1
  obtain ⟨fr, mem, ι, h, hs, hh, hf, hm⟩ := hc
  obtain ⟨s1, s2⟩ := ht.sees hL ho hj hr
  obtain ⟨p1, p2⟩ := ht.puts hL ho hj hL1 hL2
  obtain ⟨hst, hput, hmm⟩ := ht.step j oj ho
  unfold wpOp
  rw [ho]
  simp only
  have hw : wantO ops.toList oj fr = wantO ops.toList oj (T j).fr := wantO_congr fun t htm => by rw [hf, s1 t htm]
  have hput' : ∀ v, v = (R j).v → ∃ f', putD n fr oj.dst v = some f' ∧ ∀ t, lk f' t = lastS L' (wF ops R t) (lk (T 0).fr t) ops.size := by
    rintro v rfl
    cases hd : oj.dst with
    | none =>
      refine ⟨fr, rfl, fun t => ?_⟩
      rw [p1, hd, hf]
      simp
    | some d =>
      rw [hd] at hput
      simp only [putD] at hput ⊢
      split at hput
      · rename_i hdn
        rw [if_pos hdn]
        refine ⟨_, rfl, fun t => ?_⟩
        rw [p1, hd, lk_cons, hf]
        simp
      · cases hput
  rcases hst with ⟨hwt, hst⟩ | ⟨hwt, hR, hnx⟩
  · rw [want_sound hs (hw.trans hwt), if_pos rfl]
    left
    have he : stp c callF oj fr mem (T j).nx = some { v := (R j).v, upd := (R j).upd, nn := (T (j + 1)).nx, rd := (R j).rd } := by
      refine stp_congr hst (fun t htm => ?_) fun m hmr => ?_
      · rw [hf]
        refine s1 t ?_
        simp only [slotsOf, List.mem_append, List.mem_filterMap]
        exact .inl ⟨_, htm, rfl⟩
      · unfold mget
        rw [hm, s2 m hmr]
    refine op_sound hT hC hs (fun m h1 h2 h3 => ?_) he ?_
    · simp only at h2
      rcases h3 with h3 | ⟨i, hi, h3, h4⟩
      · have := ht.nxs (Nat.zero_le j) (by omega)
        omega
      · have hij : i ≠ j := by rintro rfl; rw [hj] at hi; cases hi
        have hil := hL.lt i hi
        rcases Nat.lt_or_ge i j with hq | hq
        · have := ht.nxs (show i + 1 ≤ j by omega) (by omega)
          omega
        · have := ht.nxs (show j + 1 ≤ i by omega) (by omega)
          omega
    · rintro u w' ⟨ι', h', n1, n2, n3, n4, n5, n6, n7⟩
      obtain ⟨f', e1, e2⟩ := hput' _ rfl
      refine hK _ _ ⟨f', updM mem (R j).upd, ι', h', ?_, ⟨hh.sub.trans n1, fun i hi => ?_, fun b hb hM => ?_⟩, e2, fun m => ?_⟩
      · refine (n3.put n4 n5 e1).weak fun m hm => ?_
        rcases hm with (hm | ⟨i, hi, hm⟩) | hm
        · exact .inl hm
        · exact .inr ⟨i, by rw [hL2 i (by rintro rfl; rw [hj] at hi; cases hi)]; exact hi, hm⟩
        · exact .inr ⟨j, hL1, hm⟩
      · have := ht.nxs (Nat.zero_le j) (by omega)
        rw [n2 i (by omega), hh.same i hi]
      · rw [n7 b hb hM, hh.view b hb hM]
      · rw [lk_updM, p2, hm]
  · rw [want_sound hs (hw.trans hwt), if_neg (by simp)]
    obtain ⟨f', e1, e2⟩ := hput' .u (by rw [hR])
    refine hK _ _ ⟨f', mem, ι, h, ?_, hh, e2, fun m => ?_⟩
    · refine (hs.put (undef_RS ι h) (by simp [Sv.nms]) e1).weak fun m hm => ?_
      rcases hm with hm | ⟨i, hi, hm⟩
      · exact .inl hm
      · exact .inr ⟨i, by rw [hL2 i (by rintro rfl; rw [hj] at hi; cases hi)]; exact hi, hm⟩
    · rw [p2, hR, hm]
      simp [lk]

theorem Mid.last (ht : Trace c callF n ops T R) (hp : p ≤ (T 0).nx) (hL : ∀ i, i < ops.size → L i = true) (hL' : Down ops L) (hc : Mid n w0 M0 p ι0 h0 ops T R L a w) : Cnf n w0 M0 p ι0 h0 (T ops.size) a w := by
  obtain ⟨fr, mem, ι, h, hs, hh, hf, hm⟩ := hc
  have hx := ht.nxs (Nat.zero_le ops.size) (Nat.le_refl _)
  refine ⟨ι, h, ((hs.congr (fr' := (T ops.size).fr) (mem' := (T ops.size).mem) (fun t => ?_) fun m => ?_).weak fun m hm => ?_), hh, by omega⟩
  · rw [hf, ht.frs t _ (Nat.le_refl _)]
    exact (lastS_congr _ fun i hi _ => hL i hi).symm
  · rw [hm, ht.mems m _ (Nat.le_refl _)]
    exact (lastS_congr _ fun i hi _ => hL i hi).symm
  · rcases hm with hm | ⟨i, hi, _, hm⟩
    · omega
    · have := ht.nxs (show i + 1 ≤ ops.size from hL'.lt i hi) (Nat.le_refl _)
      omega

/-- How many are not listed yet. -/
def left (ops : Array Oper) (listed : Array Bool) : Nat := ((List.range ops.size).filter fun i => !listed.getD i false).length

theorem left_set {listed : Array Bool} {j : Nat} (hz : listed.size = ops.size) (hj : j < ops.size) (hf : listed.getD j false = false) : left ops (listed.setIfInBounds j true) < left ops listed := by
  unfold left
  have hsub : ((List.range ops.size).filter fun i => !(listed.setIfInBounds j true).getD i false) = (((List.range ops.size).filter fun i => !listed.getD i false).filter fun i => i != j) := by
    rw [List.filter_filter]
    apply List.filter_congr
    intro i _
    by_cases hij : i = j
    · subst hij
      simp [hz, hj]
    · rw [getD_set_ne false (Ne.symm hij)]
      simp [hij]
  rw [hsub]
  have hmem : j ∈ (List.range ops.size).filter fun i => !listed.getD i false := by simp [List.mem_filter, hj]; simpa using hf
  have := List.length_filter_lt_length_iff_exists (p := fun i => i != j) (l := (List.range ops.size).filter fun i => !listed.getD i false)
  exact this.2 ⟨j, hmem, by simp⟩

theorem Trace.any (hT : TyOk P c.T) (hC : CallOk P callF) (ht : Trace c callF n ops T R) (hp : p ≤ (T 0).nx) {Q : Exit → Act → World → Prop}
    (hQ : ∀ a' w', Cnf n w0 M0 p ι0 h0 (T ops.size) a' w' → Q .normal a' w') :
    ∀ (fuel : Nat) (listed : Array Bool) (a : Act) (w : World), listed.size = ops.size → left ops listed ≤ fuel → Down ops (fun i => listed.getD i false) →
      Mid n w0 M0 p ι0 h0 ops T R (fun i => listed.getD i false) a w → wpAny P .any ops Q fuel listed a w := by
  have all : ∀ (listed : Array Bool), listed.size = ops.size → Region.ready .any ops listed = [] → ∀ i, i < ops.size → listed.getD i false = true := by
    intro listed hz hr i
    induction i using Nat.strongRecOn with
    | ind i ih =>
      intro hi
      cases hq : listed.getD i false with
      | true => rfl
      | false =>
        have : i ∈ Region.ready .any ops listed := mem_ready.2 ⟨by
          have : i < listed.size := by omega
          simp [this] at hq ⊢
          exact hq, ops[i], by simp [hi], fun e he hb => ih _ (ht.less i ops[i] e (by simp [hi]) he hb) (Nat.lt_trans (ht.less i ops[i] e (by simp [hi]) he hb) hi)⟩
        rw [hr] at this
        cases this
  intro fuel
  induction fuel with
  | zero =>
    intro listed a w hz hl hd hc
    have hall : ∀ i, i < ops.size → listed.getD i false = true := by
      intro i hi
      have h0 : left ops listed = 0 := by omega
      unfold left at h0
      rw [List.length_eq_zero_iff, List.filter_eq_nil_iff] at h0
      have := h0 i (by simp [hi])
      simpa using this
    refine ⟨?_, hQ _ _ (hc.last ht hp hall hd)⟩
    rw [List.eq_nil_iff_forall_not_mem]
    intro i hi
    obtain ⟨h1, o', ho', _⟩ := mem_ready.1 hi
    have hlt : i < ops.size := (Array.getElem?_eq_some_iff.1 ho').1
    have := hall i hlt
    have hlt' : i < listed.size := by omega
    simp [hlt'] at this h1
    rw [this] at h1
    cases h1
  | succ fuel ih =>
    intro listed a w hz hl hd hc
    refine ⟨fun hr => hQ _ _ (hc.last ht hp (all listed hz hr) hd), fun j hj => ?_⟩
    obtain ⟨h1, oj, ho, he⟩ := mem_ready.1 hj
    have hlt : j < ops.size := (Array.getElem?_eq_some_iff.1 ho).1
    have hjf : listed.getD j false = false := by
      have hlt' : j < listed.size := by omega
      simp [hlt'] at h1 ⊢
      exact h1
    have hL1 : (listed.setIfInBounds j true).getD j false = true := by
      have hlt' : j < listed.size := by omega
      simp [hlt']
    have hL2 : ∀ i, i ≠ j → (listed.setIfInBounds j true).getD i false = listed.getD i false := fun i hi => getD_set_ne false (Ne.symm hi)
    refine ht.next hT hC hd hp ho hjf he (L' := fun i => (listed.setIfInBounds j true).getD i false) hL1 hL2 (fun a' w' hm => ih _ a' w' (by simp [hz]) ?_ ?_ hm) hc
    · have := left_set hz hlt hjf
      omega
    · refine ⟨fun i hi => ?_, fun i hi o' ho' e hee hb => ?_⟩
      · by_cases hij : i = j
        · subst hij; exact hlt
        · rw [hL2 i hij] at hi; exact hd.lt i hi
      · by_cases hij : i = j
        · subst hij
          rw [ho] at ho'
          cases ho'
          exact getD_set_true (he e hee hb)
        · rw [hL2 i hij] at hi
          exact getD_set_true (hd.down i hi o' ho' e hee hb)

/-- A row whose order is drawn. -/
theorem draw_sound (hT : TyOk P c.T) (hC : CallOk P callF) (hm : P.follows .mixedOrders = true) {σ σ' : St} {is : List Info} {id : Nat} {Q : Exit → Act → World → Prop}
    (he : runOps c callF n ops.toList ops.toList σ [] = some (σ', is)) (hd : okDraw ops.toList is.reverse = true) (hc : Cnf n w0 M0 p ι0 h0 σ a w)
    (hQ : ∀ a' w', Cnf n w0 M0 p ι0 h0 σ' a' w' → Q .normal a' w') : (Code.region id ops true).wp P Q a w := by
  obtain ⟨T, R, t1, t2, t3, t4⟩ := runOps_trace _ _ _ _ _ he
  subst t1
  simp only [List.reverse_nil, List.nil_append] at t4
  rw [t4] at hd
  simp only [okDraw, Bool.and_eq_true, okPairs, List.all_eq_true, List.mem_range] at hd
  obtain ⟨⟨_, hpairs⟩, hless⟩ := hd
  have ht : Trace c callF n ops T R := by
    refine ⟨fun i o ho => t3 i o (by simpa using ho), ?_, ?_⟩
    · intro i j o p ho hp hij hcl
      have hj : j < ops.size := (Array.getElem?_eq_some_iff.1 hp).1
      have := hpairs j (by simpa using hj) i hij
      have e1 : ops.toList[i]? = some o := by simpa using ho
      have e2 : ops.toList[j]? = some p := by simpa using hp
      rw [e1, e2] at this
      simp only [List.getElem?_map, List.getElem?_range (show i < ops.toList.length by simp; omega), List.getElem?_range (show j < ops.toList.length by simpa using hj), Option.map_some] at this
      rw [hcl] at this
      simp only [Bool.not_true, Bool.false_or] at this
      exact ancs_reach _ _ _ this
    · intro j o e ho hee hb
      have hj : j < ops.size := (Array.getElem?_eq_some_iff.1 ho).1
      have h1 := hless (o, j) (by rw [List.mem_zipIdx_iff_getElem?]; simpa using ho)
      simp only [Array.all_eq_true_iff_forall_mem, Bool.or_eq_true, Bool.not_eq_true', decide_eq_true_eq] at h1
      rcases h1 e hee with h2 | h2
      · rw [hb] at h2; cases h2
      · exact h2
  obtain ⟨ι, h, hs, hh, hp⟩ := hc
  refine wp_region_any hm (ht.any hT hC hp (fun a' w' hc' => hQ a' w' (by rw [← t2]; simpa using hc')) _ _ _ _ (by simp) ?_ ?_ ?_)
  · unfold left
    exact Nat.le_trans (List.length_filter_le _ _) (by simp)
  · refine ⟨fun i hi => ?_, fun i hi => ?_⟩
    all_goals
      simp only [Array.getD_eq_getD_getElem?, Array.getElem?_replicate] at hi
      split at hi <;> simp at hi
  · refine ⟨(T 0).fr, (T 0).mem, ι, h, hs.drew.weak fun m hm => .inl hm, hh, fun t => ?_, fun m => ?_⟩
    all_goals
      have key : ∀ {β : Type} (f : Nat → Option β) (init : Option β) (k : Nat), lastS (fun i => (Array.replicate ops.size false).getD i false) f init k = init := by
        intro β f init k
        induction k with
        | zero => rfl
        | succ k ih =>
          have : (Array.replicate ops.size false).getD k false = false := by
            simp only [Array.getD_eq_getD_getElem?, Array.getElem?_replicate]
            split <;> rfl
          simp only [lastS, this]
          exact ih
      rw [key]
end
end

section
variable {P : Program} {n : Nat} {w0 : World} {M0 : Bool → Nat → Prop} {U : Nat → Prop} {ι ι' ι0 : Io} {h h1 h2 h0 : Hp} {fr fr' : List (Nat × Sv)} {mem mem' : Mem} {a : Act} {w w' : World} {p : Nat}
 {c : Cfg} {callF : FuncId → List Vl → List Blk → Option (List Vl × List Blk)} {o : Oper} {nx : Nat} {e : Eff}

/-- A block told in other words: the same cells. -/
theorem Sim.reword (hs : Sim n w0 M0 U ι h fr mem a w) {m : Nat} {B B' : Blk} (he : mget mem m = some B) (ho : B.ow = none) (ho' : B'.ow = none) (hes : B'.es = B.es) (hty : B'.ty = B.ty) (hfz : B'.fz = B.fz) (hmp : B'.mp = B.mp)
  (hnil : B.els = [] → B'.els = []) (hr : ∀ C, RBs ι h C B.es B.els → RBs ι h C B'.es B'.els) (hn : ∀ m' ∈ B'.nms, U m') (hp : B'.pr = true → ∀ e ∈ B'.els, ∀ x ∈ e, x.pr = true) :
  Sim n w0 M0 U ι h fr (set1 mem (m, some B')) a w := by
 have hh : ∀ x B1, mget (set1 mem (m, some B')) x = some B1 → (x = m ∧ B1 = B') ∨ (x ≠ m ∧ mget mem x = some B1) := by
  intro x B1 e
  rw [mget_set1] at e
  by_cases hx : m = x
  ·rw [if_pos hx] at e; exact .inl ⟨hx.symm, by simpa using e.symm⟩
  ·rw [if_neg hx] at e; exact .inr ⟨Ne.symm hx, e⟩
 have hh2 : ∀ x B1, mget (set1 mem (m, some B')) x = some B1 → ∃ B2, mget mem x = some B2 ∧ B1.fz = B2.fz := by
  intro x B1 e
  rcases hh x B1 e with ⟨rfl, rfl⟩ | ⟨hx, e'⟩
  ·exact ⟨B, he, hfz⟩
  ·exact ⟨B1, e', rfl⟩
 have hft : ∀ x B1 L b, mget (set1 mem (m, some B')) x = some B1 → Ft w L B1 b → ∃ B2, mget mem x = some B2 ∧ B1.fz = B2.fz ∧ Ft w L B2 b := by
  intro x B1 L b e f
  rcases hh x B1 e with ⟨rfl, rfl⟩ | ⟨hx, e'⟩
  ·rw [f.plain ho']; exact ⟨B, he, hfz, Ft.self⟩
  ·exact ⟨B1, e', rfl, f⟩
 refine { hs with hmem := ?_, hinjF := ?_, hmutF := ?_, hfrzF := ?_, hownF := ?_, hown2F := ?_, hnb := ?_, hpr := ?_ }
 ·intro x B1 e
  rcases hh x B1 e with ⟨rfl, rfl⟩ | ⟨hx, e'⟩
  ·exact (hs.hmem x B he).re ho ho' rfl (fun _ _ => rfl) (Sub.refl h) hes hty hmp hnil fun C q4 => by rw [← hes]; exact hr C q4
  ·exact hs.hmem x B1 e'
 ·intro x y B1 B2 L1 L2 b e1 e2 l1 l2 f1 f2
  obtain ⟨B3, g1, _, g2⟩ := hft x B1 L1 b e1 f1
  obtain ⟨B4, k1, _, k2⟩ := hft y B2 L2 b e2 f2
  exact hs.hinjF x y B3 B4 L1 L2 b g1 k1 l1 l2 g2 k2
 ·intro x B1 L b e hz l f
  obtain ⟨B2, f1, f2, f3⟩ := hft x B1 L b e f
  exact hs.hmutF x B2 L b f1 (by rw [← f2]; exact hz) l f3
 ·intro x B1 L b e hz l f
  obtain ⟨B2, f1, f2, f3⟩ := hft x B1 L b e f
  exact hs.hfrzF x B2 L b f1 (by rw [← f2]; exact hz) l f3
 ·intro x B1 L b e hz l f
  obtain ⟨B2, f1, f2, f3⟩ := hft x B1 L b e f
  exact hs.hownF x B2 L b f1 (by rw [← f2]; exact hz) l f3
 ·intro x B1 L b e l f
  obtain ⟨B2, f1, f2, f3⟩ := hft x B1 L b e f
  exact hs.hown2F x B2 L b f1 l f3
 ·intro x B1 e
  rcases hh x B1 e with ⟨rfl, rfl⟩ | ⟨hx, e'⟩
  ·exact ⟨(hs.hnb x B he).1, hn⟩
  ·exact hs.hnb x B1 e'
 ·intro x B1 e hq
  rcases hh x B1 e with ⟨rfl, rfl⟩ | ⟨hx, e'⟩
  ·exact hp hq
  ·exact hs.hpr x B1 e' hq

/-- One empty slice gets a name. -/
theorem ownA_sound (hs : Sim n w0 M0 (fun m => m < nx) ι h fr mem a w) {x : At} {v : Value} (hr : RA ι h x v) (hn : ∀ m ∈ x.nm, m < nx) :
  nx ≤ (ownA nx x).2.2 ∧ Sim n w0 M0 (fun m => m < (ownA nx x).2.2) ι h fr (updM mem (ownA nx x).2.1) a w ∧ RA ι h (ownA nx x).1 v ∧ ∀ m ∈ (ownA nx x).1.nm, m < (ownA nx x).2.2 := by
 have same : (ownA nx x) = (x, [], nx) → _ := fun (e : ownA nx x = (x, [], nx)) => (show nx ≤ (ownA nx x).2.2 ∧ Sim n w0 M0 (fun m => m < (ownA nx x).2.2) ι h fr (updM mem (ownA nx x).2.1) a w ∧ RA ι h (ownA nx x).1 v ∧ ∀ m ∈ (ownA nx x).1.nm, m < (ownA nx x).2.2 by
  rw [e]; exact ⟨Nat.le_refl _, hs, hr, hn⟩)
 cases x with
 | snil es ty =>
  simp only [ownA, updM]
  have h1 := hs.nameNil nx (by simp) { els := [], es := es, ty := ty, pr := true, fz := false, ar := true } rfl rfl
  refine ⟨by omega, h1.weak fun m hm => by rcases hm with hm | hm <;> omega, ?_, by simp [At.nm]⟩
  have hr : RP h _ _ := hr
  cases hr
  refine .inr ⟨?_, rfl, rfl, rfl⟩
  cases hL : ι nx with
  | none => rfl
  | some L => have := (hs.hdom nx L hL).1; simp at this
 | _ => exact same rfl

theorem ownL_sound : ∀ {cs : List At} {nx : Nat} {mem : Mem} {us : List Value}, Sim n w0 M0 (fun m => m < nx) ι h fr mem a w → RL ι h cs us → (∀ x ∈ cs, ∀ m ∈ x.nm, m < nx) →
  nx ≤ (ownL nx cs).2.2 ∧ Sim n w0 M0 (fun m => m < (ownL nx cs).2.2) ι h fr (updM mem (ownL nx cs).2.1) a w ∧ RL ι h (ownL nx cs).1 us ∧ ∀ x ∈ (ownL nx cs).1, ∀ m ∈ x.nm, m < (ownL nx cs).2.2 := by
 intro cs
 induction cs with
 | nil => intro nx mem us hs hr hn; exact ⟨Nat.le_refl _, hs, hr, hn⟩
 | cons x r ih =>
  intro nx mem us hs hr hn
  cases us with
  | nil => exact absurd hr.1 (by simp)
  | cons u us =>
   have hx : RA ι h x u := by obtain ⟨u', e1, e2⟩ := hr.2 0 x rfl; simp at e1; subst e1; exact e2
   have hr' : RL ι h r us := ⟨by simpa using hr.1, fun j y e => by simpa using hr.2 (j + 1) y (by simpa using e)⟩
   obtain ⟨a1, a2, a3, a4⟩ := ownA_sound hs hx (hn x (List.mem_cons_self ..))
   obtain ⟨b1, b2, b3, b4⟩ := ih a2 hr' fun y hy m hm => Nat.lt_of_lt_of_le (hn y (List.mem_cons_of_mem _ hy) m hm) a1
   simp only [ownL]
   refine ⟨Nat.le_trans a1 b1, by rw [updM_append]; exact b2, RL.cons a3 b3, fun y hy m hm => ?_⟩
   rcases List.mem_cons.1 hy with rfl | hy
   ·exact Nat.lt_of_lt_of_le (a4 m hm) b1
   ·exact b4 y hy m hm

/-- Slots that are told in a list of their own. -/
def Slots (ι : Io) (h : Hp) (a : Act) (k : Nat) (frs : List (Nat × Sv)) : Prop := ∀ p ∈ frs, ∃ x u, p.2 = .v x ∧ a.tmps[p.1]? = some u ∧ RV ι h x u ∧ ∀ m ∈ namesV [x], m < k
theorem Slots.mono {k k' : Nat} {frs : List (Nat × Sv)} (hs : Slots ι h a k frs) (hk : k ≤ k') : Slots ι h a k' frs := fun q hq => by
 obtain ⟨x, u, q1, q2, q3, q4⟩ := hs q hq
 exact ⟨x, u, q1, q2, q3, fun m hm => Nat.lt_of_lt_of_le (q4 m hm) hk⟩

theorem keepL_sound {σ : St} (hs : Sim n w0 M0 (fun m => m < σ.nx) ι h σ.fr σ.mem a w) : ∀ {ks : List Kp} {q : List (Nat × Sv) × Mem × Nat}, keepL σ ks = some q →
  σ.nx ≤ q.2.2 ∧ Sim n w0 M0 (fun m => m < q.2.2) ι h σ.fr (updM σ.mem q.2.1) a w ∧ Slots ι h a q.2.2 q.1 := by
 intro ks
 induction ks with
 | nil => intro q e; cases e; exact ⟨Nat.le_refl _, hs, fun p hp => by cases hp⟩
 | cons k r ih =>
  intro q e
  cases k with
  | s t =>
   simp only [keepL, Option.bind_eq_some_iff] at e
   obtain ⟨q0, e0, e⟩ := e
   obtain ⟨i1, i2, i3⟩ := ih e0
   split at e
   ·rename_i x hl
    cases e
    obtain ⟨u, f1, f2⟩ := i2.hfr t _ hl
    obtain ⟨a1, a2, a3, a4⟩ := ownA_sound i2 (x := x) (v := u) f2 fun m hm => i2.hnm t _ hl m (by simpa [Sv.nms, namesV, Vl.cells] using hm)
    refine ⟨Nat.le_trans i1 a1, by simp only; rw [updM_append]; exact a2, fun q hq => ?_⟩
    rcases List.mem_cons.1 hq with rfl | hq
    ·exact ⟨_, u, rfl, f1, a3, fun m hm => a4 m (by simpa [namesV, Vl.cells] using hm)⟩
    ·exact i3.mono a1 q hq
   ·rename_i cs hl
    cases e
    obtain ⟨u, f1, f2⟩ := i2.hfr t _ hl
    obtain ⟨A, rfl, f3⟩ : RV ι h (.g cs) u := f2
    obtain ⟨a1, a2, a3, a4⟩ := ownL_sound i2 f3 fun x hx m hm => i2.hnm t _ hl m (by simp only [Sv.nms, namesV, Vl.cells, List.flatMap_cons, List.flatMap_nil, List.append_nil, List.mem_flatMap]; exact ⟨x, hx, hm⟩)
    refine ⟨Nat.le_trans i1 a1, by simp only; rw [updM_append]; exact a2, fun q hq => ?_⟩
    rcases List.mem_cons.1 hq with rfl | hq
    ·refine ⟨_, _, rfl, f1, ⟨A, rfl, a3⟩, fun m hm => ?_⟩
     simp only [namesV, Vl.cells, List.flatMap_cons, List.flatMap_nil, List.append_nil, List.mem_flatMap] at hm
     obtain ⟨x, hx, hm⟩ := hm
     exact a4 x hx m hm
    ·exact i3.mono a1 q hq
   ·cases e
  | b t =>
   simp only [keepL, Option.bind_eq_some_iff] at e
   obtain ⟨q0, e0, e⟩ := e
   obtain ⟨i1, i2, i3⟩ := ih e0
   split at e
   ·rename_i m o hl
    simp only [Option.bind_eq_some_iff] at e
    obtain ⟨B, e1, e⟩ := e
    split at e
    ·cases e
    rename_i how
    have how : B.ow = none := by simpa using how
    split at e
    ·rename_i el hel
     cases e
     obtain ⟨u, f1, f2⟩ := i2.hfr t _ hl
     have hL0 : ∃ L, ι m = some L := by obtain ⟨L, hL, _⟩ : RA ι h (.ptr m 0 o) u := f2; exact ⟨L, hL⟩
     obtain ⟨L, hL⟩ := hL0
     obtain ⟨C, c1, c2, c3, c4⟩ := (i2.hmem m B e1).cells hL how fun h0 _ _ => by rw [h0] at hel; cases hel
     -- the cells' values
     have hcells : ∀ C, RBs ι h C B.es B.els → ∃ us : List Value, RL ι h el us ∧ ∀ j u, us[j]? = some u → j < el.length → C[0 * B.es + j]? = some u := by
      intro C hC
      obtain ⟨k1, k2⟩ := hC 0 el (by rw [hel]; rfl)
      refine ⟨(List.range el.length).map fun j => (C[0 * B.es + j]?).getD undef, ⟨by simp, fun j x hx => ?_⟩, fun j u hu hj => ?_⟩
      ·obtain ⟨u, g1, g2⟩ := k2 j x hx
       have hj : j < el.length := by
        rcases Nat.lt_or_ge j el.length with h' | h'
        ·exact h'
        ·rw [List.getElem?_eq_none (by omega)] at hx; cases hx
       exact ⟨u, by simp [hj]; simpa using congrArg (·.getD undef) g1, g2⟩
      ·simp [hj] at hu
       obtain ⟨u', g1, g2⟩ := k2 j el[j] (List.getElem?_eq_getElem hj)
       rw [g1]
       simp at g1
       rw [g1] at hu
       simpa using hu
     obtain ⟨us, r1, r2⟩ := hcells C c4
     have hnm : ∀ x ∈ el, ∀ m' ∈ x.nm, m' < q0.2.2 := fun x hx m' hm' => (i2.hnb m B e1).2 m' (by
      simp only [Blk.nms, List.mem_flatMap]; exact ⟨el, by rw [hel]; simp, x, hx, hm'⟩)
     obtain ⟨a1, a2, a3, a4⟩ := ownL_sound i2 r1 hnm
     have hkeep : ∀ (cs : List At) (k : Nat) (mem : Mem), m < k → mget (updM mem (ownL k cs).2.1) m = mget mem m := by
      intro cs
      induction cs with
      | nil => intro k mem _; rfl
      | cons x r ih =>
       intro k mem hk
       simp only [ownL, updM_append]
       have h1 : k ≤ (ownA k x).2.2 := by cases x <;> simp [ownA]
       rw [ih _ _ (Nat.lt_of_lt_of_le hk h1)]
       cases x <;> simp only [ownA, updM]
       rw [mget_set1, if_neg (by omega)]
     have hmm : m < q0.2.2 := (i2.hnb m B e1).1
     have e1' := (hkeep el q0.2.2 (updM σ.mem q0.2.1) hmm).trans e1
     have a5 := a2.reword (B' := { B with els := [(ownL q0.2.2 el).1], pr := (ownL q0.2.2 el).1.all At.pr }) e1' how how rfl rfl rfl rfl (by rw [hel]; simp)
      (fun C hC => by
       obtain ⟨us, r1, r2⟩ := hcells C hC
       obtain ⟨_, _, b3, _⟩ := ownL_sound i2 r1 hnm
       have hlen := (hC 0 el (by rw [hel]; rfl)).1
       intro i e' he'
       cases i with
       | succ i => simp at he'
       | zero =>
        simp at he'
        subst he'
        refine ⟨by rw [b3.1, ← r1.1, hlen], fun j x hx => ?_⟩
        obtain ⟨u, g1, g2⟩ := b3.2 j x hx
        have hj : j < el.length := by
         rw [r1.1]
         exact (List.getElem?_eq_some_iff.1 g1).1
        exact ⟨u, r2 j u g1 hj, g2⟩)
      (fun m' hm' => by
       simp only [Blk.nms, List.flatMap_cons, List.flatMap_nil, List.append_nil, List.mem_flatMap] at hm'
       obtain ⟨x, hx, hm'⟩ := hm'
       exact a4 x hx m' hm')
      (fun hq e he x hx => by
       simp only [List.mem_singleton] at he
       subst he
       exact List.all_eq_true.1 hq x hx)
     refine ⟨Nat.le_trans i1 a1, ?_, fun q hq => ?_⟩
     ·simp only
      rw [updM_append, updM_append]
      exact a5
     ·rcases List.mem_cons.1 hq with rfl | hq
      ·exact ⟨_, u, rfl, f1, f2, fun m' hm' => by simp [namesV, Vl.cells, At.nm] at hm'; subst hm'; exact Nat.lt_of_lt_of_le hmm a1⟩
      ·exact i3.mono a1 q hq
    ·cases e
   ·cases e

theorem renS_sound {ρ : Nat → Option Nat} {k k' : Nat} {ι' : Io} : ∀ {frs fr' : List (Nat × Sv)}, Slots ι h a k frs → renS ρ frs = some fr' → (∀ m m', ρ m = some m' → ι' m' = ι m ∧ m' < k') →
  ∀ t v, lk fr' t = some v → ∃ u, a.tmps[t]? = some u ∧ RS ι' h v u ∧ ∀ m ∈ v.nms, m < k' := by
 intro frs
 induction frs with
 | nil => intro fr' _ e _ t v hl; cases e; cases hl
 | cons q r ih =>
  intro fr' hs e hρ t v hl
  obtain ⟨t0, v0⟩ := q
  obtain ⟨x, u, q1, q2, q3, q4⟩ := hs _ (List.mem_cons_self ..)
  simp only at q1 q2
  subst q1
  simp only [renS, Option.bind_eq_some_iff] at e
  obtain ⟨y, e1, s, e2, e⟩ := e
  cases e
  rw [lk_cons] at hl
  split at hl
  ·rename_i ht
   cases hl
   subst ht
   refine ⟨u, q2, q3.ren e1 fun m m' hq => (hρ m m' hq).1, fun m hm => ?_⟩
   obtain ⟨m0, _, hq⟩ := renV_nm e1 m hm
   exact (hρ m0 m hq).2
  ·exact ih (fun q hq => hs q (List.mem_cons_of_mem _ hq)) e2 hρ t v hl

/-- Blocks by their places, as a memory. -/
theorem mget_range (bs : List Blk) (m : Nat) : mget (zipU (List.range bs.length) bs) m = bs[m]? := by
 have key : ∀ (bs : List Blk) (k : Nat), mget (zipU (List.range' k bs.length) bs) m = if k ≤ m then bs[m - k]? else none := by
  intro bs
  induction bs with
  | nil => intro k; simp [zipU, mget, lk]
  | cons b bs ih =>
   intro k
   simp only [List.length_cons, List.range'_succ, zipU]
   unfold mget
   rw [lk_cons]
   by_cases hk : k = m
   ·subst hk; simp
   ·rw [if_neg hk]
    have := ih (k + 1)
    unfold mget at this
    rw [this]
    by_cases h2 : k ≤ m
    ·rw [if_pos (by omega), if_pos h2]
     have : m - k = (m - (k + 1)) + 1 := by omega
     rw [this]
     rfl
    ·rw [if_neg (by omega), if_neg h2]
 have := key bs 0
 rw [List.range_eq_range']
 rw [this]
 simp

/-- Blocks by their places are a memory of the machine's. -/
theorem Mm.sim {bs : List Blk} (hm : Mm ι h w bs) (hι : ∀ i L, ι i = some L → i < bs.length) (hsize : a.tmps.size = n) (hd : a.defers = [])
  (hf : ∀ t v, lk fr t = some v → ∃ u, a.tmps[t]? = some u ∧ RS ι h v u ∧ ∀ m ∈ v.nms, m < bs.length)
  (hown : ∀ (i : Nat) (B : Blk) (L : Loc) (b : Nat), bs[i]? = some B → B.fz = false → ι i = some L → Ft w L B b → w0.heap.size ≤ b ∨ M0 false b)
  (hown2 : ∀ (i : Nat) (B : Blk) (L : Loc) (b : Nat), bs[i]? = some B → ι i = some L → Ft w L B b → w0.heap.size ≤ b ∨ M0 true b)
  (hframe : ∀ b, b < w0.heap.size → ¬ M0 false b → w.heap[b]? = w0.heap[b]?) (hgrow : w0.heap.size ≤ w.heap.size) (hos : w.os = w0.os) (htape : w.tape = w0.tape) (hout : w.output = w0.output)
  (hmem : ∀ m, mget mem m = bs[m]?) : Sim n w0 M0 (fun m => m < bs.length) ι h fr mem a w := by
 have hlt : ∀ {i : Nat} {B : Blk}, bs[i]? = some B → i < bs.length := fun {i B} e => (List.getElem?_eq_some_iff.1 e).1
 refine { hsize := hsize, hdefers := hd, hfr := fun t v e => let ⟨u, q1, q2, _⟩ := hf t v e; ⟨u, q1, q2⟩, hmem := ?_, hinjF := ?_, hsub := hm.sub, hmutF := ?_, hfrzF := ?_, hownF := ?_, hown2F := ?_, hframe := hframe, hgrow := hgrow, hos := hos, htape := htape, houtput := hout, hnm := fun t v e => let ⟨_, _, _, q3⟩ := hf t v e; q3, hnb := ?_, hdom := ?_, hpr := ?_ }
 ·intro m B e; rw [hmem] at e; exact hm.rb m B e
 ·intro m m' B B' L L' b e e' l l' f f'; rw [hmem] at e e'; exact hm.injF m m' B B' L L' b e e' l l' f f'
 ·intro m B L b e hz l f; rw [hmem] at e; exact hm.mutF m B L b e hz l f
 ·intro m B L b e hz l f; rw [hmem] at e; exact hm.frzF m B L b e hz l f
 ·intro m B L b e hz l f; rw [hmem] at e; exact hown m B L b e hz l f
 ·intro m B L b e l f; rw [hmem] at e; exact hown2 m B L b e l f
 ·intro m B e; rw [hmem] at e; exact ⟨hlt e, hm.nm m B e⟩
 ·intro m L l
  have := hι m L l
  exact ⟨this, hm.dom m _ L (List.getElem?_eq_getElem this) l⟩
 ·intro m B e; rw [hmem] at e; exact hm.pr m B e

theorem home1_sound {U : Nat → Prop} (hs : Sim n w0 M0 U ι h fr mem a w) (m : Nat) : Sim n w0 M0 U ι h fr (home1 mem m) a w := by
 unfold home1
 split
 ·rename_i b e
  split
  ·rename_i q ho
   split
   ·exact hs
   ·rename_i hpz
    split
    ·rename_i r hr
     exact hs.homed e ho (by cases hz : b.fz with | false => rfl | true => exact absurd (.inr hz) hpz) hr true
    ·exact hs
  ·exact hs
 ·exact hs
theorem homeM_sound {U : Nat → Prop} : ∀ (l : List Nat) {mem : Mem}, Sim n w0 M0 U ι h fr mem a w → Sim n w0 M0 U ι h fr (homeM l mem) a w := by
 intro l
 induction l with
 | nil => intro mem hs; exact hs
 | cons m l ih => intro mem hs; exact ih (home1_sound hs m)
theorem headN_sound {ks : List Kp} {σ σ' : St} (e : headN p ks σ = some σ') (hc : Cnf n w0 M0 p ι0 h0 σ a w) : Cnf n w0 M0 p ι0 h0 σ' a w := by
 obtain ⟨ι, h, hs0, hh, hp⟩ := hc
 unfold headN at e
 have hs := homeM_sound (List.range σ.nx) hs0
 generalize homeM (List.range σ.nx) σ.mem = mem0 at hs e
 obtain ⟨σfr, σmem, σnx⟩ := σ
 simp only [Option.bind_eq_some_iff] at e
 obtain ⟨q, e1, fr', e2, bs, e3, e⟩ := e
 split at e
 ·rename_i hNp
  cases e
  obtain ⟨i1, i2, i3⟩ := keepL_sound hs e1
  generalize hN : clo (namesM (updM mem0 q.2.1)) 64 (List.range p ++ namesV (q.1.filterMap fun s => match s.2 with | .v x => some x | _ => none)) [] = N at *
  have hNd : N.Nodup := by rw [← hN]; exact clo_nodup _ _ _ _ List.nodup_nil
  have hpN : p ≤ N.length := by
   have := congrArg List.length hNp
   simp at this
   omega
  obtain ⟨hmm, hbl, hbf⟩ := pack_sound i2 i2 (Fzn.refl _) (Sub.refl h) hNd (cv := true) (fun hq => by cases hq) (bs := bs) (by simpa using e3)
  have hlt : ∀ {i m : Nat}, N[i]? = some m → i < N.length := fun {i m} e => (List.getElem?_eq_some_iff.1 e).1
  refine ⟨fun j => (N[j]?).bind ι, h, ?_, ⟨hh.sub, fun i hi => ?_, hh.view⟩, hpN⟩
  ·simp only
   rw [← hbl]
   refine hmm.sim ?_ i2.hsize i2.hdefers ?_ ?_ ?_ i2.hframe i2.hgrow i2.hos i2.htape i2.houtput (mget_range bs)
   ·intro i L hL
    rw [hbl]
    simp only [Option.bind_eq_some_iff] at hL
    obtain ⟨m, h1, _⟩ := hL
    exact hlt h1
   ·refine renS_sound i3 e2 fun m m' hq => ?_
    have := idx_spec hq
    refine ⟨by simp [this], by rw [hbl]; exact hlt this⟩
   ·intro i B L b hB hz hL f
    obtain ⟨m, B1, k1, k2, k3, _, k4⟩ := hbf i B hB
    simp only [k1, Option.bind_some] at hL
    exact i2.hownF m B1 L b k2 (by rw [← k3]; exact hz) hL (k4 L b f)
   ·intro i B L b hB hL f
    obtain ⟨m, B1, k1, k2, k3, _, k4⟩ := hbf i B hB
    simp only [k1, Option.bind_some] at hL
    exact i2.hown2F m B1 L b k2 hL (k4 L b f)
  ·have : N[i]? = some i := by
    have h1 : (N.take p)[i]? = (List.range p)[i]? := by rw [hNp]
    rw [List.getElem?_take, if_pos hi, List.getElem?_range hi] at h1
    exact h1
   simp only [this, Option.bind_some]
   exact hh.same i hi
 ·cases e

def outE : Out → Exit
 | .norm _ => .normal
 | .exit i _ => .exit i
 | .ret _ => .ret
def outS : Out → St
 | .norm σ => σ
 | .exit _ σ => σ
 | .ret σ => σ

theorem seq_out {F : St → Option Out} {r : Option Out} {out : Out} (e : seqK F r = some out) : (∃ σ, r = some (.norm σ) ∧ F σ = some out) ∨ (r = some out ∧ outE out ≠ .normal) := by
 cases r with
 | none => cases e
 | some o =>
  cases o with
  | norm σ => exact .inl ⟨σ, rfl, e⟩
  | exit i σ => cases e; exact .inr ⟨rfl, by simp [outE]⟩
  | ret σ => cases e; exact .inr ⟨rfl, by simp [outE]⟩

theorem then_other {K : Act → World → Prop} {Q : Exit → Act → World → Prop} {e : Exit} (he : e ≠ .normal) (hq : Q e a w) : Exit.then K Q e a w := by
 cases e <;> first | exact hq | exact absurd rfl he

theorem runC_sound (hT : TyOk P c.T) (hC : CallOk P callF) (hmo : P.follows .mixedOrders = true) {kp : Nat → List Kp} {k : Nat} :
  ∀ (code : Code) (b : Nat) (σ : St) (out : Out) (Q : Exit → Act → World → Prop) (a : Act) (w : World), runC c callF kp n k p b code σ = some out → Cnf n w0 M0 p ι0 h0 σ a w →
   (∀ a' w', Cnf n w0 M0 p ι0 h0 (outS out) a' w' → Q (outE out) a' w') → code.wp P Q a w := by
 intro code
 induction code with
 | skip => intro b σ out Q a w e hc hQ; simp only [runC] at e; cases e; exact wp_skip (hQ _ _ hc)
 | region id ops draw =>
  intro b σ out Q a w e hc hQ
  simp only [runC] at e
  cases hr : runOps c callF n ops.toList ops.toList σ [] with
  | none => rw [hr] at e; cases e
  | some r =>
   obtain ⟨σ', is⟩ := r
   rw [hr] at e
   simp only [regK] at e
   cases draw with
   | false =>
    simp only [Bool.false_and] at e
    cases e
    refine wp_region ?_
    have := runOps_sound hT hC (ops := ops) (Q := Q) ops.toList 0 σ σ' [] is a w rfl hc hr hQ
    rw [List.range_eq_range']
    simpa using this
   | true =>
    simp only [Bool.true_and] at e
    split at e
    ·cases e
    ·rename_i hd
     cases e
     exact draw_sound hT hC hmo hr (by simpa using hd) hc hQ
 | seq x y ihx ihy =>
  intro b σ out Q a w e hc hQ
  simp only [runC] at e
  refine wp_seq ?_
  rcases seq_out e with ⟨σ1, h1, h2⟩ | ⟨h1, h2⟩
  ·exact ihx b σ _ _ a w h1 hc fun a' w' hc' => ihy b σ1 out Q a' w' h2 hc' hQ
  ·exact ihx b σ _ _ a w h1 hc fun a' w' hc' => then_other h2 (hQ a' w' hc')
 | cond o x y ihx ihy =>
  intro b σ out Q a w e hc hQ
  simp only [runC] at e
  cases ht : evB σ.fr o with
  | none => rw [ht] at e; cases e
  | some t =>
   rw [ht] at e
   obtain ⟨ι, h, hs, hh, hp⟩ := hc
   refine wp_cond (hs.evB ht) ?_
   cases t with
   | true => exact ihx b σ out Q a w e ⟨ι, h, hs, hh, hp⟩ hQ
   | false => exact ihy b σ out Q a w e ⟨ι, h, hs, hh, hp⟩ hQ
 | block id x ih =>
  intro b σ out Q a w e hc hQ
  simp only [runC] at e
  refine wp_block ?_
  cases hr : runC c callF kp n k p id x σ with
  | none => rw [hr] at e; cases e
  | some o =>
   rw [hr] at e
   refine ih id σ o _ a w hr hc fun a' w' hc' => ?_
   cases o with
   | norm σ' => cases e; exact hQ a' w' hc'
   | ret σ' => cases e; exact hQ a' w' hc'
   | exit i σ' =>
    simp only [blkK] at e
    simp only [outE, Exit.inBlock]
    split at e
    ·cases e; rw [if_pos ‹_›]; exact hQ a' w' hc'
    ·cases e; rw [if_neg ‹_›]; exact hQ a' w' hc'
 | loop x ih =>
  intro b σ out Q a w e hc hQ
  simp only [runC] at e
  refine wp_loop_rounds k ?_
  suffices h : ∀ (k' : Nat) (σ : St) (a : Act) (w : World), loopN (headN p (kp b)) (runC c callF kp n k p b x) k' σ = some out → Cnf n w0 M0 p ι0 h0 σ a w → Code.rounds P x Q k' a w from h k σ a w e hc
  intro k'
  induction k' with
  | zero => intro σ a w e; cases e
  | succ k' ih2 =>
   intro σ a w e hc
   simp only [loopN] at e
   rw [rounds_succ]
   cases hh : headN p (kp b) σ with
   | none => rw [hh] at e; cases e
   | some σ1 =>
    rw [hh] at e
    simp only [hdK] at e
    have hc1 := headN_sound hh hc
    rcases seq_out e with ⟨σ2, h1, h2⟩ | ⟨h1, h2⟩
    ·exact ih b σ1 _ _ a w h1 hc1 fun a' w' hc' => ih2 σ2 a' w' h2 hc'
    ·exact ih b σ1 _ _ a w h1 hc1 fun a' w' hc' => then_other h2 (hQ a' w' hc')
 | exit id => intro b σ out Q a w e hc hQ; simp only [runC] at e; cases e; exact wp_exit (hQ _ _ hc)
 | ret => intro b σ out Q a w e hc hQ; simp only [runC] at e; cases e; exact wp_ret (hQ _ _ hc)
 | _ => intro b σ out Q a w e hc hQ; simp only [runC] at e; cases e

end

section
variable {P : Program} {n : Nat} {w0 : World} {M0 : Bool → Nat → Prop} {U : Nat → Prop} {ι ι' ι0 : Io} {h h1 h2 h0 : Hp} {fr fr' : List (Nat × Sv)} {mem mem' : Mem} {a : Act} {w w' : World} {p : Nat}
 {c : Cfg} {callF : FuncId → List Vl → List Blk → Option (List Vl × List Blk)} {o : Oper} {nx : Nat} {e : Eff}

/-- One result. -/
def resG (tmps : Array Value) : ResultVar → Sem Value
 | .tmp t => pure (tmps.getD t undef)
 | .cell a t => do loadVar t (← asAddr (tmps.getD a undef))

theorem resOf_sound (hT : TyOk P c.T) {σ : St} (hs : Sim n w0 M0 U ι h σ.fr σ.mem a w) {r : ResultVar} {v : Vl} (e : resOf c σ r = some v) :
  ∃ u, (resG a.tmps r).run P w = .ok u w ∧ RV ι h v u ∧ ∀ m ∈ namesV [v], U m := by
 cases r with
 | tmp t =>
  obtain ⟨q1, q2⟩ := hs.evV e
  exact ⟨_, rfl, q1, q2⟩
 | cell x t =>
  simp only [resOf, Option.bind_eq_some_iff] at e
  obtain ⟨ti, e1, y, e2, e⟩ := e
  obtain ⟨hr, hn⟩ := hs.evA e2
  split at e
  ·rename_i m i o'
   simp only [Option.bind_eq_some_iff] at e
   obtain ⟨B, e3, e⟩ := e
   split at e
   ·cases e
   rename_i how
   have how : B.ow = none := by simpa using how
   simp only [Option.bind_eq_some_iff] at e
   obtain ⟨el, e4, e5⟩ := e
   obtain ⟨L, hL, hx⟩ := hr
   obtain ⟨C, h1, h2, h3, h4⟩ := (hs.hmem m B e3).cells hL how fun h0 _ _ => by rw [h0] at e4; simp at e4
   obtain ⟨u, r1, r2, r3⟩ := part_sound (hT t ti e1) e5 (off := i * B.es) h1 (h4 i el e4).2
   refine ⟨u, ?_, r2, ?_⟩
   ·have hx' : a.tmps.getD x undef = .pointer (some ⟨L.b, i * L.es + o', none⟩) := hx
    simp [resG, hx', asAddr, h3, r1]
   ·intro m' hm'
    obtain ⟨z, hz, hm'⟩ := r3 m' hm'
    refine (hs.hnb m B e3).2 m' ?_
    simp only [Blk.nms, List.mem_flatMap]
    exact ⟨el, List.mem_of_getElem? e4, z, hz, hm'⟩
  ·cases e

theorem results_sound (hT : TyOk P c.T) {fn : Func} {σ : St} (hs : Sim n w0 M0 U ι h σ.fr σ.mem a w) {rs : List Vl} (e : mapO (resOf c σ) fn.results.toList = some rs) :
  ∃ us : Array Value, (results fn a.tmps).run P w = .ok (packV us) w ∧ RVs ι h rs us.toList ∧ ∀ m ∈ namesV rs, U m := by
 have key : ∀ (l : List ResultVar) (rs : List Vl), mapO (resOf c σ) l = some rs → ∃ us : List Value, (l.mapM (resG a.tmps)).run P w = .ok us w ∧ RVs ι h rs us ∧ ∀ m ∈ namesV rs, U m := by
  intro l
  induction l with
  | nil => intro rs e; cases e; exact ⟨[], by simp, ⟨rfl, by simp⟩, by simp [namesV]⟩
  | cons r l ih =>
   intro rs e
   simp only [mapO, Option.bind_eq_some_iff] at e
   obtain ⟨v, e1, vs, e2, e⟩ := e
   cases e
   obtain ⟨u, q1, q2, q3⟩ := resOf_sound hT hs e1
   obtain ⟨us, r1, r2, r3⟩ := ih vs e2
   refine ⟨u :: us, by simp [List.mapM_cons, q1, r1], ⟨by simp [r2.1], fun j x hj => ?_⟩, fun m hm => ?_⟩
   ·cases j with
    | zero => simp at hj; subst hj; exact ⟨u, rfl, q2⟩
    | succ j => simp at hj; simpa using r2.2 j x hj
   ·obtain ⟨x, hx, hm2⟩ := namesV_mem.1 hm
    rcases List.mem_cons.1 hx with rfl | hx
    ·exact q3 m hm2
    ·exact r3 m (namesV_mem.2 ⟨x, hx, hm2⟩)
 obtain ⟨us, k1, k2, k3⟩ := key _ _ e
 refine ⟨us.toArray, ?_, by simpa using k2, k3⟩
 have : results fn a.tmps = (do let vs ← fn.results.mapM (resG a.tmps); pure (packV vs)) := by
  unfold results resG packV
  congr 1
 rw [this, Array.mapM_eq_mapM_toList]
 simp [k1]

theorem ownVs_sound : ∀ {rs : List Vl} {nx : Nat} {mem : Mem} {us : List Value}, Sim n w0 M0 (fun m => m < nx) ι h fr mem a w → RVs ι h rs us → (∀ m ∈ namesV rs, m < nx) →
  nx ≤ (ownVs nx rs).2.2 ∧ Sim n w0 M0 (fun m => m < (ownVs nx rs).2.2) ι h fr (updM mem (ownVs nx rs).2.1) a w ∧ RVs ι h (ownVs nx rs).1 us ∧ ∀ m ∈ namesV (ownVs nx rs).1, m < (ownVs nx rs).2.2 := by
 intro rs
 induction rs with
 | nil => intro nx mem us hs hr hn; exact ⟨Nat.le_refl _, hs, hr, hn⟩
 | cons x r ih =>
  intro nx mem us hs hr hn
  cases us with
  | nil => exact absurd hr.1 (by simp)
  | cons u us =>
   have hx : RV ι h x u := by obtain ⟨u', e1, e2⟩ := hr.2 0 x rfl; simp at e1; subst e1; exact e2
   have hr' : RVs ι h r us := ⟨by simpa using hr.1, fun j y e => by simpa using hr.2 (j + 1) y (by simpa using e)⟩
   have hn1 : ∀ m ∈ namesV [x], m < nx := fun m hm => hn m (namesV_mem.2 ⟨x, List.mem_cons_self .., hm⟩)
   have hn2 : ∀ m ∈ namesV r, m < nx := fun m hm => by
    obtain ⟨y, hy, hm⟩ := namesV_mem.1 hm
    exact hn m (namesV_mem.2 ⟨y, List.mem_cons_of_mem _ hy, hm⟩)
   have fin : ∀ (y : Vl) (k : Nat) (u1 : Mem), nx ≤ k → Sim n w0 M0 (fun m => m < k) ι h fr (updM mem u1) a w → RV ι h y u → (∀ m ∈ namesV [y], m < k) → ownVs nx (x :: r) = (y :: (ownVs k r).1, u1 ++ (ownVs k r).2.1, (ownVs k r).2.2) →
     nx ≤ (ownVs nx (x :: r)).2.2 ∧ Sim n w0 M0 (fun m => m < (ownVs nx (x :: r)).2.2) ι h fr (updM mem (ownVs nx (x :: r)).2.1) a w ∧ RVs ι h (ownVs nx (x :: r)).1 (u :: us) ∧ ∀ m ∈ namesV (ownVs nx (x :: r)).1, m < (ownVs nx (x :: r)).2.2 := by
    intro y k u1 hk hs1 hy hny eq
    obtain ⟨b1, b2, b3, b4⟩ := ih hs1 hr' fun m hm => Nat.lt_of_lt_of_le (hn2 m hm) hk
    rw [eq]
    refine ⟨Nat.le_trans hk b1, by simp only; rw [updM_append]; exact b2, ⟨by simp [b3.1], fun j z e => ?_⟩, fun m hm => ?_⟩
    ·cases j with
     | zero => simp at e; subst e; exact ⟨u, rfl, hy⟩
     | succ j => simp at e; simpa using b3.2 j z e
    ·obtain ⟨z, hz, hm2⟩ := namesV_mem.1 hm
     rcases List.mem_cons.1 hz with rfl | hz
     ·exact Nat.lt_of_lt_of_le (hny m hm2) b1
     ·exact b4 m (namesV_mem.2 ⟨z, hz, hm2⟩)
   cases x with
   | a x =>
    obtain ⟨a1, a2, a3, a4⟩ := ownA_sound hs (x := x) hx fun m hm => hn1 m (by simpa [namesV, Vl.cells] using hm)
    exact fin (.a (ownA nx x).1) _ _ a1 a2 a3 (fun m hm => a4 m (by simpa [namesV, Vl.cells] using hm)) rfl
   | g cs =>
    obtain ⟨A, rfl, f3⟩ := hx
    obtain ⟨a1, a2, a3, a4⟩ := ownL_sound hs f3 fun x hx m hm => hn1 m (by simp only [namesV, Vl.cells, List.flatMap_cons, List.flatMap_nil, List.append_nil, List.mem_flatMap]; exact ⟨x, hx, hm⟩)
    refine fin (.g (ownL nx cs).1) _ _ a1 a2 ⟨A, rfl, a3⟩ (fun m hm => ?_) rfl
    simp only [namesV, Vl.cells, List.flatMap_cons, List.flatMap_nil, List.append_nil, List.mem_flatMap] at hm
    obtain ⟨x, hx, hm⟩ := hm
    exact a4 x hx m hm

/-- Which blocks a function may write, and which it was handed. -/
def Handed (ι : Io) (blks : List Blk) : Bool → Nat → Prop
 | false => Lent ι blks
 | true => fun b => ∃ (j : Nat) (B0 : Blk) (L0 : Loc), blks[j]? = some B0 ∧ ι j = some L0 ∧ L0.b = b

theorem finish_sound (hT : TyOk P c.T) {f : FuncId} {fn : Func} {blks : List Blk} {σ : St} {rs : List Vl} {bs : List Blk} (e : finish c f fn blks.length σ = some (rs, bs))
  (hι : ∀ i, i < blks.length → ι0 i = ι i) (hc : Cnf n w0 (Handed ι blks) blks.length ι0 h0 σ a w) :
  a.defers = [] ∧ ∃ us : Array Value, (results fn a.tmps).run P w = .ok (packV us) w ∧ ∃ ι' h', Post ι h0 w0 blks rs bs us.toList w ι' h' := by
 obtain ⟨ι1, h, hs, hh, hp⟩ := hc
 unfold finish at e
 simp only [Option.bind_eq_some_iff] at e
 obtain ⟨rs0, e1, rs1, e2, rs2, e3, bs2, e4, e⟩ := e
 obtain ⟨us, hres, hrv, hrn⟩ := results_sound hT hs e1
 refine ⟨hs.hdefers, us, hres, ?_⟩
 generalize hN : clo (fun m => if c.mutA f = true then namesM (updM σ.mem (if c.ownR f = true then ownVs σ.nx rs0 else (rs0, [], σ.nx)).2.1) m else ptrsM (updM σ.mem (if c.ownR f = true then ownVs σ.nx rs0 else (rs0, [], σ.nx)).2.1) m) 64 (List.range blks.length ++ namesV rs1) [] = N at *
 have hNd : N.Nodup := by rw [← hN]; exact clo_nodup _ _ _ _ List.nodup_nil
 clear hN
 split at e
 ·rename_i hNp
  cases e
  generalize hq : (if c.ownR f = true then ownVs σ.nx rs0 else (rs0, [], σ.nx)) = q at *
  -- the results' names
  have hown : Sim n w0 (Handed ι blks) (fun m => m < q.2.2) ι1 h σ.fr (updM σ.mem q.2.1) a w ∧ RVs ι1 h q.1 us.toList := by
   rw [← hq]
   split
   ·obtain ⟨_, a2, a3, _⟩ := ownVs_sound hs hrv hrn
    exact ⟨a2, a3⟩
   ·exact ⟨hs, hrv⟩
  obtain ⟨hs1, hrv1⟩ := hown
  generalize hF : ((if c.ownR f = true then [] else smnV rs0) ++ if c.mutA f = true then [] else N.flatMap (smnM (updM σ.mem q.2.1))) = F at *
  obtain ⟨h1, s1, s2, s3, s4, s5⟩ := Sim.freezeL F hs1 (Fzn.refl _)
  have hpN : blks.length ≤ N.length := by
   have := congrArg List.length hNp
   simp at this
   omega
  have hvF : c.mutA f = false → Vw ι1 (updM σ.mem q.2.1) w h1 (N.flatMap (smnM (updM σ.mem q.2.1))) := by
   intro hm
   rw [← hF] at s2
   simp only [hm] at s2
   exact fun m hm => s2 m (List.mem_append_right _ hm)
  have hvals : RVs ι1 h1 rs1 us.toList := by
   split at e2
   ·cases e2; exact hrv1.mono s1 fun _ _ => rfl
   ·rename_i hm
    have hq' : q = (rs0, [], σ.nx) := by rw [← hq, if_neg hm]
    subst hq'
    rw [← hF] at s2
    simp only [if_neg hm] at s2
    exact (frzVs_sound hs1 s1 (fun m hm' => s2 m (List.mem_append_left _ hm')) hrv1 e2).1
  obtain ⟨hmm, hbl, hbf⟩ := pack_sound hs1 s4 s5 s1 hNd (cv := c.mutA f) hvF e4
  have hlt : ∀ {i m : Nat}, N[i]? = some m → i < N.length := fun {i m} e => (List.getElem?_eq_some_iff.1 e).1
  refine ⟨fun j => (N[j]?).bind ι1, h1, hvals.ren e3 (fun m m' hq => by simp [idx_spec hq]), ?_, hh.sub.trans s1, by rw [hbl]; exact hpN, ?_, hmm, ?_, ?_, ?_, ?_, ?_, ?_, ?_, ?_⟩
  ·intro m hm
   obtain ⟨m', _, hq⟩ := mapO_renV_nm e3 m hm
   rw [hbl]
   exact hlt (idx_spec hq)
  ·intro i hi
   have : N[i]? = some i := by
    have h1 : (N.take blks.length)[i]? = (List.range blks.length)[i]? := by rw [hNp]
    rw [List.getElem?_take, if_pos hi, List.getElem?_range hi] at h1
    exact h1
   simp only [this, Option.bind_some]
   rw [hh.same i hi, hι i hi]
  ·intro i B L b hB hz hL f
   obtain ⟨m, B1, k1, k2, k3, _, k4⟩ := hbf i B hB
   simp only [k1, Option.bind_some] at hL
   exact s4.hownF m B1 L b k2 (by rw [← k3]; exact hz) hL (k4 L b f)
  ·intro i B L b hB hL f
   obtain ⟨m, B1, k1, k2, k3, _, k4⟩ := hbf i B hB
   simp only [k1, Option.bind_some] at hL
   exact s4.hown2F m B1 L b k2 hL (k4 L b f)
  ·exact s4.hframe
  ·intro b hb hnl
   have hnl' : ¬ Handed ι blks false b := hnl
   rw [← hh.view b hb hnl']
   by_cases hx : ∃ m ∈ F, ∃ B L, mget (updM σ.mem q.2.1) m = some B ∧ ι1 m = some L ∧ Ft w L B b
   ·obtain ⟨m, hm, B, L, k1, k2, kf⟩ := hx
    rw [s2 m hm B L b k1 k2 kf]
    cases hz : B.fz with
    | false =>
     rcases hs1.hownF m B L b k1 hz k2 kf with h' | h'
     ·omega
     ·exact absurd h' hnl'
    | true => exact (hs1.hfrzF m B L b k1 hz k2 kf).symm
   ·exact s3 b fun m hm B L k1 k2 hq => hx ⟨m, hm, B, L, k1, k2, hq⟩
  ·exact s4.hgrow
  ·exact s4.hos
  ·exact s4.htape
  ·exact s4.houtput
 ·cases e

theorem lk_enum {β : Type} : ∀ (l : List β) (k t : Nat), lk (enum k l) t = if k ≤ t then l[t - k]? else none := by
 intro l
 induction l with
 | nil => intro k t; simp [enum, lk]
 | cons x l ih =>
  intro k t
  simp only [enum, lk_cons, ih]
  by_cases hk : k = t
  ·subst hk; simp
  ·rw [if_neg hk]
   by_cases h2 : k ≤ t
   ·rw [if_pos (by omega), if_pos h2]
    have : t - k = (t - (k + 1)) + 1 := by omega
    rw [this]
    rfl
   ·rw [if_neg (by omega), if_neg h2]

theorem Mm.cut {bs : List Blk} (hm : Mm ι h w bs) (hι : ∀ i, i < bs.length → ι' i = ι i) : Mm ι' h w bs := by
 have hlt : ∀ {i : Nat} {B : Blk}, bs[i]? = some B → i < bs.length := fun {i B} e => (List.getElem?_eq_some_iff.1 e).1
 refine ⟨fun i B e => ?_, hm.nm, ?_, hm.sub, ?_, ?_, ?_, hm.pr⟩
 ·exact (hm.rb i B e).to (hι i (hlt e)) (fun _ _ _ _ => rfl) (Sub.refl h) fun m hm' => hι m (hm.nm i B e m hm')
 ·intro i j B B' L L' b e e' l l'
  rw [hι i (hlt e)] at l
  rw [hι j (hlt e')] at l'
  exact hm.injF i j B B' L L' b e e' l l'
 ·intro i B L b e hz l; rw [hι i (hlt e)] at l; exact hm.mutF i B L b e hz l
 ·intro i B L b e hz l; rw [hι i (hlt e)] at l; exact hm.frzF i B L b e hz l
 ·intro i B L e l; rw [hι i (hlt e)] at l; exact hm.dom i B L e l

/-- What the tables must be. -/
structure CfgOk (P : Program) (c : Cfg) : Prop where
 ty : TyOk P c.T
 fn : ∀ f fn, c.F f = some fn → P.funcs[f]? = some fn ∧ (fn.name == "runtime.NumGoroutine") = false
 ext : ∀ f g args blks rs bs, c.X f = some g → g args blks = some (rs, bs) → Enters P f ∧ ∀ (w : World) (ι : Io) (h : Hp) (vals : Array Value), RVs ι h args vals.toList → (∀ m ∈ namesV args, m < blks.length) → Mm ι h w blks → (∀ B ∈ blks, B.ow = none) →
  Calls P f vals w fun e w' => ∃ (us : Array Value) (ι' : Io) (h' : Hp), e = .returned (packV us) ∧ Post ι h w blks rs bs us.toList w' ι' h'
 mo : P.follows .mixedOrders = true

theorem call_sound (hk : CfgOk P c) : ∀ k, CallOk P (call c k) := by
 intro k
 induction k with
 | zero => intro f args blks rs bs e; cases e
 | succ k ih =>
  intro f args blks rs bs e
  simp only [call] at e
  cases hX : c.X f with
  | some g =>
   rw [hX] at e
   simp only at e
   exact hk.ext f g args blks rs bs hX e
  | none =>
   rw [hX] at e
   simp only [Option.bind_eq_some_iff] at e
   obtain ⟨fn, e1, e⟩ := e
   obtain ⟨hf, hname⟩ := hk.fn f fn e1
   cases hbody : fn.body with
   | none => rw [hbody] at e; cases e
   | some body =>
    rw [hbody] at e
    simp only [bodyK] at e
    split at e
    ·rename_i hlen
     refine ⟨⟨fn, hf, hname, by rw [hbody]; rfl⟩, fun w ι h vals hv hn hm hpl => ?_⟩
     refine calls_of_wp hf hbody ?_
     have hvs : vals.size = args.length := by have := hv.1; simpa using this.symm
     let ι0 : Io := fun m => if m < blks.length then ι m else none
     have hι0 : ∀ i, i < blks.length → ι0 i = ι i := fun i hi => if_pos hi
     have hsim : Cnf fn.ntmps w (Handed ι blks) blks.length ι0 h { fr := enum 0 (args.map Sv.v), mem := enum 0 (blks.map some), nx := blks.length } { tmps := vals ++ Array.replicate (fn.ntmps - vals.size) undef, defers := [] } w := by
      refine ⟨ι0, h, (hm.cut hι0).sim ?_ ?_ rfl ?_ ?_ ?_ (fun _ _ _ => rfl) (Nat.le_refl _) rfl rfl rfl ?_, ⟨Sub.refl h, fun _ _ => rfl, fun _ _ _ => rfl⟩, Nat.le_refl _⟩
      ·intro i L hL
       by_cases hi : i < blks.length
       ·exact hi
       ·have : ι0 i = none := if_neg hi
        rw [this] at hL; cases hL
      ·simp [hvs]; omega
      ·intro t v hl
       simp only at hl
       rw [lk_enum] at hl
       simp only [Nat.zero_le, if_true, Nat.sub_zero, List.getElem?_map, Option.map_eq_some_iff] at hl
       obtain ⟨x, hx, rfl⟩ := hl
       obtain ⟨u, g1, g2⟩ := hv.2 t x hx
       have hnx : ∀ m ∈ namesV [x], m < blks.length := fun m hm' => hn m (namesV_mem.2 ⟨x, List.mem_of_getElem? hx, hm'⟩)
       refine ⟨u, ?_, g2.mono (Sub.refl h) (fun y hy m hm' => hι0 m (hnx m (by simp only [namesV, List.flatMap_cons, List.flatMap_nil, List.append_nil, List.mem_flatMap]; exact ⟨y, hy, hm'⟩))), hnx⟩
       have g1' : vals[t]? = some u := by simpa using g1
       simp only
       rw [Array.getElem?_append_left (Array.getElem?_eq_some_iff.1 g1').1]
       exact g1'
      ·intro i B L b e1 hz hL f
       exact .inr ⟨i, B, L, e1, hz, by rw [← hι0 i (List.getElem?_eq_some_iff.1 e1).1]; exact hL, (f.plain (hpl B (List.mem_of_getElem? e1))).symm⟩
      ·intro i B L b e1 hL f
       exact .inr ⟨i, B, L, e1, by rw [← hι0 i (List.getElem?_eq_some_iff.1 e1).1]; exact hL, (f.plain (hpl B (List.mem_of_getElem? e1))).symm⟩
      ·intro m
       unfold mget
       simp only
       rw [lk_enum]
       simp only [Nat.zero_le, if_true, Nat.sub_zero, List.getElem?_map]
       cases blks[m]? <;> rfl
     cases hr : runC c (call c k) (c.keep f) fn.ntmps k blks.length 0 body { fr := enum 0 (args.map Sv.v), mem := enum 0 (blks.map some), nx := blks.length } with
     | none => rw [hr] at e; cases e
     | some out =>
      rw [hr] at e
      refine runC_sound hk.ty ih hk.mo body 0 _ out _ _ _ hr hsim fun a' w' hc' => ?_
      cases out with
      | norm σ =>
       obtain ⟨d1, us, d2, ι', h', d3⟩ := finish_sound hk.ty e hι0 hc'
       exact ⟨d1, _, d2, us, ι', h', rfl, d3⟩
      | ret σ =>
       obtain ⟨d1, us, d2, ι', h', d3⟩ := finish_sound hk.ty e hι0 hc'
       exact ⟨d1, _, d2, us, ι', h', rfl, d3⟩
      | exit i σ => cases e
    ·cases e

end
end Go.Proofs.Ytgiamleohegjeaa.Am
namespace Go.Proofs.Ytgiamleohegjeaa.Am
open Go Go.RowKit Go.WideShapes

def tiles (P : Program) : List Field → Nat → Nat → Bool
 | [], o, n => o == n
 | f :: r, o, n => f.offset == o && tiles P r (o + P.cellsOf f.type) n

/-- A type of numbers, truths, texts, slices, structs, arrays. -/
def plainT (P : Program) : Nat → TypeId → Bool
 | 0, _ => false
 | d + 1, t =>
  match P.underlying t with
  | some .bool => true
  | some (.int _) => true
  | some .string => true
  | some (.slice e) => decide (0 < P.cellsOf e) && plainT P d e
  | some (.struct fs) => tiles P fs.toList 0 (P.cellsOf t) && fs.toList.all fun f => plainT P d f.type
  | _ => false

/-- What an argument of such a type is. -/
inductive Typed (P : Program) : TypeId → List At → Prop
 | bool {t : TypeId} (hu : P.underlying t = some .bool) (b : Bool) : Typed P t [.bool b]
 | int {t : TypeId} {k : IntKind} (hu : P.underlying t = some (.int k)) (n : Int) (h : (Lit.int k n).wf = true) : Typed P t [.int k n]
 | str {t : TypeId} (hu : P.underlying t = some .string) (s : ByteArray) (h : s.size ≤ maxLen) (hb : s.size ≤ reachBytes) : Typed P t [.str s]
 | sl {t e : TypeId} (hu : P.underlying t = some (.slice e)) (els : List (List At)) (hn : els.length ≤ maxLen) (hb : els.length * P.bytesOf e ≤ reachBytes) (h : ∀ el ∈ els, Typed P e el) : Typed P t [.sl (P.cellsOf e) els.length els]
 | st {t : TypeId} {fs : Array Field} (hu : P.underlying t = some (.struct fs)) (cs : List At) (hl : cs.length = P.cellsOf t) (h : ∀ (i : Nat) (f : Field), fs[i]? = some f → Typed P f.type ((cs.drop f.offset).take (P.cellsOf f.type))) : Typed P t cs

section
variable {P : Program} {H : Type} {enc : TypeId × Value → H} {w : World} {base : Nat} {sp : Nat → Bool} {held : Bool}

/-- What is there when the call begins can be read for good. -/
def view (w : World) : Hp := fun b => w.heap[b]?

theorem cells_spot {a : Addr} {n : Nat} {cs : List Value} (h : w.cells? base (a.add 0) n = some cs) (hn : 0 < n) : a.spot = none := by
 obtain ⟨_, hl, hc⟩ := World.cells?_some h
 have h0 := hc 0 hn
 rw [List.getElem?_eq_getElem (show 0 < cs.length by omega)] at h0
 simpa [Addr.add] using World.cell?_spot h0

theorem cells_obj {b off k n : Nat} {cs : List Value} (h : w.cells? base ((⟨b, off, none⟩ : Addr).add k) n = some cs) (hn : 0 < n) :
  ∃ C t z, w.heap[b]? = some (.cells C t z) ∧ cs.length = n ∧ ∀ j, j < n → C[off + (k + j)]? = cs[j]? := by
 rw [Go.WideShapes.add_plain] at h
 obtain ⟨_, hl, hc⟩ := World.cells?_some h
 have hobj : ∃ C t z, w.heap[b]? = some (.cells C t z) := by
  have h0 := hc 0 hn
  rw [List.getElem?_eq_getElem (show 0 < cs.length by omega), Go.WideShapes.add_plain] at h0
  simp only [World.cell?] at h0
  split at h0
  ·rename_i C t z hC; exact ⟨C, t, z, hC⟩
  ·cases h0
 obtain ⟨C, t, z, hC⟩ := hobj
 refine ⟨C, t, z, hC, hl, fun j hj => ?_⟩
 have := hc j hj
 rw [Go.WideShapes.add_plain] at this
 simp only [World.cell?, hC] at this
 rw [← this]
 simp [Nat.add_assoc]

theorem weights_all {e : TypeId} : ∀ {l : List (DataW H)}, (DataW.weightsAll P e l).all (· ≤ reachBytes) = true → ∀ d ∈ l, (DataW.weights P e d).all (· ≤ reachBytes) = true := by
 intro l
 induction l with
 | nil => intro _ d hd; cases hd
 | cons x r ih =>
  intro h d hd
  simp only [DataW.weightsAll, List.all_append, Bool.and_eq_true] at h
  rcases List.mem_cons.1 hd with rfl | hd
  ·exact h.1
  ·exact ih h.2 d hd
theorem weights_each : ∀ {ts : List TypeId} {l : List (DataW H)}, (DataW.weightsEach P ts l).all (· ≤ reachBytes) = true → ∀ (i : Nat) t d, ts[i]? = some t → l[i]? = some d → (DataW.weights P t d).all (· ≤ reachBytes) = true := by
 intro ts
 induction ts with
 | nil => intro l _ i t d h; simp at h
 | cons t ts ih =>
  intro l h i t' d h1 h2
  cases l with
  | nil => simp at h2
  | cons x r =>
   simp only [DataW.weightsEach, List.all_append, Bool.and_eq_true] at h
   cases i with
   | zero => simp at h1 h2; subst h1 h2; exact h.1
   | succ i => exact ih h.2 i t' d (by simpa using h1) (by simpa using h2)
theorem sized_cons {t : TypeId} {ts : List TypeId} {d : DataW H} {r : List (DataW H)} (h : (DataW.weightsEach P (t :: ts) (d :: r)).all (· ≤ reachBytes) = true) : (DataW.weights P t d).all (· ≤ reachBytes) = true ∧ (DataW.weightsEach P ts r).all (· ≤ reachBytes) = true := by
 simp only [DataW.weightsEach, List.all_append, Bool.and_eq_true] at h
 exact h
theorem open_cells : ∀ (d : Nat) (t : TypeId), plainT P d t = true → ∀ (fuel : Nat) (cs : List Value) (x : DataW H × List MemPlace), DataW.trod enc P w base sp held fuel t cs = some x → (DataW.weights P t x.1).all (· ≤ reachBytes) = true →
  ∃ xs : List At, RL (fun _ => none) (view w) xs cs ∧ (∀ y ∈ xs, y.pr = true) ∧ Typed P t xs := by
 intro d
 induction d with
 | zero => intro t h; cases h
 | succ d ih =>
  intro t ht fuel cs x hx hwt
  simp only [plainT] at ht
  have one : ∀ (y : At) (v : Value), RP (view w) y v → y.pr = true → cs = [v] → Typed P t [y] → ∃ xs : List At, RL (fun _ => none) (view w) xs cs ∧ (∀ y ∈ xs, y.pr = true) ∧ Typed P t xs := by
   rintro y v h1 h2 rfl h3
   exact ⟨[y], RL.cons (RA.ofRP h1) RL.nil, by simpa using h2, h3⟩
  split at ht
  ·rename_i hu
   obtain ⟨b, rfl, _⟩ := DataW.trod_bool hu hx
   exact one _ _ (.bool b) rfl rfl (.bool hu b)
  ·rename_i k hu
   obtain ⟨n, rfl, _, hw⟩ := DataW.trod_int hu hx
   exact one _ _ (.int k n) rfl rfl (.int hu n hw)
  ·rename_i hu
   obtain ⟨s, rfl, hx1, hs⟩ := DataW.trod_string hu hx
   exact one _ _ (.str s) rfl rfl (.str hu s hs (by
    subst hx1
    simp only [DataW.weights, List.all_cons, List.all_nil, Bool.and_true, decide_eq_true_eq] at hwt
    have e : s.data.toList.length = s.size := by rw [Array.length_toList]; rfl
    omega))
  ·rename_i e hu
   simp only [Bool.and_eq_true, decide_eq_true_eq] at ht
   obtain ⟨hpos, hte⟩ := ht
   rcases DataW.trod_slice hu hx with ⟨rfl, _⟩ | ⟨a, len, cap, elems, rest, n, rfl, rfl, hx1, hb, hlc, hcm, hel, hev, _, _⟩
   ·exact one _ _ (.sl0 (P.cellsOf e) none 0) rfl rfl (.sl hu [] (Nat.zero_le _) (by simp [reachBytes]) (by simp))
   ·-- each element
    subst hx1
    simp only [DataW.weights, hu, List.all_cons, List.all_append, Bool.and_eq_true, decide_eq_true_eq, List.length_map] at hwt
    obtain ⟨hw1, hw2, _⟩ := hwt
    have each : ∀ i, i < len → ∃ (ci : List Value) (xs : List At), w.cells? base (a.add (i * P.cellsOf e)) (P.cellsOf e) = some ci ∧ RL (fun _ => none) (view w) xs ci ∧ (∀ y ∈ xs, y.pr = true) ∧ Typed P e xs := by
     intro i hi
     have h1 := hev i hi
     rw [List.getElem?_eq_getElem (by omega)] at h1
     obtain ⟨ci, h2, h3⟩ := Option.bind_eq_some_iff.1 h1
     obtain ⟨xs, r1, r2, r3⟩ := ih e hte n ci _ h3 (weights_all hw2 _ (List.mem_map_of_mem (List.getElem_mem _)))
     exact ⟨ci, xs, h2, r1, r2, r3⟩
    let E : Nat → List At := fun i => if hi : i < len then (each i hi).choose_spec.choose else []
    let V : Nat → List Value := fun i => if hi : i < len then (each i hi).choose else []
    have hE : ∀ i, i < len → w.cells? base (a.add (i * P.cellsOf e)) (P.cellsOf e) = some (V i) ∧ RL (fun _ => none) (view w) (E i) (V i) ∧ (∀ y ∈ E i, y.pr = true) ∧ Typed P e (E i) := by
     intro i hi
     simp only [E, V, dif_pos hi]
     exact (each i hi).choose_spec.choose_spec
    let els := (List.range len).map E
    have hlen : els.length = len := by simp [els]
    have hget : ∀ i e', els[i]? = some e' → i < len ∧ e' = E i := by
     intro i e' he'
     have hi : i < len := by
      have := (List.getElem?_eq_some_iff.1 he').1
      simpa [hlen] using this
     simp only [els, List.getElem?_map, List.getElem?_range hi, Option.map_some, Option.some.injEq] at he'
     exact ⟨hi, he'.symm⟩
    have hty : Typed P t [.sl (P.cellsOf e) els.length els] := by
     refine .sl hu els (by omega) (Nat.le_trans (Nat.mul_le_mul_right _ (by omega)) hw1) fun el hm => ?_
     obtain ⟨i, hi⟩ := List.getElem?_of_mem hm
     obtain ⟨h1, rfl⟩ := hget i el hi
     exact (hE i h1).2.2.2
    rcases Nat.eq_zero_or_pos len with h0 | h0
    ·subst h0
     have hz : els = [] := by simp [els]
     refine one _ _ ?_ rfl rfl hty
     rw [hz]
     exact .sl0 _ _ _
    ·obtain ⟨hc0, _⟩ := hE 0 h0
     have hspot : a.spot = none := cells_spot (by rw [Nat.zero_mul] at hc0; exact hc0) hpos
     obtain ⟨b, off, spot⟩ := a
     simp only at hspot
     subst hspot
     obtain ⟨C, t', z, hC, _⟩ := cells_obj hc0 hpos
     have hcell : ∀ i, i < len → (V i).length = P.cellsOf e ∧ ∀ j, j < P.cellsOf e → C[off + (i * P.cellsOf e + j)]? = (V i)[j]? := by
      intro i hi
      obtain ⟨C', t'', z', hC', hl, hj⟩ := cells_obj (hE i hi).1 hpos
      rw [hC] at hC'
      cases hC'
      exact ⟨hl, hj⟩
     refine one _ _ (.sl _ els b off cap (P.cellsOf e) C t' z (fun i j => ((V i)[j]?).getD undef) hC rfl (by rw [hlen]; exact hlc) ?_ ?_ ?_) rfl (by rw [hlen]) hty
     ·intro i e' he'
      obtain ⟨hi, rfl⟩ := hget i e' he'
      rw [(hE i hi).2.1.1, (hcell i hi).1]
     ·intro i e' j y he' hy
      obtain ⟨hi, rfl⟩ := hget i e' he'
      obtain ⟨u, g1, g2⟩ := (hE i hi).2.1.2 j y hy
      have hj : j < P.cellsOf e := by
       rw [← (hcell i hi).1]
       exact (List.getElem?_eq_some_iff.1 g1).1
      rw [(hcell i hi).2 j hj, g1]
      rfl
     ·intro i e' j y he' hy
      obtain ⟨hi, rfl⟩ := hget i e' he'
      obtain ⟨u, g1, g2⟩ := (hE i hi).2.1.2 j y hy
      simp only [g1, Option.getD_some]
      exact RA.toRP ((hE i hi).2.2.1 y (List.mem_of_getElem? hy)) g2
  ·rename_i fs hu
   simp only [Bool.and_eq_true, List.all_eq_true] at ht
   obtain ⟨htile, hall⟩ := ht
   obtain ⟨ds, n, rfl, hx1, hcl, hdl, hf⟩ := DataW.trod_struct hu hx
   subst hx1
   simp only [DataW.weights, hu] at hwt
   have key : ∀ (l : List Field) (o : Nat), tiles P l o (P.cellsOf t) = true → (∀ f ∈ l, plainT P d f.type = true ∧ ∃ y, DataW.trod enc P w base sp held n f.type ((cs.drop f.offset).take (P.cellsOf f.type)) = some y ∧ (DataW.weights P f.type y.1).all (· ≤ reachBytes) = true) →
     o ≤ P.cellsOf t ∧ ∃ xs : List At, RL (fun _ => none) (view w) xs (cs.drop o) ∧ (∀ y ∈ xs, y.pr = true) ∧ ∀ f ∈ l, o ≤ f.offset ∧ Typed P f.type ((xs.drop (f.offset - o)).take (P.cellsOf f.type)) := by
    intro l
    induction l with
    | nil =>
     intro o ho _
     simp only [tiles, beq_iff_eq] at ho
     refine ⟨by omega, [], ?_, by simp, by simp⟩
     rw [List.drop_eq_nil_of_le (by omega)]
     exact RL.nil
    | cons f r ih2 =>
     intro o ho hfs
     simp only [tiles, Bool.and_eq_true, beq_iff_eq] at ho
     obtain ⟨rfl, ho⟩ := ho
     obtain ⟨hpf, y, hy, hyw⟩ := hfs f (List.mem_cons_self ..)
     obtain ⟨ys, r1, r2, r3⟩ := ih f.type hpf n _ _ hy hyw
     obtain ⟨q0, xs, q1, q2, q3⟩ := ih2 _ ho fun g hg => hfs g (List.mem_cons_of_mem _ hg)
     have hyl : ys.length = P.cellsOf f.type := by rw [r1.1, List.length_take, List.length_drop]; omega
     refine ⟨by omega, ys ++ xs, ?_, ?_, ?_⟩
     ·have := r1.append q1
      rwa [show cs.drop (f.offset + P.cellsOf f.type) = (cs.drop f.offset).drop (P.cellsOf f.type) by rw [List.drop_drop], List.take_append_drop] at this
     ·intro z hz
      rcases List.mem_append.1 hz with hz | hz
      ·exact r2 z hz
      ·exact q2 z hz
     ·intro g hg
      rcases List.mem_cons.1 hg with rfl | hg
      ·refine ⟨Nat.le_refl _, ?_⟩
       rw [Nat.sub_self, List.drop_zero, ← hyl, List.take_left]
       exact r3
      ·obtain ⟨h1, h2⟩ := q3 g hg
       refine ⟨by omega, ?_⟩
       rw [show g.offset - f.offset = ys.length + (g.offset - (f.offset + P.cellsOf f.type)) by omega, ← List.drop_drop, List.drop_left]
       exact h2
   obtain ⟨_, xs, q1, q2, q3⟩ := key fs.toList 0 htile fun f hfm => by
    refine ⟨hall f hfm, ?_⟩
    obtain ⟨i, hi⟩ := List.getElem?_of_mem hfm
    have hi' : fs[i]? = some f := by simpa using hi
    have hlt : i < fs.size := (Array.getElem?_eq_some_iff.1 hi').1
    exact ⟨ds[i]'(by omega), by rw [hf i f hi']; exact List.getElem?_eq_getElem _, weights_each hwt i f.type _ (by simp [hi']) (by rw [List.getElem?_map, List.getElem?_eq_getElem (show i < ds.length by omega)]; rfl)⟩
   rw [List.drop_zero] at q1
   refine ⟨xs, q1, q2, .st hu xs (by rw [q1.1, hcl]) fun i f hi => ?_⟩
   have := (q3 f (by simpa using Array.mem_of_getElem? hi)).2
   simpa using this
  ·cases ht

/-- An argument, opened. -/
theorem open_arg {d base' : Nat} {t : TypeId} (ht : plainT P d t = true) {v : Value} (hval : Value.okWide P w .any base' t v) {D : DataW H} {ps : List MemPlace} (hd : DataW.Trod enc P w base sp held t v D ps) (hwt : (DataW.weights P t D).all (· ≤ reachBytes) = true) :
  ∃ x : Vl, RV (fun _ => none) (view w) x v ∧ namesV [x] = [] ∧ Typed P t x.cells ∧ ((∃ y, x = .a y) ∨ ∃ fs, P.underlying t = some (.struct fs)) ∧ ((∃ ys, x = .g ys) ∨ ¬ ∃ fs, P.underlying t = some (.struct fs)) := by
 obtain ⟨fuel, hf⟩ := hd
 obtain ⟨xs, r1, r2, r3⟩ := open_cells d t ht fuel _ _ hf hwt
 have hno : ∀ y : At, y.pr = true → y.nm = [] := fun y hy => by cases y <;> simp [At.pr, At.nm] at hy ⊢
 have one : v.cells.toList = [v] → (¬ ∃ fs, P.underlying t = some (.struct fs)) → _ := fun hv hns => (show ∃ x : Vl, RV (fun _ => none) (view w) x v ∧ namesV [x] = [] ∧ Typed P t x.cells ∧ ((∃ y, x = .a y) ∨ ∃ fs, P.underlying t = some (.struct fs)) ∧ ((∃ ys, x = .g ys) ∨ ¬ ∃ fs, P.underlying t = some (.struct fs)) by
  rw [hv] at r1
  match xs, r1, r2, r3 with
  | [y], r1, r2, r3 =>
   obtain ⟨u, g1, g2⟩ := r1.2 0 y rfl
   simp at g1
   subst g1
   exact ⟨.a y, g2, by simp [namesV, Vl.cells, hno y (r2 y (by simp))], r3, .inl ⟨y, rfl⟩, .inr hns⟩
  | [], r1, _, _ => exact absurd r1.1 (by simp)
  | _ :: _ :: _, r1, _, _ => exact absurd r1.1 (by simp))
 cases d with
 | zero => cases ht
 | succ d =>
  simp only [plainT] at ht
  split at ht
  ·rename_i hu
   obtain ⟨b, rfl⟩ := okWide_bool hu hval
   exact one rfl (by rw [hu]; simp)
  ·rename_i k hu
   obtain ⟨n, rfl⟩ := okWide_int hu hval
   exact one rfl (by rw [hu]; simp)
  ·rename_i hu
   obtain ⟨s, rfl⟩ := okWide_string hu hval
   exact one rfl (by rw [hu]; simp)
  ·rename_i e hu
   obtain ⟨a, l, c, rfl⟩ := okWide_slice hu hval
   exact one rfl (by rw [hu]; simp)
  ·rename_i fs hu
   obtain ⟨cs, rfl, _⟩ := okWide_struct hu hval
   refine ⟨.g xs, ⟨cs, rfl, r1⟩, ?_, r3, .inr ⟨fs, hu⟩, .inl ⟨xs, rfl⟩⟩
   simp only [namesV, Vl.cells, List.flatMap_cons, List.flatMap_nil, List.append_nil, List.flatMap_eq_nil_iff]
   exact fun y hy => hno y (r2 y hy)
  ·cases ht

/-- The law's call. -/
theorem law_calls {c : Cfg} (hk : CfgOk P c) {k : Nat} {f : FuncId} {xs : List Vl} {vals : Array Value} (hr : RVs (fun _ => none) (view w) xs vals.toList) (hn : namesV xs = [])
  (e : call c k f xs [] = some ([.a (.bool true)], [])) : Calls P f vals w fun e w' => e = .returned (.bool true) ∧ Below w.heap.size w w' := by
 obtain ⟨_, h⟩ := call_sound hk k f xs [] _ _ e
 have hmm : Mm (fun _ => none) (view w) w [] := by
  refine ⟨?_, ?_, ?_, fun b o e => e, ?_, ?_, ?_, ?_⟩ <;> intro i <;> simp
 refine (h w (fun _ => none) (view w) vals hr (by rw [hn]; simp) hmm (by simp)).mono ?_
 rintro en w' ⟨us, ι', h', rfl, hp⟩
 have hlen := hp.rv.1
 obtain ⟨u, g1, g2⟩ := hp.rv.2 0 _ rfl
 have hu : u = .bool true := RP.bool_inv (show RP h' (.bool true) u from g2)
 subst hu
 have hus : us = #[.bool true] := by
  apply Array.toList_inj.1
  match hq : us.toList, hlen, g1 with
  | [x], _, g1 => simp at g1; subst g1; rfl
 refine ⟨by rw [hus]; rfl, hp.os, hp.tape, hp.output, hp.grow, fun b hb => hp.frame b hb ?_⟩
 rintro ⟨i, B, L, g, _⟩
 simp at g

/-! From the type to the words. -/
theorem typed_int {t : TypeId} {k : IntKind} (hu : P.underlying t = some (.int k)) {xs : List At} (h : Typed P t xs) : ∃ n, xs = [.int k n] ∧ (Lit.int k n).wf = true := by
 cases h with
 | int hu' n hw => rw [hu] at hu'; cases hu'; exact ⟨n, rfl, hw⟩
 | bool hu' => rw [hu] at hu'; cases hu'
 | str hu' => rw [hu] at hu'; cases hu'
 | sl hu' => rw [hu] at hu'; cases hu'
 | st hu' => rw [hu] at hu'; cases hu'
theorem typed_bool {t : TypeId} (hu : P.underlying t = some .bool) {xs : List At} (h : Typed P t xs) : ∃ b, xs = [.bool b] := by
 cases h with
 | bool hu' b => exact ⟨b, rfl⟩
 | int hu' => rw [hu] at hu'; cases hu'
 | str hu' => rw [hu] at hu'; cases hu'
 | sl hu' => rw [hu] at hu'; cases hu'
 | st hu' => rw [hu] at hu'; cases hu'
theorem typed_str {t : TypeId} (hu : P.underlying t = some .string) {xs : List At} (h : Typed P t xs) : ∃ s, xs = [.str s] ∧ s.size ≤ maxLen ∧ s.size ≤ reachBytes := by
 cases h with
 | str hu' s hs hb => exact ⟨s, rfl, hs, hb⟩
 | int hu' => rw [hu] at hu'; cases hu'
 | bool hu' => rw [hu] at hu'; cases hu'
 | sl hu' => rw [hu] at hu'; cases hu'
 | st hu' => rw [hu] at hu'; cases hu'
theorem typed_sl {t e : TypeId} (hu : P.underlying t = some (.slice e)) {xs : List At} (h : Typed P t xs) : ∃ els, xs = [.sl (P.cellsOf e) els.length els] ∧ els.length ≤ maxLen ∧ els.length * P.bytesOf e ≤ reachBytes ∧ ∀ el ∈ els, Typed P e el := by
 cases h with
 | sl hu' els hn hb he => rw [hu] at hu'; cases hu'; exact ⟨els, rfl, hn, hb, he⟩
 | int hu' => rw [hu] at hu'; cases hu'
 | bool hu' => rw [hu] at hu'; cases hu'
 | str hu' => rw [hu] at hu'; cases hu'
 | st hu' => rw [hu] at hu'; cases hu'
theorem typed_st {t : TypeId} {fs : Array Field} (hu : P.underlying t = some (.struct fs)) {xs : List At} (h : Typed P t xs) :
  xs.length = P.cellsOf t ∧ ∀ (i : Nat) (f : Field), fs[i]? = some f → Typed P f.type ((xs.drop f.offset).take (P.cellsOf f.type)) := by
 cases h with
 | st hu' cs hl hf => rw [hu] at hu'; cases hu'; exact ⟨hl, hf⟩
 | int hu' => rw [hu] at hu'; cases hu'
 | bool hu' => rw [hu] at hu'; cases hu'
 | str hu' => rw [hu] at hu'; cases hu'
 | sl hu' => rw [hu] at hu'; cases hu'
end
end Go.Proofs.Ytgiamleohegjeaa.Am
namespace Go.Proofs.Ytgiamleohegjeaa.Am
open Go

theorem ile_t {a b : Int} (h : a ≤ b) : (a ≤ b) = True := eq_true h
theorem ile_f {a b : Int} (h : ¬ a ≤ b) : (a ≤ b) = False := eq_false h
theorem ilt_t {a b : Int} (h : a < b) : (a < b) = True := eq_true h
theorem ilt_f {a b : Int} (h : ¬ a < b) : (a < b) = False := eq_false h
theorem ieq_t {a b : Int} (h : a = b) : (a = b) = True := eq_true h
theorem ieq_f {a b : Int} (h : ¬ a = b) : (a = b) = False := eq_false h
theorem nle_t {a b : Nat} (h : a ≤ b) : (a ≤ b) = True := eq_true h
theorem nle_f {a b : Nat} (h : ¬ a ≤ b) : (a ≤ b) = False := eq_false h
theorem nlt_t {a b : Nat} (h : a < b) : (a < b) = True := eq_true h
theorem nlt_f {a b : Nat} (h : ¬ a < b) : (a < b) = False := eq_false h
section
variable {c : Cfg} {callF : FuncId → List Vl → List Blk → Option (List Vl × List Blk)}
section
variable {kp : Nat → List Kp} {nt k p : Nat}
end
section
variable {d : Option Tmp} {t0 : TypeId} {pos : String} {af : Array Edge} {g : Option (Nat × Bool)} {fr : List (Nat × Sv)} {mem : Mem} {nx : Nat} {ops : List Oper}
end
end

theorem wrap_i64 {x : Int} (h : -9223372036854775808 ≤ x ∧ x ≤ 9223372036854775807) : IntKind.i64.wrap x = x := by
 simp only [IntKind.wrap, IntKind.bits, IntKind.signed]
 simp
 omega
theorem wrap_u32 (x : Int) : IntKind.u32.wrap x = x % 4294967296 := by simp [IntKind.wrap, IntKind.bits, IntKind.signed]
theorem wrap_u64 (x : Int) : IntKind.u64.wrap x = x % 18446744073709551616 := by simp [IntKind.wrap, IntKind.bits, IntKind.signed]
theorem wrap_u8 (x : Int) : IntKind.u8.wrap x = x % 256 := by simp [IntKind.wrap, IntKind.bits, IntKind.signed]

def loopF (hd : St → Option St) (body : St → Option Out) : Nat → Option St → Option Out
 | 0, _ => none
 | k + 1, s => seqK (loopN hd body k) (hdK body s)
theorem loopN_F (hd : St → Option St) (body : St → Option Out) (k : Nat) (σ : St) : loopN hd body k σ = loopF hd body k (hd σ) := by cases k <;> rfl
theorem loopF_succ (hd : St → Option St) (body : St → Option Out) (k : Nat) (σ : St) : loopF hd body (k + 1) (some σ) = seqK (loopN hd body k) (body σ) := rfl
/-- The n-th loop of a code, its body. -/
def loops : Code → List Code
 | .seq x y => loops x ++ loops y
 | .cond _ x y => loops x ++ loops y
 | .block _ x => loops x
 | .loop x => x :: loops x
 | _ => []
end Go.Proofs.Ytgiamleohegjeaa.Am

/- All plain operations together. -/
import Derived.Test.YtghdpmejgonjmaaAmOps6
set_option linter.unusedVariables false
set_option linter.unusedSimpArgs false
namespace Go.Proofs.Ytghdpmejgonjmaa.Am
open Go

section
variable {P : Program} {n : Nat} {w0 : World} {M0 : Bool → Nat → Prop} {U : Nat → Prop} {ι : Io} {h : Hp} {fr : List (Nat × Sv)} {mem : Mem} {a : Act} {w w' : World}
  {c : Cfg} {callF : FuncId → List Vl → List Blk → Option (List Vl × List Blk)} {o : Oper} {nx : Nat} {e : Eff}

theorem pl_append (hT : TyOk P c.T) (hs : Sim n w0 M0 U ι h fr mem a w) (hf : ∀ m, nx ≤ m → m < e.nn → ¬ U m) {args : Array Operand} {ats : Array TypeId} (hop : o.op = .call { callee := .builtin .append, args := args, argTypes := ats })
    (he : stp c callF o fr mem nx = some e) : Plain P n w0 M0 U ι h fr mem a w nx o e := by
  simp only [stp, hop, Option.bind_eq_some_iff] at he
  obtain ⟨t, e1, t', e2, s, ⟨so, e3, e4⟩, x, ⟨xo, e5, e6⟩, he⟩ := he
  split at he
  · rename_i ht
    subst ht
    obtain ⟨hr, hn⟩ := hs.evA e4
    obtain ⟨hr', hn'⟩ := hs.evA e6
    obtain ⟨u, w', h1, h2⟩ := append_sound hT hs hf hr hr' hn he o.type
    refine .inl ⟨u, w', ?_, h2⟩
    have hA : (Builtin.append_ ats o.type (args.map a.eval)).run P w = .ok u w' := by
      rw [← h1]
      unfold Builtin.append_
      simp [e1, e2, e3, e5]
    simp [execOp, hop, resolve, invoke, builtin, hA]
  · cases he

/-- New memory that nobody writes. -/
theorem Sim.persist (hs : Sim n w0 M0 U ι h fr mem a w) {h' : Hp} (hg : w.grownBy w' none) (hsub : Sub h h') (hin : ∀ b o, h' b = some o → w'.heap[b]? = some o) (hold : ∀ b, b < w.heap.size → h' b = h b) :
    Sim n w0 M0 U ι h' fr mem a w' := by
  have hs' := hs.grown hg (fun g hg => by cases hg)
  refine { hs' with hfr := ?_, hmem := ?_, hsub := hin, hmut := ?_, hfrz := ?_ }
  · intro t v e
    obtain ⟨u, e1, e2⟩ := hs.hfr t v e
    exact ⟨u, e1, e2.mono hsub fun _ _ => rfl⟩
  · intro m B e
    have hb := hs'.hmem m B e
    unfold RB at hb ⊢
    cases hL : ι m with
    | none => rw [hL] at hb; exact hb
    | some L =>
      rw [hL] at hb
      obtain ⟨C', e1, e2, e3, e4⟩ := hb
      exact ⟨C', e1, e2, e3, e4.mono hsub fun _ _ => rfl⟩
  · intro m B L e hz l
    rw [hold _ (hs.hdom m L l).2]
    exact hs.hmut m B L e hz l
  · intro m B L e hz l
    rw [hold _ (hs.hdom m L l).2]
    exact hs'.hfrz m B L e hz l

theorem byteEls_spec : ∀ {els : List (List At)} {bs : List UInt8}, byteEls els = some bs → bs.length = els.length ∧ ∀ (i : Nat) (el : List At), els[i]? = some el → ∃ k : Int, el = [At.int .u8 k] ∧ bs[i]? = some (UInt8.ofNat k.toNat) := by
  intro els
  induction els with
  | nil => intro bs h; simp [byteEls] at h; subst h; simp
  | cons el els ih =>
    intro bs h
    unfold byteEls at h
    split at h
    · rename_i hq; cases hq
    · rename_i k r heq
      cases heq
      simp only [Option.bind_eq_some_iff] at h
      obtain ⟨xs, h1, h2⟩ := h
      cases h2
      obtain ⟨q1, q2⟩ := ih h1
      refine ⟨by simp [q1], fun i el hi => ?_⟩
      cases i with
      | zero => simp at hi; subst hi; exact ⟨k, rfl, rfl⟩
      | succ i => simp at hi; simpa using q2 i el hi
    · cases h

theorem pl_convert (hT : TyOk P c.T) (hs : Sim n w0 M0 U ι h fr mem a w) (hf : ∀ m, nx ≤ m → m < e.nn → ¬ U m) {src dst : TypeId} {x : Operand} (hop : o.op = .convert src dst x) (he : stp c callF o fr mem nx = some e) :
    Plain P n w0 M0 U ι h fr mem a w nx o e := by
  simp only [stp, hop, Option.bind_eq_some_iff] at he
  obtain ⟨y, e1, he⟩ := he
  obtain ⟨hr, hn⟩ := hs.evA e1
  have hrun : ∀ u w', (convert src dst (a.eval x)).run P w = .ok u w' → (execOp a.eval o).run P w = .ok (.value u) w' := by
    intro u w' hu
    simp [execOp, hop, hu]
  split at he
  · rename_i et hs1 hd1
    split at he
    · rename_i het
      simp only [Option.bind_eq_some_iff] at he
      obtain ⟨⟨k, els, pr, rd⟩, e2, bs, e3, he⟩ := he
      cases he
      obtain ⟨D1, hD1, rfl, -⟩ := tdOf_ok hT hs1
      obtain ⟨D2, hD2, rfl, -⟩ := tdOf_ok hT hd1
      obtain ⟨D3, hD3, rfl, -⟩ := tdOf_ok hT het
      obtain ⟨hkl, hnm, hpr, hsrc⟩ := hs.elsOf (by omega) hr e2
      obtain ⟨b1, b2⟩ := byteEls_spec e3
      simp only at b1 b2
      rcases hsrc with ⟨A, c', hx, cells, hcf, hcell⟩ | ⟨hk0, hels, c', hx⟩
      · have hval : ∀ i, i < k → ∃ q : Int, els[i]? = some [At.int .u8 q] ∧ bs[i]? = some (UInt8.ofNat q.toNat) ∧ w.cell? (A.add i) = some (.int .u8 q) := by
          intro i hi
          have hel : els[i]? = some els[i] := List.getElem?_eq_getElem (by omega)
          obtain ⟨q, q1, q2⟩ := b2 i _ hel
          obtain ⟨_, r2⟩ := hcf.2 i _ hel
          obtain ⟨u, r3, r4⟩ := r2 0 (.int .u8 q) (by rw [q1]; rfl)
          simp at r3
          have hu := RP.int_inv' r4
          subst hu
          exact ⟨q, by rw [hel, q1], q2, hcell i _ r3⟩
        refine .inl ⟨.string ⟨bs.toArray⟩, w, hrun _ _ ?_, Nxt.val hs (.str _) (by simp [Sv.nms, namesV, Vl.cells, At.nm])⟩
        rw [hx]
        rcases Nat.eq_zero_or_pos k with h0 | h0
        · subst h0
          have hbs : bs = [] := List.eq_nil_of_length_eq_zero (by rw [b1, hkl])
          subst hbs
          simp [convert, run_underlying hD1, run_underlying hD2, run_underlying hD3, Conv.bytesToString, loadCells, loadCellsFrom, ByteArray.empty, ByteArray.emptyWithCapacity] <;> rfl
        · obtain ⟨q0, _, _, hc0⟩ := hval 0 h0
          have hA : ∃ b off, A = ⟨b, off, none⟩ := by
            obtain ⟨b, off, spot⟩ := A
            cases spot with
            | none => exact ⟨b, off, rfl⟩
            | some s =>
              simp [Addr.add, World.cell?] at hc0
              split at hc0 <;> simp at hc0
          obtain ⟨b, off, rfl⟩ := hA
          let xs : List Int := els.map fun el => match el with | [At.int _ q] => q | _ => 0
          have hxs : ∀ i, i < k → ∀ q, els[i]? = some [At.int .u8 q] → xs.getD i 0 = q := by
            intro i hi q hq
            simp [xs, List.getD_eq_getElem?_getD, hq]
          have := run_convert_bytes_arg (P := P) w src et hD1 hD3 b off k c' xs (by simp [xs, hkl]) (fun i hi => by
            obtain ⟨q, r1, r2, r3⟩ := hval i hi
            rw [hxs i hi q r1]
            rw [Addr.add_mid] at r3
            exact r3) dst hD2
          rw [this]
          congr 2
          unfold strOfNums
          congr 1
          apply Array.toList_inj.1
          simp only [List.toList_toArray]
          apply List.ext_getElem?
          intro i
          rcases Nat.lt_or_ge i k with hi | hi
          · obtain ⟨q, r1, r2, _⟩ := hval i hi
            simp [xs, r1, r2]
          · rw [List.getElem?_eq_none (by simp [xs]; omega), List.getElem?_eq_none (by omega)]
      · subst hk0
        have hbs : bs = [] := List.eq_nil_of_length_eq_zero (by rw [b1, hkl])
        subst hbs
        refine .inl ⟨_, w, hrun _ _ (by rw [hx]; exact run_convert_bytes_nil w src et hD1 hD3 0 c' dst hD2), Nxt.val hs (.str _) (by simp [Sv.nms, namesV, Vl.cells, At.nm])⟩
    · cases he
  · simp only [valA, Option.bind_eq_some_iff] at he
    obtain ⟨z, e2, he⟩ := he
    unfold convA at e2
    split at e2
    · split at e2
      · rename_i hs1 hd1
        cases e2
        obtain ⟨D1, hD1, rfl, -⟩ := tdOf_ok hT hs1
        obtain ⟨D2, hD2, rfl, -⟩ := tdOf_ok hT hd1
        have hx := RP.int_inv' hr
        refine .inl ⟨_, w, hrun _ _ ?_, Nxt.valP hs he (.int _ _)⟩
        rw [hx]
        simp [convert, run_underlying hD1, run_underlying hD2, Conv.intToInt]
      · cases e2
    · rename_i s
      have hx := RP.str_inv hr
      split at e2
      · rename_i hs1 hd1
        cases e2
        obtain ⟨D1, hD1, rfl, -⟩ := tdOf_ok hT hs1
        obtain ⟨D2, hD2, rfl, -⟩ := tdOf_ok hT hd1
        refine .inl ⟨_, w, hrun _ _ ?_, Nxt.valP hs he (.str _)⟩
        rw [hx]
        simp [convert, run_underlying hD1, run_underlying hD2]
      · rename_i et hs1 hd1
        split at e2
        · rename_i het
          cases e2
          obtain ⟨D1, hD1, rfl, -⟩ := tdOf_ok hT hs1
          obtain ⟨D2, hD2, rfl, -⟩ := tdOf_ok hT hd1
          obtain ⟨D3, hD3, rfl, -⟩ := tdOf_ok hT het
          have hrun' := Lib.run_convert_string_bytes (P := P) w src dst et s hD1 hD2 hD3
          let h' : Hp := fun b => if b = w.heap.size then (Lib.bytesWorld w et s).heap[b]? else h b
          have hold : ∀ b, b < w.heap.size → h' b = h b := fun b hb => by
            show (if b = w.heap.size then _ else _) = _
            rw [if_neg (by omega)]
          have hsub : Sub h h' := fun b o' e' => by rw [hold b (hs.hlt e')]; exact e'
          have hg : w.grownBy (Lib.bytesWorld w et s) none := ⟨rfl, rfl, rfl, by rw [Lib.bytesWorld_size]; omega, fun b hb _ => Lib.bytesWorld_at_old w et s b hb⟩
          have hs' := hs.persist (h' := h') hg hsub (fun b o' e' => by
            have e'' : (if b = w.heap.size then (Lib.bytesWorld w et s).heap[b]? else h b) = some o' := e'
            split at e''
            · exact e''
            · rw [Lib.bytesWorld_at_old w et s b (hs.hlt e'')]; exact hs.hsub b o' e'') hold
          simp only [val, Option.some.injEq] at he
          subst he
          refine .inl ⟨_, _, hrun _ _ (by rw [hx]; exact hrun'), ι, h', hsub, fun _ _ => rfl, hs'.weak fun _ hm => .inl hm, ?_, by simp [Sv.nms, namesV, Vl.cells, At.nm], Nat.le_refl _, fun b hb _ => hold b (Nat.lt_of_lt_of_le hb hs.hgrow)⟩
          have hnew : h' w.heap.size = some (.cells (Lib.bytesCells w et s) et ((Lib.bytesCells w et s).size, (Lib.bytesCells w et s).size + 1)) := by
            show (if w.heap.size = w.heap.size then _ else _) = _
            rw [if_pos rfl, Lib.bytesWorld_at_new]
          refine .sl (h := h') s.size _ w.heap.size 0 (grownCap w s.size 0 et) 1 _ et _ (fun i _ => .int .u8 ((s.data.toList.getD i 0).toNat : Int)) hnew (by simp) ?_ ?_ ?_ ?_
          · simp [grownCap, Question.cut]
          · intro i el hi
            rw [List.getElem?_map] at hi
            cases hq : s.data.toList[i]? with
            | none => rw [hq] at hi; cases hi
            | some b => rw [hq] at hi; simp at hi; subst hi; rfl
          · intro i el j y hi hj
            rw [List.getElem?_map] at hi
            cases hq : s.data.toList[i]? with
            | none => rw [hq] at hi; cases hi
            | some b =>
              rw [hq] at hi; simp at hi; subst hi
              have hj0 : j = 0 := by cases j <;> simp at hj ⊢
              subst hj0
              have hlt : i < s.data.size := by
                rcases Nat.lt_or_ge i s.data.size with h'' | h''
                · exact h''
                · rw [List.getElem?_eq_none (by simpa using h'')] at hq; cases hq
              have hlt' : i < s.size := hlt
              have hq' : s.data[i]? = some b := by simpa using hq
              simp [Lib.bytesCells, Array.getElem?_append, hlt', hq']
          · intro i el j y hi hj
            rw [List.getElem?_map] at hi
            cases hq : s.data.toList[i]? with
            | none => rw [hq] at hi; cases hi
            | some b =>
              rw [hq] at hi; simp at hi; subst hi
              cases j with
              | succ j => simp at hj
              | zero =>
                simp at hj
                subst hj
                rw [List.getD_eq_getElem?_getD, hq]
                exact .int _ _
        · cases e2
      · cases e2
    · cases e2

end
end Go.Proofs.Ytghdpmejgonjmaa.Am

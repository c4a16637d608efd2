/- Each plain operation of the program does what the abstract machine says: stores, sums, slices. -/
import Derived.Test.YtghdpmejgonjmaaAmOps2
set_option linter.unusedVariables false
set_option linter.unusedSimpArgs false
namespace Go.Proofs.Ytghdpmejgonjmaa.Am
open Go

section
variable {P : Program} {n : Nat} {w0 : World} {M0 : Bool → Nat → Prop} {U : Nat → Prop} {ι : Io} {h : Hp} {fr : List (Nat × Sv)} {mem : Mem} {a : Act} {w : World}
  {c : Cfg} {callF : FuncId → List Vl → List Blk → Option (List Vl × List Blk)} {o : Oper} {nx : Nat} {e : Eff}

/-- The cells of a block behind a store into one element. -/
theorem RBs.set {C : Array Value} {es : Nat} {els : List (List At)} (hr : RBs ι h C es els) {i : Nat} {el : List At} (he : els[i]? = some el) {off : Nat} {cs : List At} {us : List Value}
    (hR : RL ι h cs us) (hle : off + cs.length ≤ el.length) (hin : i * es + off + us.length ≤ C.size) :
    RBs ι h (C.toList.take (i * es + off) ++ us ++ C.toList.drop (i * es + off + us.length)).toArray es (els.set i (putAt el off cs)) := by
  obtain ⟨hlen, hc⟩ := hr i el he
  have hul : us.length = cs.length := hR.1.symm
  have hcell : ∀ k, (k < i * es + off ∨ i * es + off + us.length ≤ k) → (C.toList.take (i * es + off) ++ us ++ C.toList.drop (i * es + off + us.length)).toArray[k]? = C[k]? := by
    intro k hk
    rw [List.getElem?_toArray, List.append_assoc, List.getElem?_append, List.length_take, Array.length_toList]
    rcases hk with hk | hk
    · rw [if_pos (by omega), List.getElem?_take, if_pos hk, Array.getElem?_toList]
    · rw [if_neg (by omega), List.getElem?_append, if_neg (by omega), List.getElem?_drop, Array.getElem?_toList]
      congr 1
      omega
  have hmid : ∀ k, k < us.length → (C.toList.take (i * es + off) ++ us ++ C.toList.drop (i * es + off + us.length)).toArray[i * es + off + k]? = us[k]? := by
    intro k hk
    rw [List.getElem?_toArray, List.append_assoc, List.getElem?_append, List.length_take, Array.length_toList, if_neg (by omega), List.getElem?_append, if_pos (by omega)]
    congr 1
    omega
  intro i' e' he'
  rw [List.getElem?_set] at he'
  by_cases hi : i = i'
  · subst hi
    rw [if_pos rfl] at he'
    split at he'
    · cases he'
      refine ⟨by simp [putAt]; omega, fun j x hx => ?_⟩
      have hx' := hx
      unfold putAt at hx'
      rw [List.append_assoc, List.getElem?_append, List.length_take] at hx'
      split at hx'
      · rename_i hj
        rw [List.getElem?_take] at hx'
        split at hx'
        · obtain ⟨u, e1, e2⟩ := hc j x hx'
          exact ⟨u, by rw [hcell _ (.inl (by omega))]; exact e1, e2⟩
        · cases hx'
      · rename_i hj
        rw [List.getElem?_append] at hx'
        split at hx'
        · obtain ⟨u, e1, e2⟩ := hR.2 _ x hx'
          refine ⟨u, ?_, e2⟩
          have hk : j - min off el.length < us.length := by omega
          have := hmid _ hk
          rw [e1] at this
          rw [← this]
          congr 1
          omega
        · rw [List.getElem?_drop] at hx'
          have hq : off + cs.length + (j - min off el.length - cs.length) = j := by omega
          rw [hq] at hx'
          obtain ⟨u, e1, e2⟩ := hc j x hx'
          exact ⟨u, by rw [hcell _ (.inr (by omega))]; exact e1, e2⟩
    · cases he'
  · rw [if_neg hi] at he'
    obtain ⟨hl', hc'⟩ := hr i' e' he'
    refine ⟨hl', fun j x hx => ?_⟩
    obtain ⟨u, e1, e2⟩ := hc' j x hx
    refine ⟨u, ?_, e2⟩
    have hj : j < es := by
      rw [← hl']
      rcases Nat.lt_or_ge j e'.length with h' | h'
      · exact h'
      · rw [List.getElem?_eq_none (by omega)] at hx; cases hx
    rw [hcell _ ?_]
    · exact e1
    · rcases Nat.lt_or_gt_of_ne hi with hlt | hgt
      · right
        have : (i + 1) * es ≤ i' * es := Nat.mul_le_mul_right es hlt
        rw [Nat.add_mul, Nat.one_mul] at this
        omega
      · left
        have : (i' + 1) * es ≤ i * es := Nat.mul_le_mul_right es hgt
        rw [Nat.add_mul, Nat.one_mul] at this
        omega

theorem mem_putAt {cs xs : List At} {o' : Nat} {x : At} (hx : x ∈ putAt cs o' xs) : x ∈ cs ∨ x ∈ xs := by
  unfold putAt at hx
  rcases List.mem_append.1 hx with h' | h'
  · rcases List.mem_append.1 h' with h' | h'
    · exact .inl (List.mem_of_mem_take h')
    · exact .inr h'
  · exact .inl (List.mem_of_mem_drop h')

theorem pl_store (hT : TyOk P c.T) (hs : Sim n w0 M0 U ι h fr mem a w) {t : TypeId} {x y : Operand} (hop : o.op = .store t x y) (he : stp c callF o fr mem nx = some e) :
    Plain P n w0 M0 U ι h fr mem a w nx o e := by
  simp only [stp, hop, Option.bind_eq_some_iff] at he
  obtain ⟨ti, e1, v, e2, z, e3, he⟩ := he
  obtain ⟨hv, hvn⟩ := hs.evV e2
  obtain ⟨hr, hn⟩ := hs.evA e3
  split at he
  · rename_i m i o'
    simp only [Option.bind_eq_some_iff] at he
    obtain ⟨B, e4, el, e5, he⟩ := he
    split at he
    · rename_i hc
      obtain ⟨hc1, hc2, hc3⟩ := hc
      have hfz : B.fz = false := by simpa using hc3
      cases he
      obtain ⟨L, hL, hx⟩ := hr
      have hb := hs.hmem m B e4
      unfold RB at hb
      rw [hL] at hb
      obtain ⟨C, h1, h2, h3, h4⟩ := hb
      have hR := RV.cells hv
      obtain ⟨hel, hcel⟩ := h4 i el e5
      obtain ⟨ri, hi, hsz, _⟩ := (hT t ti e1).info
      have hlen : (a.eval y).cells.toList.length = ti.size := by rw [← hR.1, hc1]
      have hin : i * B.es + o' + (a.eval y).cells.toList.length ≤ C.size := by
        rw [hlen]
        rcases Nat.eq_zero_or_pos ti.size with h0 | h0
        · rw [h0]
          rcases Nat.eq_zero_or_pos o' with ho | ho
          · subst ho
            rcases Nat.eq_zero_or_pos el.length with hl0 | hl0
            · have : B.es = 0 := by omega
              rw [this]; omega
            · obtain ⟨u, q1, _⟩ := hcel 0 el[0] (List.getElem?_eq_getElem hl0)
              have := (Array.getElem?_eq_some_iff.1 q1).1
              omega
          · obtain ⟨u, q1, _⟩ := hcel (o' - 1) el[o' - 1] (List.getElem?_eq_getElem (by omega))
            have := (Array.getElem?_eq_some_iff.1 q1).1
            omega
        · obtain ⟨u, q1, _⟩ := hcel (o' + ti.size - 1) el[o' + ti.size - 1] (List.getElem?_eq_getElem (by omega))
          have := (Array.getElem?_eq_some_iff.1 q1).1
          omega
      have hone : ∀ u ∈ (a.eval y).cells.toList, u.oneCell' = true := by
        intro u hu
        obtain ⟨j, hj⟩ := List.getElem?_of_mem hu
        have hjl : j < v.cells.length := by
          rw [hR.1]
          rcases Nat.lt_or_ge j (a.eval y).cells.toList.length with h' | h'
          · exact h'
          · rw [List.getElem?_eq_none (by omega)] at hj; cases hj
        obtain ⟨u', q1, q2⟩ := hR.2 j _ (List.getElem?_eq_getElem hjl)
        rw [hj] at q1
        cases q1
        exact q2.oneCell
      have hst := run_storeCells_at (P := P) L.b (i * B.es + o') B.ty (a.eval y).cells.toList 0 C w h1 (by simpa using hin) hone
      refine .inr ⟨_, ?_, ι, h, Sub.refl h, fun _ _ => rfl, (?_ : Sim n w0 M0 _ ι h fr (set1 mem _) a (w.setRow L.b (C.toList.take (i * B.es + o') ++ (a.eval y).cells.toList ++ C.toList.drop (i * B.es + o' + (a.eval y).cells.toList.length)).toArray)), rfl, ?_, Nat.le_refl _, fun _ _ _ => rfl⟩
      · have hsz' : (a.eval y).cells.size = ti.size := by simpa using hlen
        have hst' : (storeCells { block := L.b, off := i * B.es + o', spot := none } (a.eval y).cells.toList).run P w = _ := hst
        simp only [Nat.add_zero] at hst'
        simp [execOp, hop, Instr.storeAt, Instr.sureAddr, hx, storeVar, run_sizeOf hi, hsz, hsz', h3]
        simp at hst'
        rw [hst']
        simp [hsz']
      · refine Sim.weak (Sim.write (B' := { B with els := B.els.set i (putAt el o' v.cells), pr := B.pr && v.cells.all At.pr }) hs e4 hfz hL h1 ?_ rfl rfl hfz ?_ h3 ?_ ?_) (fun m hm => .inl hm)
        · rw [← h2]; have hin' := hin; rw [Array.length_toList] at hin'; simp; omega
        · exact h4.set e5 hR (by rw [hc1]; exact hc2) hin
        · intro m' hm'
          simp only [Blk.nms, List.mem_flatMap] at hm'
          obtain ⟨e', he', q, hq, hm'⟩ := hm'
          rcases List.mem_or_eq_of_mem_set he' with h' | h'
          · exact (hs.hnb m B e4).2 m' (by simp only [Blk.nms, List.mem_flatMap]; exact ⟨e', h', q, hq, hm'⟩)
          · subst h'
            rcases mem_putAt hq with h' | h'
            · exact (hs.hnb m B e4).2 m' (by simp only [Blk.nms, List.mem_flatMap]; exact ⟨el, List.mem_of_getElem? e5, q, h', hm'⟩)
            · exact hvn m' (by simp only [namesV, List.mem_flatMap]; exact ⟨v, by simp, q, h', hm'⟩)
        · intro hp e' he' q hq
          have hp : (B.pr && v.cells.all At.pr) = true := hp
          rw [Bool.and_eq_true] at hp
          rcases List.mem_or_eq_of_mem_set he' with h' | h'
          · exact hs.hpr m B e4 hp.1 e' h' q hq
          · subst h'
            rcases mem_putAt hq with h' | h'
            · exact hs.hpr m B e4 hp.1 el (List.mem_of_getElem? e5) q h'
            · exact List.all_eq_true.1 hp.2 q h'
      · intro m hm; cases hm
    · cases he
  · cases he

theorem pl_unOp (hs : Sim n w0 M0 U ι h fr mem a w) {op : UnOp} {t : TypeId} {x : Operand} (hop : o.op = .unOp op t x) (he : stp c callF o fr mem nx = some e) : Plain P n w0 M0 U ι h fr mem a w nx o e := by
  simp only [stp, hop, Option.bind_eq_some_iff, valA] at he
  obtain ⟨y, e2, z, e3, he⟩ := he
  obtain ⟨hr, hn⟩ := hs.evA e2
  unfold unA at e3
  split at e3
  · split at e3
    · cases e3
      have hx := RP.int_inv' hr
      exact .inl ⟨_, w, by simp [execOp, hop, hx, Op.unary, Op.intArith] <;> rfl, Nxt.valP hs he (.int _ _)⟩
    · cases e3
  · split at e3
    · cases e3
      have hx := RP.bool_inv hr
      exact .inl ⟨_, w, by simp [execOp, hop, hx, Op.unary] <;> rfl, Nxt.valP hs he (.bool _)⟩
    · cases e3
  · cases e3

theorem binI_sound {op : BinOp} {k : IntKind} {x y : Int} {z : At} (e1 : binI op k x y = some z) (h1 : op ≠ .shl) (h2 : op ≠ .shr) (ty : TypeId) (w : World) :
    ∃ v, (binOp op ty (.int k x) (.int k y)).run P w = .ok v w ∧ ∀ h, RP h z v := by
  cases op <;> simp only [binI] at e1 <;> first
    | (cases e1; done)
    | (cases e1; exact ⟨_, by simp [binOp, Op.intArith, Op.intBits, Op.intCmp] <;> rfl, fun h => by first | exact .int _ _ | exact .bool _⟩)
    | (split at e1 <;> first | (cases e1; done) | (cases e1; rename_i hy; exact ⟨_, by simp [binOp, Op.intDiv, hy] <;> rfl, fun h => .int _ _⟩))

theorem equal_bool {t : TypeId} (hD : P.underlying t = some .bool) (x y : Bool) (w : World) : (Op.equal t (.bool x) (.bool y)).run P w = .ok (x == y) w := by
  rw [show Op.equal t (.bool x) (.bool y) = Op.equalIn (9999 + 1) t (.bool x) (.bool y) from rfl]
  generalize 9999 = d
  simp [Op.equalIn, run_underlying hD]
theorem equal_ptr {t el : TypeId} (hD : P.underlying t = some (.pointer el)) (x y : Option Addr) (hxy : x = none ∨ y = none) (w : World) :
    (Op.equal t (.pointer x) (.pointer y)).run P w = .ok (x.isNone && y.isNone) w := by
  rw [show Op.equal t (.pointer x) (.pointer y) = Op.equalIn (9999 + 1) t (.pointer x) (.pointer y) from rfl]
  generalize 9999 = d
  cases x <;> cases y <;> simp at hxy <;> simp [Op.equalIn, run_underlying hD]

theorem pl_binOp (hT : TyOk P c.T) (hs : Sim n w0 M0 U ι h fr mem a w) {op : BinOp} {t t2 : TypeId} {x y : Operand} (hop : o.op = .binOp op t x y t2) (he : stp c callF o fr mem nx = some e) :
    Plain P n w0 M0 U ι h fr mem a w nx o e := by
  simp only [stp, hop, Option.bind_eq_some_iff, valA] at he
  obtain ⟨p, e2, q, e3, z, e4, he⟩ := he
  obtain ⟨hr, hn⟩ := hs.evA e2
  obtain ⟨hr', hn'⟩ := hs.evA e3
  -- no aggregates: the guard of '==' has nothing to say
  have hg : ∀ (u v : Value), u.oneCell' = true → u ≠ .nilIface → (eqGuard op t x y u v).run P w = .ok () w := by
    intro u v hu hne
    cases op <;> simp [eqGuard] <;> (cases u <;> simp_all [Value.oneCell'])
  suffices hk : ∃ v, (binOp op t (a.eval x) (a.eval y)).run P w = .ok v w ∧ RP h z v ∧ a.eval x ≠ .nilIface by
    obtain ⟨v, h1, h2, h3⟩ := hk
    refine .inl ⟨v, w, ?_, Nxt.valP hs he h2⟩
    simp [execOp, hop, hg _ _ (RA.oneCell hr) h3, h1]
  unfold binA at e4
  split at e4
  · have hx := RP.int_inv' hr
    have hy := RP.int_inv' hr'
    rw [hx, hy]
    split at e4
    · split at e4
      · cases e4
      · cases e4
        rename_i hlt
        exact ⟨_, by simp [binOp, Op.shift, hlt] <;> rfl, .int _ _, by simp⟩
    · split at e4
      · cases e4
      · cases e4
        rename_i hlt
        exact ⟨_, by simp [binOp, Op.shift, hlt] <;> rfl, .int _ _, by simp⟩
    · split at e4
      · rename_i hk
        subst hk
        obtain ⟨v, h1, h2⟩ := binI_sound (P := P) e4 (by assumption) (by assumption) t w
        exact ⟨v, h1, h2 h, by simp⟩
      · cases e4
  · have hx := RP.str_inv hr
    have hy := RP.str_inv hr'
    rw [hx, hy]
    split at e4
    · split at e4
      · cases e4
      · cases e4
        rename_i hlt
        exact ⟨_, by simp only [binOp, Op.stringOp]; rw [if_neg hlt] <;> rfl, .str _, by simp⟩
    · cases e4
      exact ⟨_, by simp only [binOp, Op.stringOp, ByteArray.toList_eq] <;> rfl, .bool _, by simp⟩
    · cases e4
      exact ⟨_, by simp only [binOp, Op.stringOp, ByteArray.toList_eq] <;> rfl, .bool _, by simp⟩
    · cases e4
  · have hx := RP.bool_inv hr
    have hy := RP.bool_inv hr'
    rw [hx, hy]
    split at e4
    · rename_i ht
      obtain ⟨D, hD, hD', _⟩ := tdOf_ok hT ht
      cases hD'
      cases e4
      exact ⟨_, by simp only [binOp, bind_pure_comp, Sem.run_bind, Sem.run_map, equal_bool hD, Result.andThen_ok] <;> rfl, .bool _, by simp⟩
    · rename_i ht
      obtain ⟨D, hD, hD', _⟩ := tdOf_ok hT ht
      cases hD'
      cases e4
      exact ⟨_, by simp only [binOp, bind_pure_comp, Sem.run_bind, Sem.run_map, equal_bool hD, Result.andThen_ok] <;> rfl, .bool _, by simp⟩
    · cases e4
  · split at e4
    · rename_i ht
      obtain ⟨D, hD, hD', _⟩ := tdOf_ok hT ht
      obtain ⟨el, rfl⟩ := hD'
      -- both are pointers; one of them is nil
      have hp : ∀ {z : At} {v : Value}, RA ι h z v → (z = .nilp → v = .pointer none) ∧ ((∃ m i o, z = .ptr m i o) ∨ (∃ e o, z = .pp e o) → ∃ A, v = .pointer (some A)) := by
        intro z v hz
        constructor
        · rintro rfl
          have hz : RP h _ _ := hz
          cases hz; rfl
        · rintro (⟨m, i, o, rfl⟩ | ⟨e, o, rfl⟩)
          · obtain ⟨L, _, rfl⟩ := hz; exact ⟨_, rfl⟩
          · have hz : RP h _ _ := hz
            cases hz; exact ⟨_, rfl⟩
      have hp1 := hp hr
      have hp2 := hp hr'
      dsimp only at e4
      have key : ∀ b, (match p, q with
          | At.nilp, .nilp => some true
          | .nilp, .ptr .. => some false
          | .nilp, .pp .. => some false
          | .ptr .., .nilp => some false
          | .pp .., .nilp => some false
          | _, _ => (none : Option Bool)) = some b → (Op.equal t (a.eval x) (a.eval y)).run P w = .ok b w ∧ ∃ A, a.eval x = .pointer A ∧ ∃ A', a.eval y = .pointer A' := by
        intro b hb
        split at hb <;> first | (cases hb; done) | skip
        · cases hb
          rw [hp1.1 rfl, hp2.1 rfl]
          exact ⟨by rw [equal_ptr hD _ _ (by simp)]; rfl, _, rfl, _, rfl⟩
        · cases hb
          obtain ⟨A, hA⟩ := hp2.2 (.inl ⟨_, _, _, rfl⟩)
          rw [hp1.1 rfl, hA]
          exact ⟨by rw [equal_ptr hD _ _ (by simp)]; rfl, _, rfl, _, rfl⟩
        · cases hb
          obtain ⟨A, hA⟩ := hp2.2 (.inr ⟨_, _, rfl⟩)
          rw [hp1.1 rfl, hA]
          exact ⟨by rw [equal_ptr hD _ _ (by simp)]; rfl, _, rfl, _, rfl⟩
        · cases hb
          obtain ⟨A, hA⟩ := hp1.2 (.inl ⟨_, _, _, rfl⟩)
          rw [hp2.1 rfl, hA]
          exact ⟨by rw [equal_ptr hD _ _ (by simp)]; rfl, _, rfl, _, rfl⟩
        · cases hb
          obtain ⟨A, hA⟩ := hp1.2 (.inr ⟨_, _, rfl⟩)
          rw [hp2.1 rfl, hA]
          exact ⟨by rw [equal_ptr hD _ _ (by simp)]; rfl, _, rfl, _, rfl⟩
      split at e4
      · simp only [Option.bind_eq_some_iff] at e4
        obtain ⟨b, hb, e4⟩ := e4
        cases e4
        obtain ⟨h1, A, h2, A', h3⟩ := key b hb
        refine ⟨.bool b, ?_, .bool _, by rw [h2]; simp⟩
        rw [h2, h3] at h1 ⊢
        simp [binOp, h1]
      · simp only [Option.bind_eq_some_iff] at e4
        obtain ⟨b, hb, e4⟩ := e4
        cases e4
        obtain ⟨h1, A, h2, A', h3⟩ := key b hb
        refine ⟨.bool (!b), ?_, .bool _, by rw [h2]; simp⟩
        rw [h2, h3] at h1 ⊢
        simp [binOp, h1]
      · cases e4
    · cases e4

end
end Go.Proofs.Ytghdpmejgonjmaa.Am

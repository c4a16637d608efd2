/- Each plain operation of the program does what the abstract machine says: addresses, cuts, lengths, conversions. -/
import Derived.Test.YtghdpmejgonjmaaAmOps4
import Derived.Lib.ConvBytes
import Derived.Laws.BytesArg
set_option linter.unusedVariables false
set_option linter.unusedSimpArgs false
namespace Go.Proofs.Ytghdpmejgonjmaa.Am
open Go

section
variable {P : Program} {n : Nat} {w0 : World} {M0 : Bool → Nat → Prop} {U : Nat → Prop} {ι : Io} {h : Hp} {fr : List (Nat × Sv)} {mem : Mem} {a : Act} {w : World}
  {c : Cfg} {callF : FuncId → List Vl → List Blk → Option (List Vl × List Blk)} {o : Oper} {nx : Nat} {e : Eff}

theorem RP.pp_add {h : Hp} {el : List At} {o' k : Nat} {v : Value} (hr : RP h (.pp el o') v) : ∃ b off, v = .pointer (some ⟨b, off, none⟩) ∧ RP h (.pp el (o' + k)) (.pointer (some ⟨b, off + k, none⟩)) := by
  cases hr with
  | pp _ _ b off C t z us hb hu hr => exact ⟨b, off + o', rfl, by rw [Nat.add_assoc]; exact .pp el (o' + k) b off C t z us hb hu hr⟩

theorem pl_fieldAddr (hT : TyOk P c.T) (hs : Sim n w0 M0 U ι h fr mem a w) {s : TypeId} {x : Operand} {f : Nat} (hop : o.op = .fieldAddr s x f) (he : stp c callF o fr mem nx = some e) :
    Plain P n w0 M0 U ι h fr mem a w nx o e := by
  simp only [stp, hop] at he
  split at he
  · rename_i fs _ hd
    simp only [Option.bind_eq_some_iff] at he
    obtain ⟨p, e1, he⟩ := he
    split at he
    · cases he
    · rename_i hp
      simp only [Option.bind_eq_some_iff] at he
      obtain ⟨y, e2, he⟩ := he
      obtain ⟨hr, hn⟩ := hs.evA e2
      obtain ⟨D, hD, ⟨F, rfl, hF1, hF2, -⟩, -⟩ := tdOf_ok hT hd
      obtain ⟨g, g1, g2, ti, g3, g4⟩ := hF2 f p e1
      have hrun : ∀ b off, a.eval x = .pointer (some ⟨b, off, none⟩) → (execOp a.eval o).run P w = .ok (.value (.pointer (some ⟨b, off + p.1, none⟩))) w := by
        intro b off hx
        have hne : ¬ ti.size = 0 := by rw [g4]; exact hp
        simp [execOp, hop, Instr.fieldAt, run_underlying hD, g1, hx, Instr.sureAddr, fieldPlace, run_sizeOf g3, hne, g2, Addr.add_mid]
      split at he
      · rename_i m i o'
        obtain ⟨L, hL, hx⟩ := hr
        refine .inl ⟨_, w, hrun _ _ hx, nx_at hs (show RA ι h (.ptr m i (o' + p.1)) _ from ⟨L, hL, by rw [Nat.add_assoc]⟩) hn he⟩
      · rename_i el o'
        obtain ⟨b, off, hx, hr'⟩ := RP.pp_add (k := p.1) hr
        exact .inl ⟨_, w, hrun _ _ hx, Nxt.valP hs he hr'⟩
      · cases he
  · cases he

theorem pl_field (hT : TyOk P c.T) (hs : Sim n w0 M0 U ι h fr mem a w) {s : TypeId} {x : Operand} {f : Nat} (hop : o.op = .field s x f) (he : stp c callF o fr mem nx = some e) :
    Plain P n w0 M0 U ι h fr mem a w nx o e := by
  simp only [stp, hop] at he
  split at he
  · rename_i fs ts hd
    simp only [Option.bind_eq_some_iff] at he
    obtain ⟨p, e1, ft, e5, y, e2, he⟩ := he
    split at he
    · rename_i cs
      simp only [Option.bind_eq_some_iff] at he
      obtain ⟨ti, e3, v, e4, he⟩ := he
      obtain ⟨hr, hn⟩ := hs.evV e2
      obtain ⟨A, hx, hl⟩ := hr
      obtain ⟨D, hD, ⟨F, rfl, hF1, hF2, hF3⟩, -⟩ := tdOf_ok hT hd
      obtain ⟨g, g1, g2, ti', g3, g4⟩ := hF2 f p e1
      have hft : g.type = ft := by
        rw [← hF3] at e5
        simpa [g1] using e5
      obtain ⟨d, hd', _, hag⟩ := (hT ft ti e3).desc
      obtain ⟨ri, hri, hrs, _⟩ := (hT ft ti e3).info
      unfold partV at e4
      have key : ∃ u, (part ft A p.1).run P w = .ok u w ∧ RV ι h v u ∧ ∀ m ∈ namesV [v], m ∈ namesV [Vl.g cs] := by
        split at e4
        · rename_i hag'
          split at e4
          · rename_i hle
            cases e4
            refine ⟨.agg (A.extract p.1 (p.1 + ti.size)), by simp [part, run_isAgg hd', hag, hag', run_sizeOf hri, hrs], ⟨_, rfl, ?_⟩, ?_⟩
            · have := (hl.drop p.1).take ti.size
              have hq : (A.extract p.1 (p.1 + ti.size)).toList = (A.toList.drop p.1).take ti.size := by
                simp [List.take_drop, Nat.add_comm]
              rw [hq]
              exact this
            · intro m hm
              simp only [namesV, Vl.cells, List.flatMap_cons, List.flatMap_nil, List.append_nil, List.mem_flatMap] at hm ⊢
              obtain ⟨x', hx', hm⟩ := hm
              exact ⟨x', List.mem_of_mem_drop (List.mem_of_mem_take hx'), hm⟩
          · cases e4
        · rename_i hag'
          simp only [Option.bind_eq_some_iff] at e4
          obtain ⟨x', hx', e4⟩ := e4
          cases e4
          obtain ⟨u, q1, q2⟩ := hl.2 _ x' hx'
          have q1' : A[p.1]? = some u := by simpa using q1
          refine ⟨u, by simp [part, run_isAgg hd', hag, hag', q1'], q2, ?_⟩
          intro m hm
          simp only [namesV, Vl.cells, List.flatMap_cons, List.flatMap_nil, List.append_nil, List.mem_flatMap] at hm ⊢
          exact ⟨x', List.mem_of_getElem? hx', hm⟩
      obtain ⟨u, k1, k2, k3⟩ := key
      refine .inl ⟨u, w, ?_, Nxt.valV hs he k2 fun m hm => hn m (k3 m hm)⟩
      rw [← hft, ← g2] at k1
      simp [execOp, hop, Instr.field, run_underlying hD, g1, hx, asAgg, k1]
    · cases he
  · cases he

theorem pl_indexAddr (hT : TyOk P c.T) (hs : Sim n w0 M0 U ι h fr mem a w) {t : TypeId} {x i : Operand} (hop : o.op = .indexAddr t x i) (he : stp c callF o fr mem nx = some e) :
    Plain P n w0 M0 U ι h fr mem a w nx o e := by
  simp only [stp, hop] at he
  split at he
  · rename_i et ht
    simp only [Option.bind_eq_some_iff] at he
    obtain ⟨te, e1, iv, e2, y, e3, he⟩ := he
    obtain ⟨hr, hn⟩ := hs.evA e3
    obtain ⟨ki, hi⟩ := hs.evI e2
    obtain ⟨D, hD, rfl, -⟩ := tdOf_ok hT ht
    obtain ⟨ti, ht1, ht2, _⟩ := (hT et te e1).info
    have hrun : ∀ b off k c', a.eval x = .slice (some ⟨b, off, none⟩) k c' → 0 ≤ iv → iv < k → (execOp a.eval o).run P w = .ok (.value (.pointer (some ⟨b, off + iv.toNat * te.size, none⟩))) w := by
      intro b off k c' hx h1 h2
      simp [execOp, hop, Instr.indexAt, run_underlying hD, hx, hi, asIntOf, run_sizeOf ht1, ht2, h1, h2, Addr.add_mid]
    split at he
    · rename_i es k els
      split at he
      · rename_i hc
        simp only [Option.bind_eq_some_iff] at he
        obtain ⟨el, e4, he⟩ := he
        have hr : RP h _ _ := hr
        generalize hx : a.eval x = q at hr
        cases hr with
        | sl0 => simp at e4
        | sl _ _ b off c' es' C t' z us hb hnl hcp hl hu hr =>
          refine .inl ⟨_, w, hrun _ _ _ _ hx hc.1 hc.2.1, Nxt.valP hs he ?_⟩
          have := RP.pp (h := h) el 0 b (off + iv.toNat * te.size) C t' z (us iv.toNat) hb
            (fun j y hy => by have := hu iv.toNat el j y e4 hy; rw [hc.2.2, ← Nat.add_assoc] at this; exact this) (fun j y hy => hr iv.toNat el j y e4 hy)
          simpa using this
      · cases he
    · rename_i m b k
      simp only [Option.bind_eq_some_iff] at he
      obtain ⟨B, e4, he⟩ := he
      split at he
      · rename_i hc
        cases he
        rcases hr with ⟨L, c', hL, hx, hcap, hkc, hmax⟩ | ⟨hL, hb, hk, hx⟩
        · have hb := hs.hmem m B e4
          unfold RB at hb
          rw [hL] at hb
          obtain ⟨C, h1, h2, h3, h4⟩ := hb
          refine .inl ⟨_, w, hrun _ _ _ _ hx hc.1 hc.2.1, Nxt.val hs ⟨L, hL, ?_⟩ ?_⟩
          · rw [h3, hc.2.2, Nat.add_mul]; simp
          · intro m' hm'
            simp [Sv.nms, namesV, Vl.cells, At.nm] at hm'
            subst hm'
            exact (hs.hnb _ B e4).1
        · subst hk; have := hc.1; have := hc.2.1; omega
      · cases he
    · cases he
  · cases he

theorem pl_index (hT : TyOk P c.T) (hs : Sim n w0 M0 U ι h fr mem a w) {t : TypeId} {x i : Operand} (hop : o.op = .index t x i) (he : stp c callF o fr mem nx = some e) :
    Plain P n w0 M0 U ι h fr mem a w nx o e := by
  simp only [stp, hop, Option.bind_eq_some_iff] at he
  obtain ⟨td, e1, y, e2, iv, e3, he⟩ := he
  split at he
  · rename_i s
    obtain ⟨D, hD, rfl, -⟩ := tdOf_ok hT e1
    obtain ⟨hr, hn⟩ := hs.evA e2
    have hx := RP.str_inv hr
    obtain ⟨ki, hi⟩ := hs.evI e3
    split at he
    · rename_i h0
      simp only [Option.bind_eq_some_iff] at he
      obtain ⟨b, e4, he⟩ := he
      refine .inl ⟨.int .u8 b.toNat, w, ?_, Nxt.valP hs he (.int _ _)⟩
      have hs' : s[iv.toNat]? = some b := by
        rw [← e4]
        rfl
      simp [execOp, hop, Instr.index, run_underlying hD, hx, hi, asIntOf, h0, hs']
    · cases he
  · cases he

theorem pl_extract (hs : Sim n w0 M0 U ι h fr mem a w) {x : Operand} {i : Nat} (hop : o.op = .extract x i) (he : stp c callF o fr mem nx = some e) : Plain P n w0 M0 U ι h fr mem a w nx o e := by
  simp only [stp, hop, Option.bind_eq_some_iff] at he
  obtain ⟨s, e1, he⟩ := he
  obtain ⟨hr, hn⟩ := hs.ev e1
  split at he
  · rename_i vs
    simp only [Option.bind_eq_some_iff] at he
    obtain ⟨v, e2, he⟩ := he
    obtain ⟨T, hx, hl⟩ := hr
    obtain ⟨u, e3, e4⟩ := hl.2 i v e2
    refine .inl ⟨u, w, ?_, Nxt.valV hs he e4 ?_⟩
    · have e3' : T[i]? = some u := by simpa using e3
      simp [execOp, hop, hx, Instr.extract, e3']
    · intro m hm
      refine hn m ?_
      simp only [Sv.nms, namesV, List.mem_flatMap] at hm ⊢
      obtain ⟨v', hv', r⟩ := hm
      simp at hv'
      subst hv'
      exact ⟨v', List.mem_of_getElem? e2, r⟩
  · cases he

theorem pl_len (hT : TyOk P c.T) (hs : Sim n w0 M0 U ι h fr mem a w) {args : Array Operand} {ats : Array TypeId} (hop : o.op = .call { callee := .builtin .len, args := args, argTypes := ats }) (he : stp c callF o fr mem nx = some e) :
    Plain P n w0 M0 U ι h fr mem a w nx o e := by
  simp only [stp, hop, Option.bind_eq_some_iff] at he
  obtain ⟨td, ⟨t, e1, e2⟩, y, ⟨x, e3, e4⟩, he⟩ := he
  obtain ⟨hr, hn⟩ := hs.evA e4
  obtain ⟨D, hD, hD', -⟩ := tdOf_ok hT e2
  have harg : (args.map a.eval)[0]? = some (a.eval x) := by simp [e3]
  have hrun : ∀ (k : Int), (Builtin.len_ ats o.type (args.map a.eval)).run P w = .ok (.int .i64 k) w → (execOp a.eval o).run P w = .ok (.value (.int .i64 k)) w := by
    intro k hk
    simp [execOp, hop, resolve, invoke, builtin, hk]
  split at he
  · have hx := RP.str_inv hr
    cases hD'
    refine .inl ⟨_, w, hrun _ ?_, Nxt.valP hs he (.int _ _)⟩
    simp [Builtin.len_, e1, e3, run_underlying hD, hx, goInt]
  · rename_i es k els
    cases hD'
    have hr : RP h _ _ := hr
    have hx : ∃ A c', a.eval x = .slice A k c' := by
      generalize a.eval x = q at hr
      cases hr <;> exact ⟨_, _, rfl⟩
    obtain ⟨A, c', hx⟩ := hx
    refine .inl ⟨_, w, hrun _ ?_, Nxt.valP hs he (.int _ _)⟩
    simp [Builtin.len_, e1, e3, run_underlying hD, hx, goInt]
  · rename_i m lo k
    cases hD'
    have hx : ∃ A c', a.eval x = .slice A k c' := by
      rcases hr with ⟨L, c', _, hx, _⟩ | ⟨_, _, hk, hx⟩
      · exact ⟨_, _, hx⟩
      · subst hk; exact ⟨_, _, hx⟩
    obtain ⟨A, c', hx⟩ := hx
    refine .inl ⟨_, w, hrun _ ?_, Nxt.valP hs he (.int _ _)⟩
    simp [Builtin.len_, e1, e3, run_underlying hD, hx, goInt]
  · cases hD'
    have hr : RP h _ _ := hr
    have hx : ∃ A c', a.eval x = .slice A 0 c' := by
      generalize a.eval x = q at hr
      cases hr
      exact ⟨_, _, rfl⟩
    obtain ⟨A, c', hx⟩ := hx
    refine .inl ⟨_, w, hrun _ ?_, Nxt.valP hs he (.int _ _)⟩
    simp [Builtin.len_, e1, e3, run_underlying hD, hx, goInt]
  · cases he

theorem run_bounds (sl : Bool) (len cap : Nat) (lo hi : Option Value) (l k : Int) (hh : match hi with | some v => ∃ q, v = .int q k ∧ 0 ≤ k ∧ k ≤ cap | none => k = len)
    (hl : match lo with | some v => ∃ q, v = .int q l ∧ 0 ≤ l ∧ l ≤ k | none => l = 0) :
    (Instr.sliceBounds sl len cap lo hi none).run P w = .ok (l.toNat, k.toNat, cap) w := by
  have hb : ∀ (v : Value) (y : Nat) (cd : BoundsCode) (q : IntKind) (i : Int), v = .int q i → 0 ≤ i → i ≤ y → (Instr.sliceBound v y cd).run P w = .ok i.toNat w := by
    intro v y cd q i hv h0 h1
    subst hv
    simp [Instr.sliceBound, asIntOf, h0, h1]
  cases hi with
  | none =>
    simp only at hh
    subst hh
    cases lo with
    | none =>
      simp only at hl
      subst hl
      simp [Instr.sliceBounds]
    | some v =>
      obtain ⟨q, hv, h0, h1⟩ := hl
      have := hb v len (if (none : Option Value).isSome then .slice3C else .sliceB) q l hv h0 h1
      simp at this
      simp [Instr.sliceBounds, this]
  | some u =>
    obtain ⟨p, hu, g0, g1⟩ := hh
    have h2 := hb u cap (if sl then .sliceAcap else .sliceAlen) p k hu g0 g1
    cases lo with
    | none =>
      simp only at hl
      subst hl
      simp [Instr.sliceBounds, h2]
    | some v =>
      obtain ⟨q, hv, h0, h1⟩ := hl
      have := hb v k.toNat (if (none : Option Value).isSome then .slice3C else .sliceB) q l hv h0 (by omega)
      simp at this
      simp [Instr.sliceBounds, h2, this]

theorem Sim.bound (hs : Sim n w0 M0 U ι h fr mem a w) {d : Nat} {o' : Option Operand} {i : Int} (e1 : boundO fr d o' = some i) :
    match o'.map a.eval with | some v => ∃ q, v = .int q i | none => i = d := by
  cases o' with
  | none => simp [boundO] at e1; simp [e1]
  | some x =>
    obtain ⟨k, hk⟩ := hs.evI (show Am.evI fr x = some i from e1)
    exact ⟨k, hk⟩

theorem pl_slice (hT : TyOk P c.T) (hs : Sim n w0 M0 U ι h fr mem a w) {t : TypeId} {x : Operand} {lo hi mx : Option Operand} (hop : o.op = .slice t x lo hi mx) (he : stp c callF o fr mem nx = some e) :
    Plain P n w0 M0 U ι h fr mem a w nx o e := by
  simp only [stp, hop] at he
  split at he
  · cases he
  · rename_i hm
    have hm : mx = none := by cases mx <;> simp at hm ⊢
    subst hm
    simp only [Option.bind_eq_some_iff] at he
    obtain ⟨td, e1, y, e2, he⟩ := he
    obtain ⟨hr, hn⟩ := hs.evA e2
    obtain ⟨D, hD, hD', -⟩ := tdOf_ok hT e1
    have mkb : ∀ (len cap : Nat) (l k : Int), boundO fr 0 lo = some l → boundO fr len hi = some k → 0 ≤ l → l ≤ k → k ≤ cap → ∀ sl, (Instr.sliceBounds sl len cap (lo.map a.eval) (hi.map a.eval) none).run P w = .ok (l.toNat, k.toNat, cap) w := by
      intro len cap l k b1 b2 h0 h1 h2 sl
      have q1 := hs.bound b1
      have q2 := hs.bound b2
      refine run_bounds sl len cap _ _ l k ?_ ?_
      · cases hx : hi.map a.eval with
        | none => rw [hx] at q2; exact q2
        | some v => rw [hx] at q2; obtain ⟨q, hq⟩ := q2; exact ⟨q, hq, by omega, h2⟩
      · cases hx : lo.map a.eval with
        | none => rw [hx] at q1; simpa using q1
        | some v => rw [hx] at q1; obtain ⟨q, hq⟩ := q1; exact ⟨q, hq, h0, h1⟩
    split at he
    · rename_i s
      cases hD'
      simp only [Option.bind_eq_some_iff] at he
      obtain ⟨l, b1, k, b2, he⟩ := he
      split at he
      · rename_i hc
        have hx := RP.str_inv hr
        have hb := mkb s.size s.size l k b1 b2 hc.1 hc.2.1 hc.2.2 false
        refine .inl ⟨_, w, ?_, Nxt.valP hs he (.str _)⟩
        simp [execOp, hop, Instr.sliceAt, Instr.slice, run_underlying hD, hx, hb]
      · cases he
    · rename_i et es k els
      cases hD'
      simp only [Option.bind_eq_some_iff] at he
      obtain ⟨te, e3, l, b1, r, b2, he⟩ := he
      split at he
      · rename_i hc
        obtain ⟨c1, c2, c3, c4⟩ := hc
        obtain ⟨ti, ht1, ht2, _⟩ := (hT et te e3).info
        have hr : RP h _ _ := hr
        generalize hx : a.eval x = q at hr
        have hcut : ∀ (A : Option Addr) (cap : Nat), k ≤ cap → a.eval x = .slice A k cap →
            (execOp a.eval o).run P w = .ok (.value (.slice (if cap = l.toNat then A else A.map (·.add (l.toNat * te.size))) (r.toNat - l.toNat) (cap - l.toNat))) w := by
          intro A cap hk hx
          have hb := mkb k cap l r b1 b2 c1 c2 (by omega) true
          simp [execOp, hop, Instr.sliceAt, Instr.slice, run_underlying hD, hx, hb, run_sizeOf ht1, ht2]
        cases hr with
        | sl0 _ A cap =>
          have hr0 : r.toNat - l.toNat = 0 := by omega
          refine .inl ⟨_, w, hcut A cap (Nat.zero_le _) hx, Nxt.valP hs he ?_⟩
          rw [hr0]
          simp
          exact .sl0 _ _ _
        | sl _ _ b off cap es' C t' z us hb hnl hcp hl hu hrr =>
          refine .inl ⟨_, w, hcut (some ⟨b, off, none⟩) cap hcp hx, Nxt.valP hs he ?_⟩
          by_cases h0 : r.toNat - l.toNat = 0
          · rw [h0]; simp; exact .sl0 _ _ _
          · rw [if_neg (by omega)]
            simp only [Option.map_some, Addr.add_mid]
            refine .sl (h := h) (r.toNat - l.toNat) ((els.drop l.toNat).take (r.toNat - l.toNat)) b (off + l.toNat * te.size) (cap - l.toNat) es C t' z (fun i j => us (l.toNat + i) j) hb (by simp; omega) (by omega) ?_ ?_ ?_
            · intro i el hi
              rw [List.getElem?_take] at hi
              split at hi
              · rw [List.getElem?_drop] at hi; exact hl _ el hi
              · cases hi
            · intro i el j y hi hj
              rw [List.getElem?_take] at hi
              split at hi
              · rw [List.getElem?_drop] at hi
                have := hu _ el j y hi hj
                rw [← this, c4, Nat.add_mul]
                congr 1
                omega
              · cases hi
            · intro i el j y hi hj
              rw [List.getElem?_take] at hi
              split at hi
              · rw [List.getElem?_drop] at hi; exact hrr _ el j y hi hj
              · cases hi
      · cases he
    · rename_i et m b k
      cases hD'
      simp only [Option.bind_eq_some_iff] at he
      obtain ⟨te, e3, B, e4, l, b1, r, b2, he⟩ := he
      split at he
      · rename_i hc
        obtain ⟨c1, c2, c3, c4, c5, c6⟩ := hc
        cases he
        obtain ⟨ti, ht1, ht2, _⟩ := (hT et te e3).info
        have hbk := hs.hmem m B e4
        unfold RB at hbk
        have hun : U m := (hs.hnb m B e4).1
        rcases hr with ⟨L, cap, hL, hx, hcap, hkc, hmax⟩ | ⟨hL, hb0, hk0, hx⟩
        · rw [hL] at hbk
          obtain ⟨C, h1, h2, h3, h4⟩ := hbk
          have hlen : B.els.length ≤ b + cap := by
            rcases Nat.eq_zero_or_pos B.els.length with h0 | h0
            · omega
            · have hi : B.els[B.els.length - 1]? = some B.els[B.els.length - 1] := List.getElem?_eq_getElem (by omega)
              obtain ⟨q1, q2⟩ := h4 _ _ hi
              have hj : (B.els[B.els.length - 1])[B.es - 1]? = some ((B.els[B.els.length - 1])[B.es - 1]'(by rw [q1]; omega)) := List.getElem?_eq_getElem _
              obtain ⟨u, q3, _⟩ := q2 _ _ hj
              have q4 := (Array.getElem?_eq_some_iff.1 q3).1
              rw [h2, ← hcap, h3] at q4
              have q5 : B.els.length * B.es ≤ (b + cap) * B.es := by
                have : B.els.length * B.es = (B.els.length - 1) * B.es + B.es := by
                  rw [← Nat.succ_mul]; congr 1; omega
                omega
              exact Nat.le_of_mul_le_mul_right q5 (by omega)
          have hb := mkb k cap l r b1 b2 c1 c2 (by omega) true
          have hrun : (execOp a.eval o).run P w = .ok (.value (.slice (some ⟨L.b, (b + l.toNat) * L.es, none⟩) (r.toNat - l.toNat) (cap - l.toNat))) w := by
            have hadd : (if cap = l.toNat then some (⟨L.b, b * L.es, none⟩ : Addr) else some ⟨L.b, b * L.es + l.toNat * te.size, none⟩) = some ⟨L.b, (b + l.toNat) * L.es, none⟩ := by
              rw [Nat.add_mul, h3, c5]
              by_cases hq : cap = l.toNat
              · rw [if_pos hq]
                rcases c4 with c4 | c4
                · omega
                · have : lo = none := by cases lo <;> simp at c4 ⊢
                  subst this
                  simp [boundO] at b1
                  subst b1
                  simp
              · rw [if_neg hq]
            simp only [execOp, hop, Instr.sliceAt, Instr.slice, run_underlying hD, hx, hb, run_sizeOf ht1, ht2, Sem.run_bind, Sem.run_pure, Result.andThen_ok, Option.map_none, Option.map_some, Addr.add_mid, hadd, bind_pure_comp, Sem.run_map]
          refine .inl ⟨_, w, hrun, Nxt.val hs (.inl ⟨L, cap - l.toNat, hL, rfl, ?_, by omega, by omega⟩) ?_⟩
          · rw [← hcap]; congr 1; omega
          · intro m' hm'
            simp [Sv.nms, namesV, Vl.cells, At.nm] at hm'
            subst hm'
            exact hun
        · rw [hL] at hbk
          subst hb0
          have hk0' : k = 0 := hk0
          have : r = 0 := by rw [hbk] at c3; simp at c3; omega
          have : l = 0 := by omega
          subst this
          subst r
          have hb := mkb k 0 0 0 b1 b2 (by omega) (by omega) (by omega) true
          rw [hk0'] at hb
          refine .inl ⟨.slice none 0 0, w, ?_, Nxt.val hs (.inr ⟨hL, rfl, rfl, rfl⟩) ?_⟩
          · simp at hb
            simp [execOp, hop, Instr.sliceAt, Instr.slice, run_underlying hD, hx, hb, run_sizeOf ht1, ht2]
          · intro m' hm'
            simp [Sv.nms, namesV, Vl.cells, At.nm] at hm'
            subst hm'
            exact hun
      · cases he
    · cases he

end
end Go.Proofs.Ytghdpmejgonjmaa.Am

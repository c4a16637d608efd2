/- Calls: the caller's memory behind a call. -/
import Derived.Test.YtghdpmejgonjmaaAmCall2
set_option linter.unusedVariables false
set_option linter.unusedSimpArgs false
namespace Go.Proofs.Ytghdpmejgonjmaa.Am
open Go

theorem cnt_get {α : Type} : ∀ (l : List α) (n j : Nat), (cnt n l)[j]? = if j < l.length then some (n + j) else none := by
  intro l
  induction l with
  | nil => intro n j; simp [cnt]
  | cons x l ih =>
    intro n j
    cases j with
    | zero => simp [cnt]
    | succ j =>
      simp only [cnt, List.getElem?_cons_succ, ih, List.length_cons]
      by_cases h : j < l.length
      · rw [if_pos h, if_pos (by omega)]; congr 1; omega
      · rw [if_neg h, if_neg (by omega)]
theorem cnt_length {α : Type} : ∀ (l : List α) (n : Nat), (cnt n l).length = l.length := by
  intro l
  induction l with
  | nil => intro n; rfl
  | cons x l ih => intro n; simp [cnt, ih]

theorem cnt_mem {α : Type} {l : List α} {n m : Nat} (h : m ∈ cnt n l) : n ≤ m := by
  obtain ⟨j, hj⟩ := List.getElem?_of_mem h
  rw [cnt_get] at hj
  split at hj
  · cases hj; omega
  · cases hj
theorem cnt_nodup {α : Type} : ∀ (l : List α) (n : Nat), (cnt n l).Nodup := by
  intro l
  induction l with
  | nil => intro n; exact List.nodup_nil
  | cons x l ih =>
    intro n
    refine List.nodup_cons.2 ⟨fun h => ?_, ih _⟩
    have := cnt_mem h
    omega

theorem mget_zipU : ∀ (NL : List Nat) (bs : List Blk) (m : Mem), NL.Nodup → NL.length = bs.length →
    (∀ (i k : Nat) (b : Blk), NL[i]? = some k → bs[i]? = some b → mget (updM m (zipU NL bs)) k = some b) ∧ (∀ k, k ∉ NL → mget (updM m (zipU NL bs)) k = mget m k) := by
  intro NL
  induction NL with
  | nil => intro bs m _ hl; cases bs <;> simp at hl; exact ⟨by simp, fun _ _ => rfl⟩
  | cons k0 NL ih =>
    intro bs m hn hl
    cases bs with
    | nil => simp at hl
    | cons b0 bs =>
      obtain ⟨hk, hn⟩ := List.nodup_cons.1 hn
      obtain ⟨i1, i2⟩ := ih bs (set1 m (k0, some b0)) hn (by simpa using hl)
      simp only [zipU, updM]
      constructor
      · intro i k b hi hb
        cases i with
        | zero =>
          simp at hi hb
          subst hi
          subst hb
          rw [i2 k0 hk, mget_set1, if_pos rfl]
        | succ i =>
          simp at hi hb
          exact i1 i k b hi hb
      · intro k hkn
        rw [List.mem_cons, not_or] at hkn
        rw [i2 k hkn.2, mget_set1, if_neg (Ne.symm hkn.1)]

section
variable {P : Program} {n : Nat} {w0 : World} {M0 : Bool → Nat → Prop} {U : Nat → Prop} {ι ι' : Io} {h h1 h2 : Hp} {fr : List (Nat × Sv)} {mem mem1 : Mem} {a : Act} {w w' : World}
  {c : Cfg} {callF : FuncId → List Vl → List Blk → Option (List Vl × List Blk)} {o : Oper} {nx : Nat} {e : Eff}

theorem Sim.after (hs : Sim n w0 M0 U ι h1 fr mem1 a w) {N : List Nat} (hN : N.Nodup) {blks : List Blk} (hbl : blks.length = N.length)
    (hfz : ∀ (i : Nat) (B : Blk), blks[i]? = some B → ∃ m B1, N[i]? = some m ∧ mget mem1 m = some B1 ∧ B.fz = B1.fz) {rs : List Vl} {bs bsR : List Blk} {us : List Value}
    (hp : Post (fun j => (N[j]?).bind ι) h1 w blks rs bs us w' ι' h2) (hf : ∀ m, nx ≤ m → m < nx + (bs.length - N.length) → ¬ U m)
    (e : mapO (renB (fun i => (N ++ cnt nx (bs.drop N.length))[i]?)) bs = some bsR) :
    ∃ ι2 : Io, (∀ m, ¬ (nx ≤ m ∧ m < nx + (bs.length - N.length)) → ι2 m = ι m) ∧ (∀ (i m : Nat), (N ++ cnt nx (bs.drop N.length))[i]? = some m → ι2 m = ι' i) ∧
      Sim n w0 M0 (fun m => U m ∨ (nx ≤ m ∧ m < nx + (bs.length - N.length))) ι2 h2 fr (updM mem1 (zipU (N ++ cnt nx (bs.drop N.length)) bsR)) a w' ∧
      (∀ (i m : Nat), (N ++ cnt nx (bs.drop N.length))[i]? = some m → U m ∨ (nx ≤ m ∧ m < nx + (bs.length - N.length))) := by
  have hNU : ∀ (i m : Nat), N[i]? = some m → U m := by
    intro i m hi
    have hlt : i < blks.length := by
      rw [hbl]
      rcases Nat.lt_or_ge i N.length with h' | h'
      · exact h'
      · rw [List.getElem?_eq_none (by omega)] at hi; cases hi
    obtain ⟨m', B1, g1, g2, _⟩ := hfz i _ (List.getElem?_eq_getElem hlt)
    rw [hi] at g1; cases g1
    exact (hs.hnb m B1 g2).1
  have hle : N.length ≤ bs.length := by rw [← hbl]; exact hp.len
  have hNL : ∀ i, (N ++ cnt nx (bs.drop N.length))[i]? = if i < N.length then N[i]? else if i < bs.length then some (nx + (i - N.length)) else none := by
    intro i
    rw [List.getElem?_append]
    by_cases hi : i < N.length
    · rw [if_pos hi, if_pos hi]
    · rw [if_neg hi, if_neg hi, cnt_get, List.length_drop]
      by_cases h2 : i < bs.length
      · rw [if_pos (by omega), if_pos h2]
      · rw [if_neg (by omega), if_neg h2]
  have hlenNL : (N ++ cnt nx (bs.drop N.length)).length = bs.length := by rw [List.length_append, cnt_length, List.length_drop]; omega
  have hR := mapO_some e
  have hcase : ∀ (i m : Nat), (N ++ cnt nx (bs.drop N.length))[i]? = some m → (i < N.length ∧ N[i]? = some m) ∨ (N.length ≤ i ∧ i < bs.length ∧ m = nx + (i - N.length)) := by
    intro i m hi
    rw [hNL] at hi
    split at hi
    · exact .inl ⟨‹_›, hi⟩
    · split at hi
      · cases hi; exact .inr ⟨by omega, ‹_›, rfl⟩
      · cases hi
  have hnodup : (N ++ cnt nx (bs.drop N.length)).Nodup := by
    rw [List.nodup_append]
    refine ⟨hN, ?_, ?_⟩
    · exact cnt_nodup _ _
    · intro x hx y hy hxy
      subst hxy
      obtain ⟨i, hi⟩ := List.getElem?_of_mem hx
      obtain ⟨j, hj⟩ := List.getElem?_of_mem hy
      rw [cnt_get] at hj
      split at hj
      · rename_i hlt
        rw [List.length_drop] at hlt
        cases hj
        exact hf (nx + j) (by omega) (by omega) (hNU i _ hi)
      · cases hj
  obtain ⟨z1, z2⟩ := mget_zipU _ bsR mem1 hnodup (by rw [hlenNL, hR.1])
  let ι2 : Io := fun m => if nx ≤ m ∧ m < nx + (bs.length - N.length) then ι' (N.length + (m - nx)) else ι m
  have hι2 : ∀ m, ¬ (nx ≤ m ∧ m < nx + (bs.length - N.length)) → ι2 m = ι m := fun m hm => if_neg hm
  have hιU : ∀ m, U m → ι2 m = ι m := fun m hm => hι2 m fun hq => hf m hq.1 hq.2 hm
  have hιN : ∀ (i m : Nat), (N ++ cnt nx (bs.drop N.length))[i]? = some m → ι2 m = ι' i := by
    intro i m hi
    rcases hcase i m hi with ⟨h', h''⟩ | ⟨h', h'', rfl⟩
    · rw [hιU m (hNU i m h''), hp.same i (by omega)]
      simp [h'']
    · show (if _ then _ else _) = _
      rw [if_pos (by omega)]
      congr 1
      omega
  have hUn : ∀ (i m : Nat), (N ++ cnt nx (bs.drop N.length))[i]? = some m → U m ∨ (nx ≤ m ∧ m < nx + (bs.length - N.length)) := by
    intro i m hi
    rcases hcase i m hi with ⟨h', h''⟩ | ⟨h', h'', rfl⟩
    · exact .inl (hNU i m h'')
    · exact .inr (by omega)
  -- what a name's block is, behind the call
  have hk : ∀ x B, mget (updM mem1 (zipU (N ++ cnt nx (bs.drop N.length)) bsR)) x = some B →
      (∃ (i : Nat) (B' : Blk), (N ++ cnt nx (bs.drop N.length))[i]? = some x ∧ bs[i]? = some B' ∧ renB (fun i => (N ++ cnt nx (bs.drop N.length))[i]?) B' = some B) ∨ (x ∉ (N ++ cnt nx (bs.drop N.length)) ∧ mget mem1 x = some B) := by
    intro x B hx
    by_cases hm : x ∈ (N ++ cnt nx (bs.drop N.length))
    · obtain ⟨i, hi⟩ := List.getElem?_of_mem hm
      have hlt : i < bs.length := by
        rcases hcase i x hi with ⟨h', _⟩ | ⟨_, h', _⟩ <;> omega
      obtain ⟨B'', q1, q2⟩ := hR.2 i _ (List.getElem?_eq_getElem hlt)
      have := z1 i x B'' hi q1
      rw [hx] at this
      cases this
      exact .inl ⟨i, _, hi, List.getElem?_eq_getElem hlt, q2⟩
    · rw [z2 x hm] at hx
      exact .inr ⟨hm, hx⟩
  have hmm := hp.mm
  -- a block that was not handed over stays
  have hlent : ∀ b, Lent (fun j => (N[j]?).bind ι) blks b → ∃ m B L, mget mem1 m = some B ∧ B.fz = false ∧ ι m = some L ∧ L.b = b ∧ m ∈ N := by
    rintro b ⟨i, B, L, g1, g2, g3, rfl⟩
    obtain ⟨m, B1, q1, q2, q3⟩ := hfz i B g1
    simp only [q1, Option.bind_some] at g3
    exact ⟨m, B1, L, q2, by rw [← q3]; exact g2, g3, rfl, List.mem_of_getElem? q1⟩
  have hstay : ∀ x B L, x ∉ (N ++ cnt nx (bs.drop N.length)) → mget mem1 x = some B → ι x = some L → ¬ Lent (fun j => (N[j]?).bind ι) blks L.b := by
    intro x B L hx hB hL hq
    obtain ⟨m, B1, L1, q1, q2, q3, q4, q5⟩ := hlent _ hq
    have := hs.hinj m x B1 B L1 L q1 hB q3 hL q4
    subst this
    exact hx (List.mem_append_left _ q5)
  have hnewb : ∀ (i : Nat) (B : Blk) (L : Loc), bs[i]? = some B → N.length ≤ i → ι' i = some L → w.heap.size ≤ L.b := by
    intro i B L hi hle' l
    rcases hp.own2 i B L hi l with h' | ⟨j, B0, L0, q1, q2, q3⟩
    · exact h'
    · exfalso
      have hj : j < blks.length := by
        rcases Nat.lt_or_ge j blks.length with h' | h'
        · exact h'
        · rw [List.getElem?_eq_none (by omega)] at q1; cases q1
      have hj2 : j < bs.length := by omega
      have := hmm.inj j i _ B L0 L (List.getElem?_eq_getElem hj2) hi (by rw [hp.same j hj]; exact q2) l q3
      omega
  have hstayB : ∀ b, b < w0.heap.size → ¬ M0 false b → ¬ Lent (fun j => (N[j]?).bind ι) blks b := by
    intro b hb hM hq
    obtain ⟨m, B1, L1, q1, q2, q3, q4, q5⟩ := hlent _ hq
    rcases hs.hown m B1 L1 q1 q2 q3 with h' | h'
    · omega
    · rw [q4] at h'; exact hM h'
  refine ⟨ι2, hι2, hιN, ?_, hUn⟩
  refine { hsize := hs.hsize, hdefers := hs.hdefers, hfr := ?_, hmem := ?_, hinj := ?_, hsub := hmm.sub, hmut := ?_, hfrz := ?_, hown := ?_, hown2 := ?_, hframe := ?_, hgrow := Nat.le_trans hs.hgrow hp.grow,
           hos := hp.os.trans hs.hos, htape := hp.tape.trans hs.htape, houtput := hp.output.trans hs.houtput, hnm := ?_, hnb := ?_, hdom := ?_, hpr := ?_ }
  · intro t v e'
    obtain ⟨u, q1, q2⟩ := hs.hfr t v e'
    exact ⟨u, q1, q2.mono hp.sub fun m hm => hιU m (hs.hnm t v e' m hm)⟩
  · intro x B hx
    rcases hk x B hx with ⟨i, B', g1, g2, g3⟩ | ⟨g1, g2⟩
    · obtain ⟨d1, d2, d3, d4, d5, d6, d7, d8⟩ := renB_spec g3 (hmm.pr i B' g2)
      have hb := hmm.rb i B' g2
      unfold RB at hb ⊢
      rw [hιN i x g1]
      cases hL : ι' i with
      | none => rw [hL] at hb; exact d5.2 hb
      | some L =>
        rw [hL] at hb
        obtain ⟨C, q1, q2, q3, q4⟩ := hb
        exact ⟨C, by rw [q1, d2], q2, by rw [q3, d1], d8 q4 fun m m' hq => hιN m m' hq⟩
    · have hb := hs.hmem x B g2
      have hu := hs.hnb x B g2
      unfold RB at hb ⊢
      rw [hιU x hu.1]
      cases hL : ι x with
      | none => rw [hL] at hb; exact hb
      | some L =>
        rw [hL] at hb
        obtain ⟨C, q1, q2, q3, q4⟩ := hb
        exact ⟨C, by rw [hp.frame L.b (hs.hdom x L hL).2 (hstay x B L g1 g2 hL), q1], q2, q3, q4.mono hp.sub fun m hm => hιU m (hu.2 m hm)⟩
  · intro x y B1 B2 L1 L2 e1 e2 l1 l2 hq
    rcases hk x B1 e1 with ⟨i, B', g1, g2, g3⟩ | ⟨g1, g2⟩
    · rcases hk y B2 e2 with ⟨j, B'', k1, k2, k3⟩ | ⟨k1, k2⟩
      · rw [hιN i x g1] at l1
        rw [hιN j y k1] at l2
        have := hmm.inj i j B' B'' L1 L2 g2 k2 l1 l2 hq
        subst this
        rw [g1] at k1
        cases k1
        rfl
      · exfalso
        rw [hιN i x g1] at l1
        rw [hιU y (hs.hnb y B2 k2).1] at l2
        rcases hcase i x g1 with ⟨h', h''⟩ | ⟨h', h'', rfl⟩
        · rw [hp.same i (by omega)] at l1
          simp only [h'', Option.bind_some] at l1
          obtain ⟨m', B3, q1, q2, _⟩ := hfz i _ (List.getElem?_eq_getElem (by omega : i < blks.length))
          rw [h''] at q1; cases q1
          have := hs.hinj x y B3 B2 L1 L2 q2 k2 l1 l2 hq
          subst this
          exact k1 (List.mem_of_getElem? g1)
        · have hlt := (hs.hdom y L2 l2).2
          have := hnewb _ B' L1 g2 h' l1
          omega
    · rcases hk y B2 e2 with ⟨j, B'', k1, k2, k3⟩ | ⟨k1, k2⟩
      · exfalso
        rw [hιN j y k1] at l2
        rw [hιU x (hs.hnb x B1 g2).1] at l1
        rcases hcase j y k1 with ⟨h', h''⟩ | ⟨h', h'', rfl⟩
        · rw [hp.same j (by omega)] at l2
          simp only [h'', Option.bind_some] at l2
          obtain ⟨m', B3, q1, q2, _⟩ := hfz j _ (List.getElem?_eq_getElem (by omega : j < blks.length))
          rw [h''] at q1; cases q1
          have := hs.hinj x y B1 B3 L1 L2 g2 q2 l1 l2 hq
          subst this
          exact g1 (List.mem_of_getElem? k1)
        · have hlt := (hs.hdom x L1 l1).2
          have := hnewb _ B'' L2 k2 h' l2
          omega
      · rw [hιU x (hs.hnb x B1 g2).1] at l1
        rw [hιU y (hs.hnb y B2 k2).1] at l2
        exact hs.hinj x y B1 B2 L1 L2 g2 k2 l1 l2 hq
  · intro x B L e1 hz l
    rcases hk x B e1 with ⟨i, B', g1, g2, g3⟩ | ⟨g1, g2⟩
    · obtain ⟨d1, d2, d3, d4, d5, d6, d7, d8⟩ := renB_spec g3 (hmm.pr i B' g2)
      rw [hιN i x g1] at l
      exact hmm.mut' i B' L g2 (by rw [← d4]; exact hz) l
    · rw [hιU x (hs.hnb x B g2).1] at l
      rw [hp.view L.b (hs.hdom x L l).2 (hstay x B L g1 g2 l)]
      exact hs.hmut x B L g2 hz l
  · intro x B L e1 hz l
    rcases hk x B e1 with ⟨i, B', g1, g2, g3⟩ | ⟨g1, g2⟩
    · obtain ⟨d1, d2, d3, d4, d5, d6, d7, d8⟩ := renB_spec g3 (hmm.pr i B' g2)
      rw [hιN i x g1] at l
      exact hmm.frz i B' L g2 (by rw [← d4]; exact hz) l
    · rw [hιU x (hs.hnb x B g2).1] at l
      rw [hp.view L.b (hs.hdom x L l).2 (hstay x B L g1 g2 l), hp.frame L.b (hs.hdom x L l).2 (hstay x B L g1 g2 l)]
      exact hs.hfrz x B L g2 hz l
  · intro x B L e1 hz l
    rcases hk x B e1 with ⟨i, B', g1, g2, g3⟩ | ⟨g1, g2⟩
    · obtain ⟨d1, d2, d3, d4, d5, d6, d7, d8⟩ := renB_spec g3 (hmm.pr i B' g2)
      rw [hιN i x g1] at l
      rcases hp.own i B' L g2 (by rw [← d4]; exact hz) l with h' | h'
      · exact .inl (Nat.le_trans hs.hgrow h')
      · obtain ⟨m, B1, L1, q1, q2, q3, q4, q5⟩ := hlent _ h'
        rw [← q4]
        exact hs.hown m B1 L1 q1 q2 q3
    · rw [hιU x (hs.hnb x B g2).1] at l
      exact hs.hown x B L g2 hz l
  · intro x B L e1 l
    rcases hk x B e1 with ⟨i, B', g1, g2, g3⟩ | ⟨g1, g2⟩
    · rw [hιN i x g1] at l
      rcases hp.own2 i B' L g2 l with h' | ⟨j, B0, L0, q1, q2, q3⟩
      · exact .inl (Nat.le_trans hs.hgrow h')
      · obtain ⟨m, B1, r1, r2, _⟩ := hfz j B0 q1
        simp only [r1, Option.bind_some] at q2
        rw [← q3]
        exact hs.hown2 m B1 L0 r2 q2
    · rw [hιU x (hs.hnb x B g2).1] at l
      exact hs.hown2 x B L g2 l
  · intro b hb hM
    rw [hp.frame b (Nat.lt_of_lt_of_le hb hs.hgrow) (hstayB b hb hM)]
    exact hs.hframe b hb hM
  · intro t v e' m hm
    exact .inl (hs.hnm t v e' m hm)
  · intro x B e1
    rcases hk x B e1 with ⟨i, B', g1, g2, g3⟩ | ⟨g1, g2⟩
    · obtain ⟨d1, d2, d3, d4, d5, d6, d7, d8⟩ := renB_spec g3 (hmm.pr i B' g2)
      refine ⟨hUn i x g1, fun m' hm' => ?_⟩
      obtain ⟨m, hm, hq⟩ := d6 m' hm'
      exact hUn m m' hq
    · exact ⟨.inl (hs.hnb x B g2).1, fun m hm => .inl ((hs.hnb x B g2).2 m hm)⟩
  · intro m L l
    by_cases hm : nx ≤ m ∧ m < nx + (bs.length - N.length)
    · refine ⟨.inr hm, ?_⟩
      have l' : ι' (N.length + (m - nx)) = some L := by
        have : ι2 m = some L := l
        rw [show ι2 m = ι' (N.length + (m - nx)) from if_pos hm] at this
        exact this
      have hlt : N.length + (m - nx) < bs.length := by omega
      exact hmm.dom _ _ L (List.getElem?_eq_getElem hlt) l'
    · rw [hι2 m hm] at l
      have := hs.hdom m L l
      exact ⟨.inl this.1, Nat.lt_of_lt_of_le this.2 hp.grow⟩
  · intro x B e1 hpB
    rcases hk x B e1 with ⟨i, B', g1, g2, g3⟩ | ⟨g1, g2⟩
    · obtain ⟨d1, d2, d3, d4, d5, d6, d7, d8⟩ := renB_spec g3 (hmm.pr i B' g2)
      exact d7 hpB
    · exact hs.hpr x B g2 hpB

end
end Go.Proofs.Ytghdpmejgonjmaa.Am

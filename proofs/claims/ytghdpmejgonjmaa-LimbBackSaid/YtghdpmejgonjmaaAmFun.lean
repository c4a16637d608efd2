/- Functions: what the machine's call says, the program's call does. -/
import Derived.Test.YtghdpmejgonjmaaAmCode
set_option linter.unusedVariables false
set_option linter.unusedSimpArgs false
namespace Go.Proofs.Ytghdpmejgonjmaa.Am
open Go

section
variable {P : Program} {n : Nat} {w0 : World} {M0 : Bool → Nat → Prop} {U : Nat → Prop} {ι ι' ι0 : Io} {h h1 h2 h0 : Hp} {fr fr' : List (Nat × Sv)} {mem mem' : Mem} {a : Act} {w w' : World} {p : Nat}
  {c : Cfg} {callF : FuncId → List Vl → List Blk → Option (List Vl × List Blk)} {o : Oper} {nx : Nat} {e : Eff}

/-- One result. -/
def resG (tmps : Array Value) : ResultVar → Sem Value
  | .tmp t => pure (tmps.getD t undef)
  | .cell a t => do loadVar t (← asAddr (tmps.getD a undef))

theorem resOf_sound (hT : TyOk P c.T) {σ : St} (hs : Sim n w0 M0 U ι h σ.fr σ.mem a w) {r : ResultVar} {v : Vl} (e : resOf c σ r = some v) :
    ∃ u, (resG a.tmps r).run P w = .ok u w ∧ RV ι h v u ∧ ∀ m ∈ namesV [v], U m := by
  cases r with
  | tmp t =>
    obtain ⟨q1, q2⟩ := hs.evV e
    exact ⟨_, rfl, q1, q2⟩
  | cell x t =>
    simp only [resOf, Option.bind_eq_some_iff] at e
    obtain ⟨ti, e1, y, e2, e⟩ := e
    obtain ⟨hr, hn⟩ := hs.evA e2
    split at e
    · rename_i m i o'
      simp only [Option.bind_eq_some_iff] at e
      obtain ⟨B, e3, el, e4, e5⟩ := e
      obtain ⟨L, hL, hx⟩ := hr
      have hb := hs.hmem m B e3
      unfold RB at hb
      rw [hL] at hb
      obtain ⟨C, h1, h2, h3, h4⟩ := hb
      obtain ⟨u, r1, r2, r3⟩ := part_sound (hT t ti e1) e5 (off := i * B.es) h1 (h4 i el e4).2
      refine ⟨u, ?_, r2, ?_⟩
      · have hx' : a.tmps.getD x undef = .pointer (some ⟨L.b, i * L.es + o', none⟩) := hx
        simp [resG, hx', asAddr, h3, r1]
      · intro m' hm'
        obtain ⟨z, hz, hm'⟩ := r3 m' hm'
        refine (hs.hnb m B e3).2 m' ?_
        simp only [Blk.nms, List.mem_flatMap]
        exact ⟨el, List.mem_of_getElem? e4, z, hz, hm'⟩
    · cases e

theorem results_sound (hT : TyOk P c.T) {fn : Func} {σ : St} (hs : Sim n w0 M0 U ι h σ.fr σ.mem a w) {rs : List Vl} (e : mapO (resOf c σ) fn.results.toList = some rs) :
    ∃ us : Array Value, (results fn a.tmps).run P w = .ok (packV us) w ∧ RVs ι h rs us.toList ∧ ∀ m ∈ namesV rs, U m := by
  have key : ∀ (l : List ResultVar) (rs : List Vl), mapO (resOf c σ) l = some rs → ∃ us : List Value, (l.mapM (resG a.tmps)).run P w = .ok us w ∧ RVs ι h rs us ∧ ∀ m ∈ namesV rs, U m := by
    intro l
    induction l with
    | nil => intro rs e; cases e; exact ⟨[], by simp, ⟨rfl, by simp⟩, by simp [namesV]⟩
    | cons r l ih =>
      intro rs e
      simp only [mapO, Option.bind_eq_some_iff] at e
      obtain ⟨v, e1, vs, e2, e⟩ := e
      cases e
      obtain ⟨u, q1, q2, q3⟩ := resOf_sound hT hs e1
      obtain ⟨us, r1, r2, r3⟩ := ih vs e2
      refine ⟨u :: us, by simp [List.mapM_cons, q1, r1], ⟨by simp [r2.1], fun j x hj => ?_⟩, fun m hm => ?_⟩
      · cases j with
        | zero => simp at hj; subst hj; exact ⟨u, rfl, q2⟩
        | succ j => simp at hj; simpa using r2.2 j x hj
      · obtain ⟨x, hx, hm2⟩ := namesV_mem.1 hm
        rcases List.mem_cons.1 hx with rfl | hx
        · exact q3 m hm2
        · exact r3 m (namesV_mem.2 ⟨x, hx, hm2⟩)
  obtain ⟨us, k1, k2, k3⟩ := key _ _ e
  refine ⟨us.toArray, ?_, by simpa using k2, k3⟩
  have : results fn a.tmps = (do let vs ← fn.results.mapM (resG a.tmps); pure (packV vs)) := by
    unfold results resG packV
    congr 1
  rw [this, Array.mapM_eq_mapM_toList]
  simp [k1]

theorem ownVs_sound : ∀ {rs : List Vl} {nx : Nat} {mem : Mem} {us : List Value}, Sim n w0 M0 (fun m => m < nx) ι h fr mem a w → RVs ι h rs us → (∀ m ∈ namesV rs, m < nx) →
    nx ≤ (ownVs nx rs).2.2 ∧ Sim n w0 M0 (fun m => m < (ownVs nx rs).2.2) ι h fr (updM mem (ownVs nx rs).2.1) a w ∧ RVs ι h (ownVs nx rs).1 us ∧ ∀ m ∈ namesV (ownVs nx rs).1, m < (ownVs nx rs).2.2 := by
  intro rs
  induction rs with
  | nil => intro nx mem us hs hr hn; exact ⟨Nat.le_refl _, hs, hr, hn⟩
  | cons x r ih =>
    intro nx mem us hs hr hn
    cases us with
    | nil => exact absurd hr.1 (by simp)
    | cons u us =>
      have hx : RV ι h x u := by obtain ⟨u', e1, e2⟩ := hr.2 0 x rfl; simp at e1; subst e1; exact e2
      have hr' : RVs ι h r us := ⟨by simpa using hr.1, fun j y e => by simpa using hr.2 (j + 1) y (by simpa using e)⟩
      have hn1 : ∀ m ∈ namesV [x], m < nx := fun m hm => hn m (namesV_mem.2 ⟨x, List.mem_cons_self .., hm⟩)
      have hn2 : ∀ m ∈ namesV r, m < nx := fun m hm => by
        obtain ⟨y, hy, hm⟩ := namesV_mem.1 hm
        exact hn m (namesV_mem.2 ⟨y, List.mem_cons_of_mem _ hy, hm⟩)
      have fin : ∀ (y : Vl) (k : Nat) (u1 : Mem), nx ≤ k → Sim n w0 M0 (fun m => m < k) ι h fr (updM mem u1) a w → RV ι h y u → (∀ m ∈ namesV [y], m < k) → ownVs nx (x :: r) = (y :: (ownVs k r).1, u1 ++ (ownVs k r).2.1, (ownVs k r).2.2) →
          nx ≤ (ownVs nx (x :: r)).2.2 ∧ Sim n w0 M0 (fun m => m < (ownVs nx (x :: r)).2.2) ι h fr (updM mem (ownVs nx (x :: r)).2.1) a w ∧ RVs ι h (ownVs nx (x :: r)).1 (u :: us) ∧ ∀ m ∈ namesV (ownVs nx (x :: r)).1, m < (ownVs nx (x :: r)).2.2 := by
        intro y k u1 hk hs1 hy hny eq
        obtain ⟨b1, b2, b3, b4⟩ := ih hs1 hr' fun m hm => Nat.lt_of_lt_of_le (hn2 m hm) hk
        rw [eq]
        refine ⟨Nat.le_trans hk b1, by simp only; rw [updM_append]; exact b2, ⟨by simp [b3.1], fun j z e => ?_⟩, fun m hm => ?_⟩
        · cases j with
          | zero => simp at e; subst e; exact ⟨u, rfl, hy⟩
          | succ j => simp at e; simpa using b3.2 j z e
        · obtain ⟨z, hz, hm2⟩ := namesV_mem.1 hm
          rcases List.mem_cons.1 hz with rfl | hz
          · exact Nat.lt_of_lt_of_le (hny m hm2) b1
          · exact b4 m (namesV_mem.2 ⟨z, hz, hm2⟩)
      cases x with
      | a x =>
        obtain ⟨a1, a2, a3, a4⟩ := ownA_sound hs (x := x) hx fun m hm => hn1 m (by simpa [namesV, Vl.cells] using hm)
        exact fin (.a (ownA nx x).1) _ _ a1 a2 a3 (fun m hm => a4 m (by simpa [namesV, Vl.cells] using hm)) rfl
      | g cs =>
        obtain ⟨A, rfl, f3⟩ := hx
        obtain ⟨a1, a2, a3, a4⟩ := ownL_sound hs f3 fun x hx m hm => hn1 m (by simp only [namesV, Vl.cells, List.flatMap_cons, List.flatMap_nil, List.append_nil, List.mem_flatMap]; exact ⟨x, hx, hm⟩)
        refine fin (.g (ownL nx cs).1) _ _ a1 a2 ⟨A, rfl, a3⟩ (fun m hm => ?_) rfl
        simp only [namesV, Vl.cells, List.flatMap_cons, List.flatMap_nil, List.append_nil, List.mem_flatMap] at hm
        obtain ⟨x, hx, hm⟩ := hm
        exact a4 x hx m hm

/-- Which blocks a function may write, and which it was handed. -/
def Handed (ι : Io) (blks : List Blk) : Bool → Nat → Prop
  | false => Lent ι blks
  | true => fun b => ∃ (j : Nat) (B0 : Blk) (L0 : Loc), blks[j]? = some B0 ∧ ι j = some L0 ∧ L0.b = b

theorem finish_sound (hT : TyOk P c.T) {f : FuncId} {fn : Func} {blks : List Blk} {σ : St} {rs : List Vl} {bs : List Blk} (e : finish c f fn blks.length σ = some (rs, bs))
    (hι : ∀ i, i < blks.length → ι0 i = ι i) (hc : Cnf n w0 (Handed ι blks) blks.length ι0 h0 σ a w) :
    a.defers = [] ∧ ∃ us : Array Value, (results fn a.tmps).run P w = .ok (packV us) w ∧ ∃ ι' h', Post ι h0 w0 blks rs bs us.toList w ι' h' := by
  obtain ⟨ι1, h, hs, hh, hp⟩ := hc
  unfold finish at e
  simp only [Option.bind_eq_some_iff] at e
  obtain ⟨rs0, e1, rs1, e2, rs2, e3, bs2, e4, e⟩ := e
  obtain ⟨us, hres, hrv, hrn⟩ := results_sound hT hs e1
  refine ⟨hs.hdefers, us, hres, ?_⟩
  generalize hN : clo (fun m => if c.mutA f = true then namesM (updM σ.mem (if c.ownR f = true then ownVs σ.nx rs0 else (rs0, [], σ.nx)).2.1) m else ptrsM (updM σ.mem (if c.ownR f = true then ownVs σ.nx rs0 else (rs0, [], σ.nx)).2.1) m) 64 (List.range blks.length ++ namesV rs1) [] = N at *
  have hNd : N.Nodup := by rw [← hN]; exact clo_nodup _ _ _ _ List.nodup_nil
  clear hN
  split at e
  · rename_i hNp
    cases e
    generalize hq : (if c.ownR f = true then ownVs σ.nx rs0 else (rs0, [], σ.nx)) = q at *
    -- the results' names
    have hown : Sim n w0 (Handed ι blks) (fun m => m < q.2.2) ι1 h σ.fr (updM σ.mem q.2.1) a w ∧ RVs ι1 h q.1 us.toList := by
      rw [← hq]
      split
      · obtain ⟨_, a2, a3, _⟩ := ownVs_sound hs hrv hrn
        exact ⟨a2, a3⟩
      · exact ⟨hs, hrv⟩
    obtain ⟨hs1, hrv1⟩ := hown
    generalize hF : ((if c.ownR f = true then [] else smnV rs0) ++ if c.mutA f = true then [] else N.flatMap (smnM (updM σ.mem q.2.1))) = F at *
    obtain ⟨h1, s1, s2, s3, s4, s5⟩ := Sim.freezeL F hs1 (Fzn.refl _)
    have hpN : blks.length ≤ N.length := by
      have := congrArg List.length hNp
      simp at this
      omega
    have hvF : c.mutA f = false → Vw ι1 (updM σ.mem q.2.1) w h1 (N.flatMap (smnM (updM σ.mem q.2.1))) := by
      intro hm
      rw [← hF] at s2
      simp only [hm] at s2
      exact fun m hm => s2 m (List.mem_append_right _ hm)
    have hvals : RVs ι1 h1 rs1 us.toList := by
      split at e2
      · cases e2; exact hrv1.mono s1 fun _ _ => rfl
      · rename_i hm
        have hq' : q = (rs0, [], σ.nx) := by rw [← hq, if_neg hm]
        subst hq'
        rw [← hF] at s2
        simp only [if_neg hm] at s2
        exact (frzVs_sound hs1 s1 (fun m hm' => s2 m (List.mem_append_left _ hm')) hrv1 e2).1
    obtain ⟨hmm, hbl, hbf⟩ := pack_sound hs1 s4 s5 s1 hNd (cv := c.mutA f) hvF e4
    have hlt : ∀ {i m : Nat}, N[i]? = some m → i < N.length := fun {i m} e => (List.getElem?_eq_some_iff.1 e).1
    refine ⟨fun j => (N[j]?).bind ι1, h1, hvals.ren e3 (fun m m' hq => by simp [idx_spec hq]), ?_, hh.sub.trans s1, by rw [hbl]; exact hpN, ?_, hmm, ?_, ?_, ?_, ?_, ?_, ?_, ?_, ?_⟩
    · intro m hm
      obtain ⟨m', _, hq⟩ := mapO_renV_nm e3 m hm
      rw [hbl]
      exact hlt (idx_spec hq)
    · intro i hi
      have : N[i]? = some i := by
        have h1 : (N.take blks.length)[i]? = (List.range blks.length)[i]? := by rw [hNp]
        rw [List.getElem?_take, if_pos hi, List.getElem?_range hi] at h1
        exact h1
      simp only [this, Option.bind_some]
      rw [hh.same i hi, hι i hi]
    · intro i B L hB hz hL
      obtain ⟨m, B1, k1, k2, k3⟩ := hbf i B hB
      simp only [k1, Option.bind_some] at hL
      exact s4.hown m B1 L k2 (by rw [← k3]; exact hz) hL
    · intro i B L hB hL
      obtain ⟨m, B1, k1, k2, k3⟩ := hbf i B hB
      simp only [k1, Option.bind_some] at hL
      exact s4.hown2 m B1 L k2 hL
    · exact s4.hframe
    · intro b hb hnl
      have hnl' : ¬ Handed ι blks false b := hnl
      rw [← hh.view b hb hnl']
      by_cases hx : ∃ m ∈ F, ∃ B L, mget (updM σ.mem q.2.1) m = some B ∧ ι1 m = some L ∧ L.b = b
      · obtain ⟨m, hm, B, L, k1, k2, rfl⟩ := hx
        rw [s2 m hm B L k1 k2]
        cases hz : B.fz with
        | false =>
          rcases hs1.hown m B L k1 hz k2 with h' | h'
          · omega
          · exact absurd h' hnl'
        | true => exact (hs1.hfrz m B L k1 hz k2).symm
      · exact s3 b fun m hm B L k1 k2 hq => hx ⟨m, hm, B, L, k1, k2, hq⟩
    · exact s4.hgrow
    · exact s4.hos
    · exact s4.htape
    · exact s4.houtput
  · cases e

theorem lk_enum {β : Type} : ∀ (l : List β) (k t : Nat), lk (enum k l) t = if k ≤ t then l[t - k]? else none := by
  intro l
  induction l with
  | nil => intro k t; simp [enum, lk]
  | cons x l ih =>
    intro k t
    simp only [enum, lk_cons, ih]
    by_cases hk : k = t
    · subst hk; simp
    · rw [if_neg hk]
      by_cases h2 : k ≤ t
      · rw [if_pos (by omega), if_pos h2]
        have : t - k = (t - (k + 1)) + 1 := by omega
        rw [this]
        rfl
      · rw [if_neg (by omega), if_neg h2]

theorem Mm.cut {bs : List Blk} (hm : Mm ι h w bs) (hι : ∀ i, i < bs.length → ι' i = ι i) : Mm ι' h w bs := by
  have hlt : ∀ {i : Nat} {B : Blk}, bs[i]? = some B → i < bs.length := fun {i B} e => (List.getElem?_eq_some_iff.1 e).1
  refine ⟨fun i B e => ?_, hm.nm, ?_, hm.sub, ?_, ?_, ?_, hm.pr⟩
  · have := hm.rb i B e
    unfold RB at this ⊢
    rw [hι i (hlt e)]
    cases hL : ι i with
    | none => rw [hL] at this; exact this
    | some L =>
      rw [hL] at this
      obtain ⟨C, q1, q2, q3, q4⟩ := this
      exact ⟨C, q1, q2, q3, q4.mono (Sub.refl h) fun m hm' => hι m (hm.nm i B e m hm')⟩
  · intro i j B B' L L' e e' l l'
    rw [hι i (hlt e)] at l
    rw [hι j (hlt e')] at l'
    exact hm.inj i j B B' L L' e e' l l'
  · intro i B L e hz l; rw [hι i (hlt e)] at l; exact hm.mut' i B L e hz l
  · intro i B L e hz l; rw [hι i (hlt e)] at l; exact hm.frz i B L e hz l
  · intro i B L e l; rw [hι i (hlt e)] at l; exact hm.dom i B L e l

/-- What the tables must be. -/
structure CfgOk (P : Program) (c : Cfg) : Prop where
  ty : TyOk P c.T
  fn : ∀ f fn, c.F f = some fn → P.funcs[f]? = some fn ∧ (fn.name == "runtime.NumGoroutine") = false
  ext : ∀ f g args rs, c.X f = some g → g args = some rs → Enters P f ∧ ∀ (w : World) (ι : Io) (h : Hp) (vals : Array Value), RVs ι h args vals.toList → (∀ m ∈ namesV args, m < 0) → Mm ι h w [] →
    Calls P f vals w fun e w' => ∃ (us : Array Value) (ι' : Io) (h' : Hp), e = .returned (packV us) ∧ Post ι h w [] rs [] us.toList w' ι' h'
  mo : P.follows .mixedOrders = true

theorem call_sound (hk : CfgOk P c) : ∀ k, CallOk P (call c k) := by
  intro k
  induction k with
  | zero => intro f args blks rs bs e; cases e
  | succ k ih =>
    intro f args blks rs bs e
    simp only [call] at e
    cases hX : c.X f with
    | some g =>
      rw [hX] at e
      simp only at e
      split at e
      · rename_i hb
        have hb : blks = [] := by simpa using hb
        subst hb
        simp only [Option.bind_eq_some_iff] at e
        obtain ⟨rs', e1, e⟩ := e
        cases e
        obtain ⟨x1, x2⟩ := hk.ext f g args rs hX e1
        exact ⟨x1, fun w ι h vals hv hn hm => x2 w ι h vals hv hn hm⟩
      · cases e
    | none =>
      rw [hX] at e
      simp only [Option.bind_eq_some_iff] at e
      obtain ⟨fn, e1, e⟩ := e
      obtain ⟨hf, hname⟩ := hk.fn f fn e1
      cases hbody : fn.body with
      | none => rw [hbody] at e; cases e
      | some body =>
        rw [hbody] at e
        simp only [bodyK] at e
        split at e
        · rename_i hlen
          refine ⟨⟨fn, hf, hname, by rw [hbody]; rfl⟩, fun w ι h vals hv hn hm => ?_⟩
          refine calls_of_wp hf hbody ?_
          have hvs : vals.size = args.length := by have := hv.1; simpa using this.symm
          let ι0 : Io := fun m => if m < blks.length then ι m else none
          have hι0 : ∀ i, i < blks.length → ι0 i = ι i := fun i hi => if_pos hi
          have hsim : Cnf fn.ntmps w (Handed ι blks) blks.length ι0 h { fr := enum 0 (args.map Sv.v), mem := enum 0 (blks.map some), nx := blks.length } { tmps := vals ++ Array.replicate (fn.ntmps - vals.size) undef, defers := [] } w := by
            refine ⟨ι0, h, (hm.cut hι0).sim ?_ ?_ rfl ?_ ?_ ?_ (fun _ _ _ => rfl) (Nat.le_refl _) rfl rfl rfl ?_, ⟨Sub.refl h, fun _ _ => rfl, fun _ _ _ => rfl⟩, Nat.le_refl _⟩
            · intro i L hL
              by_cases hi : i < blks.length
              · exact hi
              · have : ι0 i = none := if_neg hi
                rw [this] at hL; cases hL
            · simp [hvs]; omega
            · intro t v hl
              simp only at hl
              rw [lk_enum] at hl
              simp only [Nat.zero_le, if_true, Nat.sub_zero, List.getElem?_map, Option.map_eq_some_iff] at hl
              obtain ⟨x, hx, rfl⟩ := hl
              obtain ⟨u, g1, g2⟩ := hv.2 t x hx
              have hnx : ∀ m ∈ namesV [x], m < blks.length := fun m hm' => hn m (namesV_mem.2 ⟨x, List.mem_of_getElem? hx, hm'⟩)
              refine ⟨u, ?_, g2.mono (Sub.refl h) (fun y hy m hm' => hι0 m (hnx m (by simp only [namesV, List.flatMap_cons, List.flatMap_nil, List.append_nil, List.mem_flatMap]; exact ⟨y, hy, hm'⟩))), hnx⟩
              have g1' : vals[t]? = some u := by simpa using g1
              simp only
              rw [Array.getElem?_append_left (Array.getElem?_eq_some_iff.1 g1').1]
              exact g1'
            · intro i B L e1 hz hL
              exact .inr ⟨i, B, L, e1, hz, by rw [← hι0 i (List.getElem?_eq_some_iff.1 e1).1]; exact hL, rfl⟩
            · intro i B L e1 hL
              exact .inr ⟨i, B, L, e1, by rw [← hι0 i (List.getElem?_eq_some_iff.1 e1).1]; exact hL, rfl⟩
            · intro m
              unfold mget
              simp only
              rw [lk_enum]
              simp only [Nat.zero_le, if_true, Nat.sub_zero, List.getElem?_map]
              cases blks[m]? <;> rfl
          cases hr : runC c (call c k) (c.keep f) fn.ntmps k blks.length 0 body { fr := enum 0 (args.map Sv.v), mem := enum 0 (blks.map some), nx := blks.length } with
          | none => rw [hr] at e; cases e
          | some out =>
            rw [hr] at e
            refine runC_sound hk.ty ih hk.mo body 0 _ out _ _ _ hr hsim fun a' w' hc' => ?_
            cases out with
            | norm σ =>
              obtain ⟨d1, us, d2, ι', h', d3⟩ := finish_sound hk.ty e hι0 hc'
              exact ⟨d1, _, d2, us, ι', h', rfl, d3⟩
            | ret σ =>
              obtain ⟨d1, us, d2, ι', h', d3⟩ := finish_sound hk.ty e hι0 hc'
              exact ⟨d1, _, d2, us, ι', h', rfl, d3⟩
            | exit i σ => cases e
        · cases e

end
end Go.Proofs.Ytghdpmejgonjmaa.Am

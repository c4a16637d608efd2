/- What the typed machine says the abstract machine says: append, calls, every operation. -/
import Derived.Test.YtlnailgfialgnaaGreatDoorMA2
import Derived.KernelRfl
import Derived.Lib.Bytealg
import Derived.Test.YtlnailgfialgnaaGreatDoorProg
import Derived.Sort.Grow
import Derived.Test.YtlnailgfialgnaaGreatDoorChecked
import Derived.Shelf.Small.Strs
import Derived.Shelf.Strings.Search3
import Derived.Shelf.Strings.Count
import Derived.Test.YtlnailgfialgnaaGreatDoorRows

set_option linter.unusedVariables false
set_option linter.unusedSimpArgs false
namespace Go.Proofs.YtlnailgfialgnaaGreatDoor.Am
open Go

def COk {R : Type} (CO : FuncId → List V2 → List Blk2 → (List V2 × List Blk2 → Option R) → Option R) (callF : FuncId → List Vl → List Blk → Option (List Vl × List Blk)) : Prop :=
 ∀ f a b, Snd (CO f a b) fun r => callF f (a.map V2.at) (b.map Blk2.at) = some (r.1.map V2.at, r.2.map Blk2.at)

section
variable {R : Type} {c : Cfg} {callF : FuncId → List Vl → List Blk → Option (List Vl × List Blk)} {CO : FuncId → List V2 → List Blk2 → (List V2 × List Blk2 → Option R) → Option R}
 {fr2 : List (Nat × Sv2)} {fr : List (Nat × Sv)} {mem : qt} {nx : Nat}

theorem qtp (t : TypeId) (s x : A2) (mem : qt) (nx : Nat) : Snd (R := R) (qrf c t s x mem nx) fun e => qdu c t s.at x.at mem.at nx = some e.at := by
 intro K r e
 unfold qrf at e
 unfold qdu
 split at e
 ·rename_i el htd
  simp only [Option.bind_eq_some_iff] at e
  obtain ⟨te, hte, e⟩ := e
  split at e
  ·rename_i hst
   obtain ⟨src, rd, e', hsrc⟩ := qpR _ _ _ _ _ e
   clear e
   have e := e'
   clear e'
   have hlen : src.rows.length = src.len := by cases src <;> simp [Src.rows, Src.len]
   simp only [htd, hte, Option.bind_some, hsrc]
   cases s <;> simp only [] at e
   case snil es' ty' =>
    split at e
    ·simp only [Option.bind_eq_some_iff] at e
     obtain ⟨d, hd, e⟩ := e
     refine ⟨_, e, ?_⟩
     simp only [A2.at, Option.bind_some, Src.len, Src.rows]
     refine (if_pos ⟨by simp, hst⟩).trans ?_
     simp [Eff2.at, qt.at, oAt, Blk2.at, Bd.rows, Bd.ents, Sv2.at, V2.at, A2.at]
    ·rename_i d l
     split at e
     ·rename_i hb
      refine ⟨_, e, ?_⟩
      simp only [A2.at, Option.bind_some, Src.len, Src.rows]
      refine (if_pos ⟨by simpa using hb, hst⟩).trans ?_
      simp [Eff2.at, qt.at, oAt, Blk2.at, Bd.rows, Bd.ents, Sv2.at, V2.at, A2.at]
     ·cases e
   case sm m lo n =>
    simp only [Option.bind_eq_some_iff] at e
    obtain ⟨b, hb, e⟩ := e
    split at e
    ·rename_i d l hbd
     split at e
     ·rename_i hc
      split at e
      ·rename_i hlo
       subst hlo
       split at e
       ·rename_i hn
        have hrows : b.at.els = l.map d.at := by simp [Blk2.at, hbd, Bd.rows, Bd.ents]
        simp only [A2.at, qaH, hb, Option.map_some, Option.bind_some, hrows, List.length_map]
        rw [if_pos (show (True ∧ b.at.es = te.size ∧ b.at.ty = el ∧ n ≤ l.length ∧ (!b.at.fz) = true) from ⟨trivial, hc.1, hc.2.1, hn, by have := hc.2.2.1; simp [Blk2.at, this]⟩) ]
        have hpr : b.at.pr = true := hc.2.2.2
        simp only [Option.bind_some, hpr]
        split at e
        ·split at e
         ·rename_i hbd2
          refine ⟨_, e, ?_⟩
          simp only [Src.len, Src.rows]
          refine (if_pos ⟨by simpa using hbd2, hst⟩).trans ?_
          simp [Eff2.at, qt.at, oAt, Blk2.at, Bd.rows, Bd.ents, Sv2.at, V2.at, A2.at, List.map_take]
         ·cases e
        ·rename_i d' l'
         simp only [Option.bind_eq_some_iff] at e
         obtain ⟨l2, hl2, e⟩ := e
         obtain ⟨hdd, rfl⟩ := qhZ hl2
         subst hdd
         split at e
         ·rename_i hbd2
          refine ⟨_, e, ?_⟩
          simp only [Src.len, Src.rows]
          refine (if_pos ⟨by simpa using hbd2, hst⟩).trans ?_
          simp [Eff2.at, qt.at, oAt, Blk2.at, Bd.rows, Bd.ents, Sv2.at, V2.at, A2.at, List.map_take]
         ·cases e
       ·cases e
      ·cases e
     ·cases e
    ·cases e
   all_goals cases e
  ·cases e
 ·cases e

theorem qtq (f : FuncId) (mem : qt) (args : List V2) : Snd (R := R) (fun K => if c.mutA f then K args else qf0 (qiJ c mem) args K) fun vals => (if c.mutA f then some (args.map V2.at) else qo (qel mem.at) (args.map V2.at)) = some (vals.map V2.at) := by
 intro K r e
 simp only [] at e
 split at e
 ·rename_i h; exact ⟨_, e, by rw [if_pos h]⟩
 ·rename_i h
  obtain ⟨x, e1, h1⟩ := qeS (fun v => qkx mem v) args _ _ e
  exact ⟨x, e1, by rw [if_neg h]; exact h1⟩
theorem qpS (f : FuncId) (mem : qt) (l acc : List Nat) : clo (fun m => if c.mutA f then qdt mem.at m else qfU mem.at m) 64 l acc = clo (if c.mutA f then qb4 A2.nm mem else qb4 A2.ptrs mem) 64 l acc := by
 congr 1
 funext m
 split
 ·rw [qkL]
 ·rw [qrj]
theorem qmg (rs : List V2) : (rs.map V2.at).all (fun v => v.cells.all At.noSl) = rs.all fun v => v.cells.all A2.noSl := by
 rw [List.all_map]; congr 1; funext v
 simp only [Function.comp_def, qeC, List.all_map]
 congr 1; funext a; exact qnB a
theorem qmh {α β : Type} (f : α → β) (l : List α) : (l.map f).isEmpty = l.isEmpty := by cases l <;> rfl

theorem qjg : ∀ (c : Cd), qhV c = true → ∀ x : c.D, (c.at x).all At.noSl = true
 | .int _, _, _ => rfl
 | .bool, _, _ => rfl
 | .str, _, _ => rfl
 | .pr a b, h, x => by
  simp only [qhV, Bool.and_eq_true] at h
  simp only [Cd.at, List.all_append, qjg a h.1, qjg b h.2, Bool.and_self]
 | .sl _, h, _ => by simp [qhV] at h
 | .ref _, h, _ => by simp [qhV] at h
theorem qrm {b : Blk2} (h : ql8 b = true) : qiC b.at = true := by
 obtain ⟨bd, es, ty, pr, fz, ar⟩ := b
 simp only [ql8, Bool.and_eq_true] at h
 obtain ⟨h1, h2⟩ := h
 cases bd with
 | arr c l =>
  simp only [qiC, Blk2.at, Bd.ents, Bd.rows, h1, List.isEmpty_nil, Bool.true_and, List.all_map, List.all_eq_true]
  intro x _
  exact qjg c h2 x
 | raw els =>
  simp only [qiC, Blk2.at, Bd.ents, Bd.rows, h1, List.isEmpty_nil, Bool.true_and, List.all_map, List.all_eq_true] at h2 ⊢
  intro e he
  simp only [Function.comp_def, List.all_map, List.all_eq_true]
  intro y hy
  rw [qnB]
  exact h2 e he y hy
 | map => simp at h2
theorem qtr {l : Bool} {N : List Nat} {rs : List V2} {bs : List Blk2} {u : qt} {r : qt} (h : qov l N rs bs u = some r) : qld l N (rs.map V2.at) (bs.map Blk2.at) u.at = some r.at := by
 unfold qov at h
 unfold qld
 cases l with
 | true =>
  simp only [if_true] at h ⊢
  split at h
  ·rename_i hq
   cases h
   simp only [Bool.and_eq_true] at hq
   rw [if_pos]
   ·rfl
   ·simp only [Bool.and_eq_true, qmg]
    refine ⟨hq.1, hq.2.1, ?_⟩
    rw [List.all_map, List.all_eq_true]
    exact fun b hb => qrm (List.all_eq_true.1 hq.2.2 b hb)
  ·cases h
 | false =>
  cases h
  simp only [Bool.false_eq_true, if_false, qmh, qmg]
  split <;> rfl

theorem qts (hC : COk CO callF) (f : FuncId) (args : List V2) (mem : qt) (nx : Nat) : Snd (qow c CO f args mem nx) fun e => qfM c callF f (args.map V2.at) mem.at nx = some e.at := by
 intro K r e
 unfold qow at e
 obtain ⟨vals, e, h1⟩ := qtq f mem args _ _ e
 obtain ⟨blks, e, h2⟩ := qeS (q := Blk2.at) (p := id) (g := fun m => (qk (qt.at _) m).bind fun b => (if c.mutA f then some b else qfT mem.at b).bind (qdr (idx _))) (fun m => qpM _ _ _ _ m) _ _ _ e
 simp only [Option.bind_eq_some_iff] at e
 obtain ⟨vals', h3, e⟩ := e
 obtain ⟨r1, e, h4⟩ := hC _ _ _ _ _ e
 simp only [Option.bind_eq_some_iff] at e
 obtain ⟨rs, h5, bs, h6, lu, h7, e⟩ := e
 refine ⟨_, e, ?_⟩
 unfold qfM
 rw [h1]
 simp only [Option.bind_some, qiu, qkv, qnC, qpS]
 rw [List.map_id, qgz, qhi] at h2
 rw [h2]
 simp only [Option.bind_some]
 have h3' := qcN (fun _ _ => qiM) h3
 rw [h3']
 simp only [Option.bind_some, h4]
 have hcn : ∀ N : List Nat, cnt nx ((r1.2.map Blk2.at).drop N.length) = cnt nx (r1.2.drop N.length) := fun N => qnD _ _ _ (by simp)
 simp only [hcn]
 have h5' := qcN (fun _ _ => qiM) h5
 have h6' := qcN (fun _ _ => qiN) h6
 rw [h5', Option.bind_some, h6', Option.bind_some]
 have h7' := qtr h7
 rw [qhi] at h7'
 rw [h7', Option.bind_some]
 simp only [Eff2.at, quq, List.length_map, qfh, qpN]

theorem qB : qt.at [] = [] := rfl
theorem qtt (els : List (List A2)) : qi9 (els.map fun e => e.map A2.at) = qli els := by
 simp only [qi9, qli, List.flatMap_map]
 congr 1; funext e
 congr 1; funext a; exact qmb a
theorem quv {d : TD} {kc : Cd} (h : qho d kc = true) (x y : kc.D) : qiB ((kc.at x).headD .nilp) ((kc.at y).headD .nilp) = kEq kc x y := by
 cases d <;> cases kc <;> simp [qho] at h <;> simp [Cd.at, qiB, kEq]
theorem qmi {d : TD} {kc : Cd} (h : qho d kc = true) (x : kc.D) : qdH d ((kc.at x).headD .nilp) = true := by
 cases d <;> cases kc <;> simp [qho] at h <;> simp [Cd.at, qdH, h]
theorem qjh {d : TD} {kc vc : Cd} (h : qho d kc = true) (x : kc.D) : ∀ l : List (kc.D × vc.D), qfV (Bd.map kc vc l).ents ((kc.at x).headD .nilp) = (qdW kc vc l x).map fun q => (q.1, (vc.at q.2).headD .nilp)
 | [] => rfl
 | p :: l => by
  have ih := qjh h x l
  simp only [Bd.ents] at ih
  simp only [Bd.ents, List.map_cons, qfV, qdW, quv h, ih]
  split
  ·rfl
  ·cases qdW kc vc l x <;> rfl
theorem qtu {d : TD} {kc vc : Cd} (h : qho d kc = true) (x : kc.D) (v : vc.D) (l : List (kc.D × vc.D)) : (Bd.map kc vc (qam kc vc l x v)).ents = qgX (Bd.map kc vc l).ents ((kc.at x).headD .nilp) ((vc.at v).headD .nilp) := by
 unfold qgX qam
 rw [qjh h]
 cases qdW kc vc l x with
 | none => simp [Bd.ents]
 | some q => simp [Bd.ents, List.map_set]
theorem qji {c : Cd} {a : A2} {x : c.D} (h : c.dec [a] = some x) : (c.at x).headD .nilp = a.at := by
 rw [← qg0 h]; rfl
theorem qtv {d : TD} {kc vc : Cd} (h : qho d kc = true) (l : List (kc.D × vc.D)) : (Bd.map kc vc l).ents.all (fun p => qdH d p.1) = true := by
 rw [List.all_eq_true]
 intro p hp
 simp only [Bd.ents, List.mem_map] at hp
 obtain ⟨q, _, rfl⟩ := hp
 exact qmi h _
theorem qsq {T : TypeId → Option TI} {t : TypeId} {mem : qt} {m : Nat} {b : Blk2} {kc vc : Cd} {l : List (kc.D × vc.D)} {d : TD} {kt et : Nat} {ka : At} (htd : qF T t = some (.mp kt et)) (h2 : qF T kt = some d) (h1 : qbM mem m = some b) (hbd : b.bd = .map kc vc l)
  (hc : qho d kc = true) (hk : qdH d ka = true) : mapM T t mem.at (.mp m) ka = some (et, m, b.at) := by
 have hall := qtv (vc := vc) hc l
 rw [← hbd] at hall
 unfold mapM
 simp only [htd, h2, Option.bind_some, qaH, h1, Option.map_some]
 rw [if_pos ⟨hk, hall⟩]
theorem qnE (t : TypeId) (a key v : A2) (mem : qt) (nx : Nat) : Snd (R := R) (qlk c t a key v mem nx) fun e => ((mapM c.T t mem.at a.at key.at).bind fun q =>
  if v.at.pr = true ∧ (!q.2.2.fz) = true then some { v := .u, upd := [(q.2.1, some { q.2.2 with mp := qgX q.2.2.mp key.at v.at })], nn := nx, rd := [q.2.1] } else none) = some e.at := by
 intro K r e
 unfold qlk at e
 split at e
 ·rename_i m
  simp only [Option.bind_eq_some_iff] at e
  obtain ⟨b, h1, e⟩ := e
  split at e
  ·rename_i kc vc l hbd
   split at e
   ·rename_i kt et htd
    simp only [Option.bind_eq_some_iff] at e
    obtain ⟨d, h2, e⟩ := e
    split at e
    ·rename_i hc
     simp only [Option.bind_eq_some_iff] at e
     obtain ⟨kx, h3, vx, h4, e⟩ := e
     refine ⟨_, e, ?_⟩
     have hk := qji h3
     have hv := qji h4
     have hpr : v.at.pr = true := by
      have hd := qg0 h4
      exact (qgd vc vx v.at (by rw [← hd]; simp)).2.2.2
     have hm : mapM c.T t mem.at (A2.mp m).at key.at = some (et, m, b.at) := qsq htd h2 h1 hbd hc.1 (by rw [← hk]; exact qmi hc.1 _)
     rw [hm, Option.bind_some, if_pos ⟨hpr, by simp [Blk2.at, hc.2]⟩]
     have hs := qtu hc.1 kx vx l
     rw [hk, hv] at hs
     simp [Eff2.at, qB, qeR, oAt, Blk2.at, hbd, Bd.rows, Sv2.at, hs]
    ·cases e
   ·cases e
  ·cases e
 ·cases e
theorem qrn (t : TypeId) (a key : A2) (ok : Bool) (mem : qt) (nx : Nat) : Snd (R := R) (qma c t a key ok mem nx) fun e => ((mapM c.T t mem.at a.at key.at).bind fun q => (c.T q.1).bind fun te =>
  if ok = false ∧ te.agg = false ∧ te.size = 1 ∧ te.zero.length = te.size then
   (match qfV q.2.2.mp key.at with | some r => some r.2 | none => te.zero[0]?).bind fun v => some { v := .v (.a v), upd := [], nn := nx, rd := [q.2.1] }
  else none) = some e.at := by
 intro K r e
 unfold qma at e
 split at e
 ·rename_i m
  simp only [Option.bind_eq_some_iff] at e
  obtain ⟨b, h1, e⟩ := e
  split at e
  ·rename_i kc vc l hbd
   split at e
   ·rename_i kt et htd
    simp only [Option.bind_eq_some_iff] at e
    obtain ⟨d, h2, e⟩ := e
    split at e
    ·rename_i hc
     simp only [Option.bind_eq_some_iff] at e
     obtain ⟨kx, h3, te, h4, e⟩ := e
     split at e
     ·rename_i hz
      simp only [Option.bind_eq_some_iff] at e
      obtain ⟨z, h5, z0, h6, e⟩ := e
      refine ⟨_, e, ?_⟩
      have hk := qji h3
      obtain ⟨q1, q2⟩ := qge h5
      have q3 := qg0 h6
      rw [q1] at q3
      have hm : mapM c.T t mem.at (A2.mp m).at key.at = some (et, m, b.at) := qsq htd h2 h1 hbd hc (by rw [← hk]; exact qmi hc _)
      have hcl : ∀ y : vc.D, ((vc.cl y).headD .nilp).at = (vc.at y).headD .nilp := by
       intro y
       rw [← qeQ]
       cases vc.cl y <;> rfl
      have hcl2 : ∀ y : vc.D, ((vc.cl y).head?.getD .nilp).at = (vc.at y).head?.getD .nilp := by
       intro y
       rw [← qeQ]
       cases vc.cl y <;> rfl
      have hf := qjh (vc := vc) hc kx l
      rw [hk, ← hbd] at hf
      simp only [hm, h4, Option.bind_some]
      rw [if_pos hz]
      have hmp : b.at.mp = b.bd.ents := rfl
      simp only [hmp, hf]
      have hz0 : te.zero[0]? = some ((vc.at z0).headD .nilp) := by
       rw [q3]
       have hl : (vc.at z0).length = 1 := by rw [← q3, hz.2.2.2, hz.2.2.1]
       match vc.at z0, hl with
       | [y], _ => rfl
      unfold qgF
      cases qdW kc vc l kx with
      | none => simp [hz0, Eff2.at, qB, Sv2.at, V2.at, hcl2]
      | some q => simp [Eff2.at, qB, Sv2.at, V2.at, hcl2]
     ·cases e
    ·cases e
   ·cases e
  ·cases e
 ·cases e
theorem qnF {x : A2} {p : Sigma Cd.D} (h : qlh x = some p) : [x.at] = p.1.at p.2 ∧ x.at.pr = true ∧ ∀ mem, qgW mem x.at = some (x.at, []) := by
 cases x <;> simp only [qlh] at h <;> first | (cases h; exact ⟨rfl, rfl, fun _ => rfl⟩) | cases h
theorem qtw {mem : qt} {x : A2} {p : Sigma Cd.D × List Nat} (h : ql5 mem x = some p) : ∃ y, qgW mem.at x.at = some (y, p.2) ∧ [y] = p.1.1.at p.1.2 := by
 cases x with
 | ptr m i o =>
  simp only [ql5, Option.bind_eq_some_iff] at h
  obtain ⟨b, h1, h⟩ := h
  split at h
  ·rename_i hp
   split at h
   ·rename_i ho
    split at h
    ·rename_i els hbd
     simp only [Option.bind_eq_some_iff] at h
     obtain ⟨e, h2, h⟩ := h
     split at h
     ·rename_i x
      simp only [Option.bind_eq_some_iff] at h
      obtain ⟨q, h3, h⟩ := h
      cases h
      obtain ⟨k1, k2, k3⟩ := qnF h3
      have h1' : qk mem.at m = some b.at := by rw [qaH, h1]; rfl
      have he : b.at.els[i]? = some [x.at] := by
       simp [Blk2.at, hbd, Bd.rows, Bd.ents, h2]
      refine ⟨.pp [x.at] o, ?_, ?_⟩
      ·simp only [A2.at, qgW, h1', Option.bind_some]
       rw [if_pos (show b.at.pr = true from hp), he]
       rfl
      ·simp only [Cd.at, ho, k1]
     ·cases h
    ·cases h
   ·cases h
  ·cases h
 | _ =>
  simp only [ql5, Option.bind_eq_some_iff] at h
  obtain ⟨q, h1, h⟩ := h
  cases h
  obtain ⟨k1, k2, k3⟩ := qnF h1
  exact ⟨_, k3 _, k1⟩
theorem qro {mem : qt} : ∀ {xs : List A2} {ps : List (Sigma Cd.D × List Nat)}, qo (ql5 mem) xs = some ps →
  ∃ ys, qo (qgW mem.at) (xs.map A2.at) = some ys ∧ ys.map (·.1) = (ps.map (·.1)).flatMap (fun p => p.1.at p.2) ∧ ys.flatMap (·.2) = ps.flatMap (·.2) := by
 intro xs
 induction xs with
 | nil => intro ps h; cases h; exact ⟨[], rfl, rfl, rfl⟩
 | cons x xs ih =>
  intro ps h
  simp only [qo, Option.bind_eq_some_iff] at h
  obtain ⟨p, h1, ps', h2, h⟩ := h
  cases h
  obtain ⟨ys, i1, i2, i3⟩ := ih h2
  obtain ⟨y, k1, k2⟩ := qtw h1
  refine ⟨(y, p.2) :: ys, ?_, ?_, ?_⟩
  ·simp only [List.map_cons, qo, k1, i1, Option.bind_some]
  ·simp only [List.map_cons, List.flatMap_cons, ← k2, i2]; rfl
  ·simp only [List.flatMap_cons, i3]
theorem quw (mem : qt) (m : Nat) (v : V2) : Snd (R := R) (qre c mem m v) fun q => arF mem.at m v.at = some (q.1.at, q.2) := by
 intro K r e
 simp only [qre, Option.bind_eq_some_iff] at e
 obtain ⟨b, h1, e⟩ := e
 have h1' : qk mem.at m = some b.at := by rw [qaH, h1]; rfl
 simp only [arF, h1', Option.bind_some]
 split at e
 ·rename_i hb
  obtain ⟨v', e, h2⟩ := qkx mem v _ _ e
  refine ⟨_, e, ?_⟩
  rw [if_pos (by exact hb), h2, Option.bind_some]
  have : qeZ [v.at] = qc9 A2.smn [v] := qkv [v]
  rw [this]
 ·rename_i hb
  exact ⟨_, e, by rw [if_neg (by exact hb)]⟩
theorem qrp (t : TypeId) (a : A2) (mem : qt) (nx : Nat) : Snd (R := R) (ql9 c t a mem nx) fun e => qez c t a.at mem.at nx = some e.at := by
 intro K r e
 unfold ql9 at e
 unfold qez
 split at e
 ·rename_i el htd
  simp only [Option.bind_eq_some_iff] at e
  obtain ⟨te, h1, z1, h2, z, h2', e⟩ := e
  obtain ⟨q1, q2⟩ := qpO h2 h2'
  simp only [htd, h1, Option.bind_some]
  split at e
  ·exact ⟨_, e, by simp [A2.at, Eff2.at, qt.at, Sv2.at]⟩
  ·rename_i m lo n
   simp only [Option.bind_eq_some_iff] at e
   obtain ⟨b, h3, e⟩ := e
   split at e
   ·rename_i d l hb
    split at e
    ·rename_i hc
     simp only [Option.bind_eq_some_iff] at e
     obtain ⟨z0, h4, e⟩ := e
     split at e
     ·rename_i hl
      refine ⟨_, e, ?_⟩
      have h4' := qg0 h4
      rw [q1] at h4'
      simp only [A2.at, qaH, h3, Option.map_some, Option.bind_some, Blk2.at, hb, Bd.rows, Bd.ents, List.length_map]
      rw [if_pos ⟨hl, hc.1, by simp [hc.2.1], by omega, hc.2.2.2⟩]
      simp [Eff2.at, qt.at, oAt, Blk2.at, Bd.rows, Bd.ents, Sv2.at, h4', List.map_take, List.map_drop]
     ·cases e
    ·cases e
   ·cases e
  ·cases e
 ·cases e
theorem FrR.gSome {fr2 : List (Nat × Sv2)} {fr : List (Nat × Sv)} (hF : FrR fr2 fr) {o : Operand} {cs : List A2} (h : qox fr2 o = some cs) : gOf fr o = some (cs.map A2.at) := by
 unfold qox at h
 split at h
 ·rename_i hh; cases h; unfold gOf; rw [hF.ev hh]; rfl
 ·cases h
theorem FrR.gNone {fr2 : List (Nat × Sv2)} {fr : List (Nat × Sv)} (hF : FrR fr2 fr) {o : Operand} {x : A2} (h : qa4 fr2 o = some x) : gOf fr o = none := by
 have := hF.evA h
 simp only [Am.evA, Option.bind_eq_some_iff] at this
 obtain ⟨v, h1, h2⟩ := this
 unfold gOf
 rw [h1]
 unfold Am.svA at h2
 split at h2
 ·rfl
 ·cases h2
theorem qpT {R : Type} : ∀ (cs ds : List A2) (K : Bool → Option R) (r : R), qhX cs ds = true → eqK cs ds K = some r → ∃ b, eqA (cs.map A2.at) (ds.map A2.at) = some b ∧ K b = some r
 | [], ds, K, r, h, e => by
  cases ds with
  | nil => exact ⟨true, rfl, e⟩
  | cons d ds => simp [qhX] at h
 | c :: cs, [], K, r, h, e => by cases c <;> simp [qhX] at h
 | c :: cs, d :: ds, K, r, h, e => by
  unfold qhX at h
  split at h
  ·rename_i h1 h2; cases h1
  ·rename_i k x r1 k2 y r2 h1 h2
   cases h1; cases h2
   split at h
   ·rename_i hk
    have hk := of_decide_eq_true hk
    subst hk
    have tot : ∃ b, eqA (cs.map A2.at) (ds.map A2.at) = some b := by
     clear e
     revert h
     generalize cs = l
     generalize ds = m
     intro h
     induction l generalizing m with
     | nil =>
      cases m with
      | nil => exact ⟨true, rfl⟩
      | cons b m => simp [qhX] at h
     | cons a l ih =>
      cases m with
      | nil => cases a <;> simp [qhX] at h
      | cons b m =>
       unfold qhX at h
       split at h
       ·rename_i h1 h2; cases h1
       ·rename_i k' x' r1 k2' y' r2 h1 h2
        cases h1; cases h2
        split at h
        ·rename_i hk'
         have hk' := of_decide_eq_true hk'
         subst hk'
         obtain ⟨b, hb⟩ := ih _ h
         exact ⟨(x' == y' && b), by simp [A2.at, eqA, hb]⟩
        ·cases h
       ·cases h
    unfold eqK at e
    by_cases hxy : x = y
    ·subst hxy
     rw [if_pos (by simp)] at e
     obtain ⟨b, b1, b2⟩ := qpT cs ds K r h e
     exact ⟨b, by simp [A2.at, eqA, b1], b2⟩
    ·rw [if_neg (by simpa using hxy)] at e
     obtain ⟨b, hb⟩ := tot
     refine ⟨false, ?_, e⟩
     have : (x == y) = false := by simpa using hxy
     simp [A2.at, eqA, hb, this]
   ·cases h
  ·cases h
theorem qux {R : Type} (op : BinOp) (ti : TI) (cs : List A2) (v : V2) (nx : Nat) (K : Eff2 → Option R) {r : R} (e : qrg op ti cs v nx K = some r) : ∃ z : Eff2, K z = some r ∧ eqG op ti (cs.map A2.at) v.at nx = some z.at := by
 unfold qrg at e
 split at e
 ·rename_i fs ts ds hd
  split at e
  ·rename_i hc
   split at e
   ·rename_i ho
    obtain ⟨b, b1, b2⟩ := qpT _ _ _ _ ho e
    unfold eqG
    simp only [hd, V2.at]
    rw [if_pos ⟨hc.1, by simpa using hc.2⟩, b1, Option.bind_some]
    split at b2
    ·exact ⟨_, b2, by simp [val, Eff2.at, qB, Sv2.at, V2.at, A2.at]⟩
    ·exact ⟨_, b2, by simp [val, Eff2.at, qB, Sv2.at, V2.at, A2.at]⟩
    ·cases b2
   ·cases e
  ·cases e
 ·cases e
theorem qpU {R : Type} : ∀ (i : Int) (cs : List A2) (K : A2 → Option R) {r : R}, qoy i cs K = some r → ∃ x, 0 ≤ i ∧ i < cs.length ∧ (cs.map A2.at)[i.toNat]? = some x.at ∧ K x = some r
 | i, [], K, r, e => by cases e
 | i, c :: cs, K, r, e => by
  unfold qoy at e
  split at e
  ·rename_i h
   subst h
   exact ⟨c, by omega, by simp only [List.length_cons]; omega, by simp, e⟩
  ·rename_i h
   obtain ⟨x, h1, h2, h3, h4⟩ := qpU (i - 1) cs K e
   refine ⟨x, by omega, by simp only [List.length_cons]; omega, ?_, h4⟩
   have : i.toNat = (i - 1).toNat + 1 := by omega
   rw [this]
   simpa using h3
theorem quy (hC : COk CO callF) (hF : FrR fr2 fr) (o : Oper) : Snd (qrh c CO o fr2 mem nx) fun e => stp c callF o fr mem.at nx = some e.at := by
 intro K r e
 obtain ⟨dst, op, type, pos, after, guard⟩ := o
 have mv : ∀ x : Operand, ((ev2 fr2 x).bind fun v =>
   match v with
   | .v (.a (.snil ..)) => match qF c.T type with
    | some (.sl e) => (c.T e).bind fun te => qc3 (.a (.snil te.size e)) nx K
    | _ => none
   | .u => none
   | v => K { v := v, upd := [], nn := nx, rd := [] }) = some r → ∃ z : Eff2, K z = some r ∧ ((ev fr x).bind fun v =>
  match v with
  | .v (.a (.snil ..)) => match qF c.T type with
   | some (.sl e) => (c.T e).bind fun te => val (.a (.snil te.size e)) nx
   | _ => none
  | .u => none
  | v => some { v := v, upd := [], nn := nx, rd := [] }) = some z.at := by
  intro x e
  simp only [Option.bind_eq_some_iff] at e
  obtain ⟨v, h1, e⟩ := e
  rw [hF.ev h1, Option.bind_some]
  split at e
  ·split at e
   ·rename_i htd
    simp only [Option.bind_eq_some_iff] at e
    obtain ⟨te, h2, e⟩ := e
    exact ⟨_, e, by simp [Sv2.at, V2.at, A2.at, htd, h2, val, Eff2.at, qB]⟩
   ·cases e
  ·cases e
  ·rename_i h2 h3
   refine ⟨_, e, ?_⟩
   cases v with
   | u => exact absurd rfl h3
   | t vs => rfl
   | v y =>
    cases y with
    | g cs => rfl
    | a z =>
     cases z with
     | snil es ty => exact absurd rfl (h2 es ty)
     | _ => rfl
 cases op <;> simp only [qrh] at e <;> simp only [stp]
 case move x => exact mv x e
 case assign x => exact mv x e
 case pick k a b =>
  simp only [Option.bind_eq_some_iff] at e
  obtain ⟨t, h1, e⟩ := e
  rw [hF.evB h1, Option.bind_some]
  split at e
  ·rename_i ht
   subst ht
   simp only [Option.bind_eq_some_iff] at e
   obtain ⟨x, h2, e⟩ := e
   exact ⟨_, e, by simp [hF.evA h2, val, Eff2.at, Sv2.at, V2.at, qB]⟩
  ·rename_i ht
   simp only [Option.bind_eq_some_iff] at e
   obtain ⟨x, h2, e⟩ := e
   exact ⟨_, e, by simp [ht, hF.evA h2, val, Eff2.at, Sv2.at, V2.at, qB]⟩
 case alloc t =>
  simp only [Option.bind_eq_some_iff] at e
  obtain ⟨ti, h1, z, h2, e⟩ := e
  obtain ⟨q1, q2⟩ := qge h2
  split at e
  ·rename_i hl
   refine ⟨_, e, ?_⟩
   rw [h1, Option.bind_some, if_neg (by have := hl.2; have := hl.1; omega)]
   simp [Eff2.at, qB, qeR, oAt, Blk2.at, Bd.rows, Bd.ents, Sv2.at, V2.at, A2.at, q1]
  ·cases e
 case box t x =>
  simp only [Option.bind_eq_some_iff] at e
  obtain ⟨ti, h1, v, h2, e⟩ := e
  split at e
  ·rename_i hl
   refine ⟨_, e, ?_⟩
   rw [h1, Option.bind_some, hF.evV h2, Option.bind_some, qeC, if_pos ⟨by simpa using hl.1, hl.2⟩]
   rw [qmf]
   simp [Eff2.at, qB, qeR, oAt, Blk2.at, Bd.rows, Bd.ents, Sv2.at, V2.at, A2.at]
  ·cases e
 case build t parts =>
  simp only [Option.bind_eq_some_iff] at e
  obtain ⟨ti, h1, e⟩ := e
  rw [h1, Option.bind_some]
  split at e
  ·rename_i fs ts hd
   simp only [Option.bind_eq_some_iff] at e
   obtain ⟨z, h2, e⟩ := e
   obtain ⟨q1, q2⟩ := qge h2
   split at e
   ·rename_i hl
    simp only [Option.bind_eq_some_iff] at e
    obtain ⟨ps, h3, cs, h4, e⟩ := e
    refine ⟨_, e, ?_⟩
    have h4' := qmd h4
    rw [q1] at h4'
    simp only [hd]
    rw [if_neg (by omega), qme hF h3, Option.bind_some, h4', Option.bind_some]
    simp [val, Eff2.at, Sv2.at, V2.at, qB]
   ·cases e
  ·rename_i na el hd
   simp only [Option.bind_eq_some_iff] at e
   obtain ⟨te, h5, z, h2, e⟩ := e
   obtain ⟨q1, q2⟩ := qge h2
   split at e
   ·rename_i hl
    simp only [Option.bind_eq_some_iff] at e
    obtain ⟨ps, h3, cs, h4, e⟩ := e
    refine ⟨_, e, ?_⟩
    have h4' := qmd h4
    rw [q1] at h4'
    simp only [hd]
    rw [h5, Option.bind_some, if_neg (by omega), qme hF h3, Option.bind_some, h4', Option.bind_some]
    simp [val, Eff2.at, Sv2.at, V2.at, qB]
   ·cases e
  ·cases e
 case buildSlice t len parts =>
  split at e
  ·rename_i el htd
   simp only [Option.bind_eq_some_iff] at e
   obtain ⟨te, h1, z, h2, ps, h3, els0, h4, e⟩ := e
   obtain ⟨q1, q2⟩ := qge h2
   obtain ⟨els, e, hz⟩ := qeS (p := List.map A2.at) (q := List.map A2.at) (fun l => qeS (fun a => qiO mem a) l) els0 _ _ e
   split at e
   ·rename_i hl
    refine ⟨_, e, ?_⟩
    have h4' := qrl h4
    rw [List.map_replicate, q1] at h4'
    simp only [htd]
    have hz' : qn4 mem.at (els0.map fun e => e.map A2.at) = some (els.map fun e => e.map A2.at) := hz
    rw [h1, Option.bind_some, qpP hF h2 h3, Option.bind_some, h4', Option.bind_some, hz', Option.bind_some, if_pos ⟨hl.1, hl.2.1, hl.2.2.1, by omega⟩]
    simp [Eff2.at, qB, qeR, qfh, oAt, Blk2.at, qoA, qoB, Sv2.at, V2.at, A2.at, qhi, qtt]
    have := qpQ els
    rw [List.all_map] at this
    simpa [Function.comp_def] using this
   ·cases e
  ·cases e
 case load t x =>
  simp only [Option.bind_eq_some_iff] at e
  obtain ⟨ti, h1, a, h2, e⟩ := e
  rw [h1, Option.bind_some, hF.evA h2, Option.bind_some]
  split at e
  ·rename_i m i o
   simp only [Option.bind_eq_some_iff] at e
   obtain ⟨b, h3, e⟩ := e
   split at e
   ·rename_i els hb
    simp only [Option.bind_eq_some_iff] at e
    obtain ⟨el, h4, v, h5, e⟩ := e
    refine ⟨_, e, ?_⟩
    simp [A2.at, qaH, h3, Blk2.at, hb, Bd.rows, Bd.ents, h4, qhC h5, Eff2.at, qB, Sv2.at]
   ·rename_i d l hb
    simp only [Option.bind_eq_some_iff] at e
    obtain ⟨el, h4, v, h5, e⟩ := e
    refine ⟨_, e, ?_⟩
    have h5' := qhC h5
    rw [qeQ] at h5'
    simp [A2.at, qaH, h3, Blk2.at, hb, Bd.rows, Bd.ents, h4, h5', Eff2.at, qB, Sv2.at]
   ·cases e
  ·rename_i d el o
   simp only [Option.bind_eq_some_iff] at e
   obtain ⟨v, h5, e⟩ := e
   refine ⟨_, e, ?_⟩
   have h5' := qhC h5
   rw [qeQ] at h5'
   simp [A2.at, h5', val, Eff2.at, qB, Sv2.at]
  ·cases e
 case store t x y =>
  simp only [Option.bind_eq_some_iff] at e
  obtain ⟨ti, h1, v, h2, a, h3, e⟩ := e
  rw [h1, Option.bind_some, hF.evV h2, Option.bind_some, hF.evA h3, Option.bind_some]
  split at e
  ·rename_i m i o
   obtain ⟨q, e, hq⟩ := quw mem m v _ _ e
   simp only [frc, Option.bind_eq_some_iff] at e
   obtain ⟨b, h4, e⟩ := e
   have h4' : qk (qw mem.at (qaK mem.at q.2)) m = some b.at := by
    rw [← qhi, ← qgz, qaH, h4]; rfl
   split at e
   ·rename_i els hb
    simp only [Option.bind_eq_some_iff] at e
    obtain ⟨el, h5, e⟩ := e
    split at e
    ·rename_i hl
     refine ⟨_, e, ?_⟩
     simp only [A2.at, hq, Option.bind_some, h4', Blk2.at, hb, Bd.rows, Bd.ents, List.getElem?_map, h5, Option.map_some, qeC, List.length_map]
     rw [if_pos ⟨hl.1, hl.2.1, by simp [hl.2.2]⟩]
     simp [Eff2.at, qB, qeR, qfh, qhi, oAt, Blk2.at, Bd.rows, Bd.ents, Sv2.at, List.map_set, qmc, Function.comp_def, qoC]
    ·cases e
   ·rename_i d l hb
    simp only [Option.bind_eq_some_iff] at e
    obtain ⟨el, h5, e⟩ := e
    split at e
    ·rename_i hl
     simp only [Option.bind_eq_some_iff] at e
     obtain ⟨el', h6, e⟩ := e
     refine ⟨_, e, ?_⟩
     have h6' := qg0 h6
     rw [qmc, qeQ] at h6'
     have hlen : o + ti.size ≤ (d.at el).length := by have := hl.2.1; rwa [← List.length_map (f := A2.at), qeQ] at this
     simp only [A2.at, hq, Option.bind_some, h4', Blk2.at, hb, Bd.rows, Bd.ents, List.getElem?_map, h5, Option.map_some, qeC, List.length_map]
     rw [if_pos ⟨hl.1, hlen, by simp [hl.2.2.1]⟩]
     simp [Eff2.at, qB, qeR, qfh, qhi, oAt, Blk2.at, Bd.rows, Bd.ents, Sv2.at, List.map_set, h6', Function.comp_def, qoC]
    ·cases e
   ·cases e
  ·cases e
 case nilCheck x =>
  simp only [Option.bind_eq_some_iff] at e
  obtain ⟨a, h1, e⟩ := e
  rw [hF.evA h1, Option.bind_some]
  split at e
  ·exact ⟨_, e, by simp [A2.at, val, Eff2.at, qB, Sv2.at, V2.at]⟩
  ·exact ⟨_, e, by simp [A2.at, val, Eff2.at, qB, Sv2.at, V2.at]⟩
  ·cases e
 case binOp op ty x y u =>
  split at e
  ·rename_i cs hg
   simp only [Option.bind_eq_some_iff] at e
   obtain ⟨ti, h1, v, h2, e⟩ := e
   rw [hF.gSome hg]
   simp only [h1, Option.bind_some, hF.evV h2]
   exact qux op ti cs v nx K e
  simp only [Option.bind_eq_some_iff] at e
  obtain ⟨a, h1, b, h2, e⟩ := e
  obtain ⟨z, e, h3⟩ := quu c.T op ty a b _ _ e
  rw [hF.gNone h1]
  exact ⟨_, e, by simp [hF.evA h1, hF.evA h2, h3, valA, val, Eff2.at, qB, Sv2.at, V2.at]⟩
 case unOp op ty x =>
  simp only [Option.bind_eq_some_iff] at e
  obtain ⟨a, h1, e⟩ := e
  obtain ⟨z, e, h3⟩ := qxu op a _ _ e
  exact ⟨_, e, by simp [hF.evA h1, h3, valA, val, Eff2.at, qB, Sv2.at, V2.at]⟩
 case convert src ds x =>
  simp only [Option.bind_eq_some_iff] at e
  obtain ⟨a, h1, e⟩ := e
  rw [hF.evA h1, Option.bind_some]
  split at e
  ·rename_i el ht1 ht2
   simp only [ht1, ht2]
   split at e
   ·rename_i ht3
    obtain ⟨s, rd, e, h2⟩ := qpR _ _ _ _ _ e
    simp only [ht3, h2, Option.bind_some]
    split at e
    ·refine ⟨_, e, ?_⟩
     simp [Src.rows, qfN, Eff2.at, qB, Sv2.at, V2.at, A2.at]
    ·rename_i l
     refine ⟨_, e, ?_⟩
     have key : ∀ l : List Int, qfN (l.map (Cd.at (.int .u8))) = some (l.map fun n : Int => n.toNat.toUInt8) := by
      intro l
      induction l with
      | nil => rfl
      | cons x l ih =>
       simp only [List.map_cons]
       show (qfN (l.map (Cd.at (.int .u8)))).bind _ = _
       rw [ih]
       rfl
     have key' := key l
     simp only [Src.rows, key', Option.bind_some, Eff2.at, qB, Sv2.at, V2.at, A2.at, List.map_nil]
    ·cases e
   ·cases e
  ·rename_i hno
   obtain ⟨z, e, h3⟩ := qto c.T src ds a _ _ e
   refine ⟨_, e, ?_⟩
   split
   ·rename_i el ht1 ht2; exact absurd ht2 (hno el ht1)
   ·simp [h3, valA, val, Eff2.at, qB, Sv2.at, V2.at]
 case makeSlice t l k =>
  split at e
  ·rename_i el htd
   simp only [Option.bind_eq_some_iff] at e
   obtain ⟨te, h1, z1, h2, z, h2', d, h3, z0, h4, l, h5, k, h6, e⟩ := e
   obtain ⟨q1, q2⟩ := qpO h2 h2'
   split at e
   ·rename_i hs
    split at e
    ·rename_i hb
     refine ⟨_, e, ?_⟩
     have h4' := qg0 h4
     rw [q1] at h4'
     simp only [htd]
     rw [h1, Option.bind_some, hF.evI h5, Option.bind_some, hF.evI h6, Option.bind_some, if_pos ⟨hb.1, hb.2.1, hb.2.2, hs.1, hs.2.1, by omega⟩]
     simp [Eff2.at, qB, qeR, oAt, Blk2.at, Bd.rows, Bd.ents, Sv2.at, V2.at, A2.at, h4']
    ·cases e
   ·cases e
  ·cases e
 case slice t x lo hi mx =>
  split at e
  ·cases e
  ·rename_i hmx
   rw [if_neg hmx]
   simp only [Option.bind_eq_some_iff] at e
   obtain ⟨td, h1, a, h2, e⟩ := e
   rw [h1, Option.bind_some, hF.evA h2, Option.bind_some]
   split at e
   ·rename_i s
    simp only [Option.bind_eq_some_iff] at e
    obtain ⟨l, h3, h, h4, e⟩ := e
    split at e
    ·rename_i hb
     refine ⟨_, e, ?_⟩
     simp only [A2.at, hF.bound h3, hF.bound h4, Option.bind_some]
     rw [if_pos hb]
     simp [val, Eff2.at, qB, Sv2.at, V2.at, A2.at]
    ·cases e
   ·rename_i el d els
    simp only [Option.bind_eq_some_iff] at e
    obtain ⟨te, h3, l, h4, h, h5, e⟩ := e
    split at e
    ·rename_i hz
     split at e
     ·rename_i hb
      refine ⟨_, e, ?_⟩
      simp only [A2.at, h3, hF.bound h4, hF.bound h5, Option.bind_some]
      rw [if_pos ⟨hb.1, hb.2.1, hb.2.2, hz⟩]
      simp only [val, Eff2.at, qB, Sv2.at, V2.at, A2.at, List.map_nil, List.map_take, List.map_drop, List.length_take, List.length_drop]
      rw [show min (h.toNat - l.toNat) (els.length - l.toNat) = h.toNat - l.toNat by omega]
     ·cases e
    ·cases e
   ·rename_i el m b n
    simp only [Option.bind_eq_some_iff] at e
    obtain ⟨te, h3, B, h4, e⟩ := e
    split at e
    ·rename_i d els hbd
     simp only [Option.bind_eq_some_iff] at e
     obtain ⟨l, h5, h, h6, e⟩ := e
     split at e
     ·rename_i hz
      split at e
      ·rename_i hb
       refine ⟨_, e, ?_⟩
       simp only [A2.at, h3, qaH, h4, Option.map_some, hF.bound h5, hF.bound h6, Option.bind_some]
       rw [if_pos ⟨hb.1, hb.2.1, by simpa [Blk2.at, hbd, Bd.rows, Bd.ents] using hb.2.2.1, hb.2.2.2, hz.1, hz.2⟩]
       simp [Eff2.at, qB, Sv2.at, V2.at, A2.at]
      ·cases e
     ·cases e
    ·rename_i els hbd
     simp only [Option.bind_eq_some_iff] at e
     obtain ⟨l, h5, h, h6, e⟩ := e
     split at e
     ·rename_i hz
      split at e
      ·rename_i hb
       refine ⟨_, e, ?_⟩
       simp only [A2.at, h3, qaH, h4, Option.map_some, hF.bound h5, hF.bound h6, Option.bind_some]
       rw [if_pos ⟨hb.1, hb.2.1, by simpa [Blk2.at, hbd, Bd.rows, Bd.ents] using hb.2.2.1, hb.2.2.2, hz.1, hz.2⟩]
       simp [Eff2.at, qB, Sv2.at, V2.at, A2.at]
      ·cases e
     ·cases e
    ·cases e
   ·cases e
 case fieldAddr s x f =>
  split at e
  ·rename_i fs ts htd
   simp only [htd]
   simp only [Option.bind_eq_some_iff] at e
   obtain ⟨p, h1, e⟩ := e
   rw [h1, Option.bind_some]
   split at e
   ·cases e
   ·rename_i h0
    rw [if_neg h0]
    simp only [Option.bind_eq_some_iff] at e
    obtain ⟨a, h2, e⟩ := e
    rw [hF.evA h2, Option.bind_some]
    split at e
    ·exact ⟨_, e, by simp [A2.at, val, Eff2.at, qB, Sv2.at, V2.at]⟩
    ·exact ⟨_, e, by simp [A2.at, val, Eff2.at, qB, Sv2.at, V2.at]⟩
    ·cases e
  ·cases e
 case field s x f =>
  split at e
  ·rename_i fs ts htd
   simp only [htd]
   simp only [Option.bind_eq_some_iff] at e
   obtain ⟨p, h1, ft, h2, v, h3, e⟩ := e
   rw [h1, Option.bind_some, h2, Option.bind_some, hF.evV h3, Option.bind_some]
   split at e
   ·simp only [Option.bind_eq_some_iff] at e
    obtain ⟨ti, h4, v', h5, e⟩ := e
    refine ⟨_, e, ?_⟩
    simp [V2.at, h4, qhC h5, val, Eff2.at, qB, Sv2.at]
   ·cases e
  ·cases e
 case indexAddr t x i =>
  split at e
  ·rename_i el htd
   simp only [Option.bind_eq_some_iff] at e
   obtain ⟨te, h1, i, h2, a, h3, e⟩ := e
   simp only [htd]
   rw [h1, Option.bind_some, hF.evI h2, Option.bind_some, hF.evA h3, Option.bind_some]
   split at e
   ·rename_i d els
    split at e
    ·rename_i hz
     split at e
     ·rename_i h0
      simp only [Option.bind_eq_some_iff] at e
      obtain ⟨y, h4, e⟩ := e
      refine ⟨_, e, ?_⟩
      have hlt : i.toNat < els.length := (List.getElem?_eq_some_iff.1 h4).1
      simp only [A2.at]
      rw [if_pos ⟨h0, by omega, hz⟩]
      simp [h4, val, Eff2.at, qB, Sv2.at, V2.at, A2.at]
     ·cases e
    ·cases e
   ·rename_i m b n
    simp only [Option.bind_eq_some_iff] at e
    obtain ⟨B, h4, e⟩ := e
    split at e
    ·rename_i hz
     split at e
     ·rename_i hb
      refine ⟨_, e, ?_⟩
      simp only [A2.at, qaH, h4, Option.map_some, Option.bind_some]
      rw [if_pos ⟨hb.1, hb.2, hz⟩]
      simp [Eff2.at, qB, Sv2.at, V2.at, A2.at]
     ·cases e
    ·cases e
   ·cases e
  ·cases e
 case index t x i =>
  split at e
  ·rename_i cs hg
   simp only [Option.bind_eq_some_iff] at e
   obtain ⟨ti, h1, i, h2, e⟩ := e
   rw [hF.gSome hg]
   simp only [h1, Option.bind_some, hF.evI h2]
   split at e
   ·rename_i n el hd
    simp only [Option.bind_eq_some_iff] at e
    obtain ⟨te, h3, e⟩ := e
    split at e
    ·rename_i hc
     obtain ⟨x, q1, q2, q3, e⟩ := qpU _ _ _ e
     refine ⟨_, e, ?_⟩
     simp only [hd, h3, Option.bind_some]
     rw [if_pos ⟨hc.1, hc.2.1, q1, by omega⟩]
     simp [q3, val, Eff2.at, qB, Sv2.at, V2.at]
    ·cases e
   ·cases e
  simp only [Option.bind_eq_some_iff] at e
  obtain ⟨td, h1, a, h2, i, h3, e⟩ := e
  rw [hF.gNone h2]
  simp only
  rw [h1, Option.bind_some, hF.evA h2, Option.bind_some, hF.evI h3, Option.bind_some]
  split at e
  ·rename_i s
   split at e
   ·rename_i h0
    simp only [Option.bind_eq_some_iff] at e
    obtain ⟨b, h4, e⟩ := e
    refine ⟨_, e, ?_⟩
    simp only [A2.at]
    rw [if_pos h0, h4]
    simp [val, Eff2.at, qB, Sv2.at, V2.at, A2.at]
   ·cases e
  ·cases e
 case extract x i =>
  simp only [Option.bind_eq_some_iff] at e
  obtain ⟨v, h1, e⟩ := e
  rw [hF.ev h1, Option.bind_some]
  split at e
  ·simp only [Option.bind_eq_some_iff] at e
   obtain ⟨y, h2, e⟩ := e
   refine ⟨_, e, ?_⟩
   simp [Sv2.at, h2, val, Eff2.at, qB]
  ·cases e
 case call k =>
  obtain ⟨callee, args, argTypes⟩ := k
  cases callee with
  | builtin bi =>
   cases bi <;> try simp only [] at e ⊢
   case len =>
    obtain ⟨td, h1, e⟩ := Option.bind_eq_some_iff.1 e
    obtain ⟨a, h2, e⟩ := Option.bind_eq_some_iff.1 e
    obtain ⟨o, h3, h4⟩ := Option.bind_eq_some_iff.1 h2
    try simp only [] at h1 h3
    rw [h1, Option.bind_some, h3, Option.bind_some, hF.evA h4, Option.bind_some]
    split at e
    all_goals first | exact ⟨_, e, by simp [A2.at, val, Eff2.at, qB, Sv2.at, V2.at]⟩ | skip
    ·obtain ⟨b, h5, e⟩ := Option.bind_eq_some_iff.1 e
     split at e
     ·rename_i hbd
      exact ⟨_, e, by simp [A2.at, qaH, h5, Blk2.at, hbd, Bd.ents, Eff2.at, qB, Sv2.at, V2.at]⟩
     ·cases e
    ·cases e
   case min =>
    obtain ⟨x, h1, e⟩ := Option.bind_eq_some_iff.1 e
    obtain ⟨y, h2, e⟩ := Option.bind_eq_some_iff.1 e
    obtain ⟨o3, h3, h3'⟩ := Option.bind_eq_some_iff.1 h1
    obtain ⟨o4, h4, h4'⟩ := Option.bind_eq_some_iff.1 h2
    try simp only [] at h3 h4
    rw [h3, Option.bind_some, hF.evA h3', Option.bind_some, h4, Option.bind_some, hF.evA h4', Option.bind_some]
    split at e
    ·rename_i hq
     rw [if_pos hq]
     cases x <;> cases y <;> first | (cases e; done) | exact ⟨_, e, by simp [qqV, A2.at, val, Eff2.at, qB, Sv2.at, V2.at]⟩
    ·cases e
   case max =>
    obtain ⟨x, h1, e⟩ := Option.bind_eq_some_iff.1 e
    obtain ⟨y, h2, e⟩ := Option.bind_eq_some_iff.1 e
    obtain ⟨o3, h3, h3'⟩ := Option.bind_eq_some_iff.1 h1
    obtain ⟨o4, h4, h4'⟩ := Option.bind_eq_some_iff.1 h2
    try simp only [] at h3 h4
    rw [h3, Option.bind_some, hF.evA h3', Option.bind_some, h4, Option.bind_some, hF.evA h4', Option.bind_some]
    split at e
    ·rename_i hq
     rw [if_pos hq]
     cases x <;> cases y <;> first | (cases e; done) | exact ⟨_, e, by simp [qqU, A2.at, val, Eff2.at, qB, Sv2.at, V2.at]⟩
    ·cases e
   case clear =>
    obtain ⟨t, h1, e⟩ := Option.bind_eq_some_iff.1 e
    obtain ⟨a, h2, e⟩ := Option.bind_eq_some_iff.1 e
    obtain ⟨o3, h3, h3'⟩ := Option.bind_eq_some_iff.1 h2
    try simp only [] at h1 h3
    rw [h1, Option.bind_some, h3, Option.bind_some, hF.evA h3', Option.bind_some]
    exact qrp _ _ _ _ _ _ e
   case append =>
    obtain ⟨t, h1, e⟩ := Option.bind_eq_some_iff.1 e
    obtain ⟨t', h2, e⟩ := Option.bind_eq_some_iff.1 e
    obtain ⟨s, h3, e⟩ := Option.bind_eq_some_iff.1 e
    obtain ⟨x, h4, e⟩ := Option.bind_eq_some_iff.1 e
    obtain ⟨o3, h3, h3'⟩ := Option.bind_eq_some_iff.1 h3
    obtain ⟨o4, h4, h4'⟩ := Option.bind_eq_some_iff.1 h4
    rw [h1, Option.bind_some, h2, Option.bind_some, h3, Option.bind_some, hF.evA h3', Option.bind_some, h4, Option.bind_some, hF.evA h4', Option.bind_some]
    split at e
    ·rename_i ht
     rw [if_pos ht]
     exact qtp _ _ _ _ _ _ _ e
    ·cases e
   all_goals cases e
  | value f =>
   simp only [] at e ⊢
   obtain ⟨a, h1, e⟩ := Option.bind_eq_some_iff.1 e
   rw [hF.evA h1, Option.bind_some]
   split at e
   ·rename_i g cs
    obtain ⟨zs, h2, e⟩ := Option.bind_eq_some_iff.1 e
    obtain ⟨z, e, h3⟩ := qts hC _ _ _ _ _ _ e
    refine ⟨z, e, ?_⟩
    simp only [A2.at]
    have h2' := qcN (p := id) (q := V2.at) (f := qhp fr2) (g := evV fr) (fun x y h => hF.evV h) h2
    rw [List.map_id] at h2'
    rw [h2', Option.bind_some]
    have hc : (cs.flatMap fun p => (p.1.cl p.2).map V2.a).map V2.at = (cs.flatMap fun p => p.1.at p.2).map Vl.a := by
     rw [List.map_flatMap, List.map_flatMap]
     congr 1; funext p
     rw [← qeQ, List.map_map, List.map_map]
     rfl
    rw [List.map_append, hc] at h3
    exact h3
   ·cases e
  | invoke => cases e
 case makeMap t r =>
  split at e
  ·rename_i hr
   rw [if_pos hr]
   split at e
   ·simp only [Option.bind_eq_some_iff] at e
    obtain ⟨kc, h1, vc, h2, e⟩ := e
    exact ⟨_, e, by simp [Eff2.at, qB, qeR, oAt, Blk2.at, Bd.rows, Bd.ents, Sv2.at, V2.at, A2.at]⟩
   ·cases e
  ·cases e
 case lookup t x k ok =>
  simp only [Option.bind_eq_some_iff] at e
  obtain ⟨a, h1, key, h2, e⟩ := e
  obtain ⟨z, e, hz⟩ := qrn t a key ok mem nx _ _ e
  exact ⟨z, e, by rw [hF.evA h1, Option.bind_some, hF.evA h2, Option.bind_some]; exact hz⟩
 case mapUpdate t x k y =>
  simp only [Option.bind_eq_some_iff] at e
  obtain ⟨a, h1, key, h2, v, h3, e⟩ := e
  obtain ⟨z, e, hz⟩ := qnE t a key v mem nx _ _ e
  exact ⟨z, e, by rw [hF.evA h1, Option.bind_some, hF.evA h2, Option.bind_some, hF.evA h3, Option.bind_some]; exact hz⟩
 case insert t x k y =>
  simp only [Option.bind_eq_some_iff] at e
  obtain ⟨a, h1, key, h2, v, h3, e⟩ := e
  obtain ⟨z, e, hz⟩ := qnE t a key v mem nx _ _ e
  exact ⟨z, e, by rw [hF.evA h1, Option.bind_some, hF.evA h2, Option.bind_some, hF.evA h3, Option.bind_some]; exact hz⟩
 case makeFunc fn first cs =>
  split at e
  ·rename_i hf
   rw [if_pos hf]
   split at e
   ·rename_i f
    simp only [Option.bind_eq_some_iff] at e
    obtain ⟨xs, h1, ps, h2, e⟩ := e
    refine ⟨_, e, ?_⟩
    have h1' := qcN (p := id) (q := A2.at) (f := qa4 fr2) (g := evA fr) (fun x y h => hF.evA h) h1
    rw [List.map_id] at h1'
    obtain ⟨ys, q0, q1, q2⟩ := qro h2
    simp only [h1', q0, Option.bind_some]
    simp [Eff2.at, Sv2.at, V2.at, A2.at, q1, q2, qhi]
   ·cases e
  ·cases e
 all_goals cases e
end

structure StR (σ2 : St2) (σ : St) : Prop where
 fr : FrR σ2.fr σ.fr
 mem : σ.mem = σ2.mem.at
 nx : σ.nx = σ2.nx
def qcS : Out2 → Out → Prop
 | .norm σ2, .norm σ => StR σ2 σ
 | .exit i σ2, .exit j σ => i = j ∧ StR σ2 σ
 | .ret σ2, .ret σ => StR σ2 σ
 | _, _ => False
def qg1 (Q : Nat → Code → Prop) : Nat → Code → Prop
 | b, .seq x y => qg1 Q b x ∧ qg1 Q b y
 | b, .cond _ x y => qg1 Q b x ∧ qg1 Q b y
 | _, .block id x => qg1 Q id x
 | b, .loop x => Q b x
 | _, _ => True

section
variable {R : Type} {c : Cfg} {callF : FuncId → List Vl → List Blk → Option (List Vl × List Blk)} {CO : FuncId → List V2 → List Blk2 → (List V2 × List Blk2 → Option R) → Option R}
 {LO : Nat → Code → St2 → (Out2 → Option R) → Option R} {σ2 : St2} {σ : St} {nt : Nat} {ops : List Oper}

theorem qnG {d : Option Nat} {v : Sv2} {fr2 : List (Nat × Sv2)} {fr : List (Nat × Sv)} (hF : FrR fr2 fr) {K : List (Nat × Sv2) → Option R} {r : R} (e : qll nt d v fr2 K = some r) :
  ∃ fr2', K fr2' = some r ∧ ∃ fr', qe0 nt fr d v.at = some fr' ∧ FrR fr2' fr' := by
 cases d with
 | none => exact ⟨_, e, fr, rfl, hF⟩
 | some d =>
  simp only [qll] at e
  split at e
  ·rename_i h; exact ⟨_, e, _, by simp only [qe0]; rw [if_pos h], hF.cons d v⟩
  ·cases e

theorem qpV (hC : COk CO callF) (hs : StR σ2 σ) (o : Oper) (is : List Info) (F : St → List Info → Option (St × List Info)) {K : St2 → List Info → Option R} {r : R} (e : qlm c CO nt o σ2 is K = some r) :
  ∃ σ2' is', K σ2' is' = some r ∧ ∃ σ', qja F nt o σ is (stp c callF o σ.fr σ.mem σ.nx) = F σ' is' ∧ StR σ2' σ' := by
 unfold qlm at e
 obtain ⟨ef, e, h1⟩ := quy hC hs.fr o _ _ e
 obtain ⟨fr2', e, fr', h2, h3⟩ := qnG hs.fr e
 refine ⟨_, _, e, { fr := fr', mem := qw σ.mem ef.at.upd, nx := ef.at.nn }, ?_, ⟨h3, ?_, rfl⟩⟩
 ·rw [hs.mem, hs.nx, h1]
  simp only [qja]
  rw [show ef.at.v = ef.v.at from rfl, h2]
  simp only [qhm, hs.mem]
  congr 2
  simp [Eff2.at, qtl]
 ·simp [Eff2.at, hs.mem, qgz]
theorem qnH (hs : StR σ2 σ) (o : Oper) (is : List Info) (F : St → List Info → Option (St × List Info)) {K : St2 → List Info → Option R} {r : R} (e : qjZ nt o σ2 is K = some r) :
  ∃ σ2' is', K σ2' is' = some r ∧ ∃ σ', qhm F σ.mem σ.nx { rd := [], wr := [] } is (qe0 nt σ.fr o.dst .u) = F σ' is' ∧ StR σ2' σ' := by
 unfold qjZ at e
 obtain ⟨fr2', e, fr', h2, h3⟩ := qnG hs.fr e
 refine ⟨_, _, e, { fr := fr', mem := σ.mem, nx := σ.nx }, ?_, ⟨h3, hs.mem, hs.nx⟩⟩
 rw [show Sv2.at .u = Sv.u from rfl] at h2
 rw [h2]; rfl
theorem qiP (hs : StR σ2 σ) {d : Nat} {b b' : Bool} (hl : lk σ2.fr d = some (.v (.a (.bool b)))) (hb : b = b') : StR (know d b' σ2) σ :=
 ⟨hs.fr.know hl hb, hs.mem, hs.nx⟩

theorem quz (hC : COk CO callF) : ∀ (l : List Oper) (σ2 : St2) (σ : St) (is : List Info) (K : St2 → List Info → Option R) (r : R), StR σ2 σ → qiK c CO nt ops l σ2 is K = some r →
  ∃ σ2' is', K σ2' is' = some r ∧ ∃ σ', qco c callF nt ops l σ is = some (σ', is') ∧ StR σ2' σ' := by
 intro l
 induction l with
 | nil => intro σ2 σ is K r hs e; exact ⟨_, _, e, σ, rfl, hs⟩
 | cons o l ih =>
  intro σ2 σ is K r hs e
  simp only [qiK] at e
  unfold qpL at e
  have hrun : qco c callF nt ops (o :: l) σ is = qfp c callF (qco c callF nt ops l) nt o σ is (qdo ops o σ.fr) := rfl
  split at e
  ·rename_i hg
   obtain ⟨σ2', is', e, σ', h1, h2⟩ := qpV hC hs o is (qco c callF nt ops l) e
   obtain ⟨σ2'', is'', e, σ'', h3, h4⟩ := ih _ _ _ _ _ h2 e
   refine ⟨_, _, e, σ'', ?_, h4⟩
   rw [hrun, qdo, hg]
   simp only [qfp, h1, h3]
  ·rename_i j want hg
   simp only [Option.bind_eq_some_iff] at e
   obtain ⟨d, hd, v, hv, e⟩ := e
   have hv' := hs.fr d v hv
   have hd' : (ops[j]?.bind fun x => x.dst) = some d := Option.bind_eq_some_iff.2 hd
   split at e
   ·rename_i b
    split at e
    ·rename_i hb
     obtain ⟨σ2', is', e, σ', h1, h2⟩ := qpV hC (qiP hs hv hb) o is (qco c callF nt ops l) e
     obtain ⟨σ2'', is'', e, σ'', h3, h4⟩ := ih _ _ _ _ _ h2 e
     refine ⟨_, _, e, σ'', ?_, h4⟩
     rw [hrun, qdo, hg]
     simp only [hd', Option.bind_some, hv', Sv2.at, V2.at, A2.at, hb, beq_self_eq_true, qfp, h1, h3]
    ·rename_i hb
     obtain ⟨σ2', is', e, σ', h1, h2⟩ := qnH (qiP hs hv (by cases b <;> cases want <;> simp_all)) o is (qco c callF nt ops l) e
     obtain ⟨σ2'', is'', e, σ'', h3, h4⟩ := ih _ _ _ _ _ h2 e
     refine ⟨_, _, e, σ'', ?_, h4⟩
     have hb' : (b == want) = false := by simpa using hb
     rw [hrun, qdo, hg]
     simp only [hd', Option.bind_some, hv', Sv2.at, V2.at, A2.at, hb', qfp, h1, h3]
   ·rename_i hno
    obtain ⟨σ2', is', e, σ', h1, h2⟩ := qnH hs o is (qco c callF nt ops l) e
    obtain ⟨σ2'', is'', e, σ'', h3, h4⟩ := ih _ _ _ _ _ h2 e
    refine ⟨_, _, e, σ'', ?_, h4⟩
    have hw : qdo ops o σ.fr = some false := by
     rw [qdo, hg]
     simp only [hd', Option.bind_some, hv']
     cases v with
     | u => rfl
     | t vs => rfl
     | v y => cases y with
      | g cs => rfl
      | a z => cases z <;> first | rfl | exact absurd rfl (hno _)
    rw [hrun, hw]
    simp only [qfp, h1, h3]

variable {kp : Nat → List Kp} {k p : Nat}
def LOk (LO : Nat → Code → St2 → (Out2 → Option R) → Option R) (c : Cfg) (callF : FuncId → List Vl → List Blk → Option (List Vl × List Blk)) (kp : Nat → List Kp) (nt k p : Nat) (b : Nat) (x : Code) : Prop :=
 ∀ σ2 σ, StR σ2 σ → Snd (LO b x σ2) fun o2 => ∃ o, qhe (qgm p (kp b)) (qa3 c callF kp nt k p b x) k σ = some o ∧ qcS o2 o

theorem qpW (hC : COk CO callF) : ∀ (x : Code) (b : Nat) (σ2 : St2) (σ : St), qg1 (LOk LO c callF kp nt k p) b x → StR σ2 σ →
  Snd (qdN c CO LO nt b x σ2) fun o2 => ∃ o, qa3 c callF kp nt k p b x σ = some o ∧ qcS o2 o := by
 intro x
 induction x with
 | skip => intro b σ2 σ hL hs K r e; exact ⟨_, e, _, rfl, hs⟩
 | region id ops draw =>
  intro b σ2 σ hL hs K r e
  simp only [qdN] at e
  obtain ⟨σ2', is', e, σ', h1, h2⟩ := quz hC _ _ _ _ _ _ hs e
  split at e
  ·cases e
  ·rename_i hd
   refine ⟨_, e, .norm σ', ?_, h2⟩
   simp only [qa3, h1, qqW]
   rw [if_neg (by simpa using hd)]
 | seq x y ihx ihy =>
  intro b σ2 σ hL hs K r e
  simp only [qdN] at e
  obtain ⟨o2, e, o, h1, h2⟩ := ihx b _ _ hL.1 hs _ _ e
  cases o2 with
  | norm σ2' =>
   cases o <;> simp only [qcS] at h2
   rename_i σ'
   obtain ⟨o2, e, o, h3, h4⟩ := ihy b _ _ hL.2 h2 _ _ e
   exact ⟨o2, e, o, by simp only [qa3, h1, qgY, h3], h4⟩
  | exit i σ2' =>
   refine ⟨_, e, o, ?_, h2⟩
   cases o <;> simp only [qcS] at h2
   simp only [qa3, h1, qgY]
  | ret σ2' =>
   refine ⟨_, e, o, ?_, h2⟩
   cases o <;> simp only [qcS] at h2
   simp only [qa3, h1, qgY]
 | cond o x y ihx ihy =>
  intro b σ2 σ hL hs K r e
  have gen : ((ql2 σ2.fr o).bind fun q => if q = true then qdN c CO LO nt b x σ2 K else qdN c CO LO nt b y σ2 K) = some r →
    ∃ o2, K o2 = some r ∧ ∃ out, qa3 c callF kp nt k p b (.cond o x y) σ = some out ∧ qcS o2 out := by
   intro e
   simp only [Option.bind_eq_some_iff] at e
   obtain ⟨q, hq, e⟩ := e
   split at e
   ·rename_i hb
    subst hb
    obtain ⟨o2, e, o', h3, h4⟩ := ihx b _ _ hL.1 hs _ _ e
    exact ⟨o2, e, o', by simp only [qa3, hs.fr.evB hq, qlF, h3], h4⟩
   ·rename_i hb
    obtain ⟨o2, e, o', h3, h4⟩ := ihy b _ _ hL.2 hs _ _ e
    exact ⟨o2, e, o', by simp only [qa3, hs.fr.evB hq, (show q = false by simpa using hb), qlF, h3], h4⟩
  cases o with
  | tmp t =>
   simp only [qdN, Option.bind_eq_some_iff] at e
   obtain ⟨v, hv, e⟩ := e
   have hv' := hs.fr t v hv
   split at e
   ·rename_i q
    have hq : evB σ.fr (.tmp t) = some q := by simp [evB, evA, ev, hv', Sv2.at, V2.at, A2.at, svA, asB]
    split at e
    ·rename_i hb
     obtain ⟨o2, e, o', h3, h4⟩ := ihx b _ _ hL.1 (qiP hs hv hb) _ _ e
     exact ⟨o2, e, o', by simp only [qa3, hq, hb, qlF, h3], h4⟩
    ·rename_i hb
     have hb' : q = false := by simpa using hb
     obtain ⟨o2, e, o', h3, h4⟩ := ihy b _ _ hL.2 (qiP hs hv hb') _ _ e
     exact ⟨o2, e, o', by simp only [qa3, hq, hb', qlF, h3], h4⟩
   ·cases e
  | const v => exact gen (by simpa only [qdN] using e)
  | func f => exact gen (by simpa only [qdN] using e)
  | global g => exact gen (by simpa only [qdN] using e)
 | block id x ih =>
  intro b σ2 σ hL hs K r e
  simp only [qdN] at e
  obtain ⟨o2, e, o, h1, h2⟩ := ih id _ _ hL hs _ _ e
  cases o2 with
  | norm σ2' =>
   refine ⟨_, e, o, ?_, h2⟩
   cases o <;> simp only [qcS] at h2
   simp only [qa3, h1, qko]
  | exit i σ2' =>
   cases o <;> simp only [qcS] at h2
   rename_i j σ'
   obtain ⟨rfl, h2⟩ := h2
   simp only [] at e
   split at e
   ·rename_i hi
    exact ⟨_, e, .norm σ', by simp only [qa3, h1, qko]; rw [if_pos hi], h2⟩
   ·rename_i hi
    exact ⟨_, e, .exit i σ', by simp only [qa3, h1, qko]; rw [if_neg hi], rfl, h2⟩
  | ret σ2' =>
   refine ⟨_, e, o, ?_, h2⟩
   cases o <;> simp only [qcS] at h2
   simp only [qa3, h1, qko]
 | loop x ih => intro b σ2 σ hL hs K r e; exact hL σ2 σ hs K r e
 | exit id => intro b σ2 σ hL hs K r e; exact ⟨_, e, _, rfl, rfl, hs⟩
 | ret => intro b σ2 σ hL hs K r e; exact ⟨_, e, _, rfl, hs⟩
 | _ => intro b σ2 σ hL hs K r e; cases e

theorem qmj (T : TypeId → Option TI) (nx : Nat) (a : A2) : qc2 nx a.at = ((qhY T nx a).1.at, (qhY T nx a).2.1.at, (qhY T nx a).2.2) := by
 cases a <;> try rfl
 case snil es ty =>
  simp only [A2.at, qc2, qhY, qt.at, List.map_cons, List.map_nil, oAt, Option.map_some, Blk2.at]
  split <;> rfl
theorem qky (T : TypeId → Option TI) : ∀ (cs : List A2) (nx : Nat), qen nx (cs.map A2.at) = ((qhh T nx cs).1.map A2.at, (qhh T nx cs).2.1.at, (qhh T nx cs).2.2) := by
 intro cs
 induction cs with
 | nil => intro nx; rfl
 | cons a cs ih =>
  intro nx
  simp only [List.map_cons, qen, qmj T, ih, qhh, qfh]
theorem qtx (hs : StR σ2 σ) : ∀ (ks : List Kp) (q : List (Nat × V2) × qt × Nat), qhB c.T σ2 ks = some q → qfW σ ks = some (q.1.map (fun p => (p.1, Sv.v p.2.at)), q.2.1.at, q.2.2) := by
 intro ks
 induction ks with
 | nil => intro q e; cases e; simp [qfW, hs.nx, qt.at]
 | cons kk ks ih =>
  intro q e
  cases kk with
  | s t =>
   simp only [qhB, Option.bind_eq_some_iff] at e
   obtain ⟨q0, h1, e⟩ := e
   simp only [qfW, ih _ h1, Option.bind_some]
   split at e
   ·rename_i x hx
    cases e
    simp only [hs.fr _ _ hx, Sv2.at, V2.at, qmj c.T, qfh, List.map_cons]
   ·rename_i cs hx
    cases e
    simp only [hs.fr _ _ hx, Sv2.at, V2.at, qky c.T, qfh, List.map_cons]
   ·cases e
  | b t =>
   simp only [qhB, Option.bind_eq_some_iff] at e
   obtain ⟨q0, h1, e⟩ := e
   simp only [qfW, ih _ h1, Option.bind_some]
   split at e
   ·rename_i m o hx
    simp only [Option.bind_eq_some_iff] at e
    obtain ⟨b, h2, e⟩ := e
    split at e
    ·rename_i el hb
     cases e
     simp only [hs.fr _ _ hx, Sv2.at, V2.at, A2.at, hs.mem, ← qgz, qaH, h2, Option.map_some, Option.bind_some, Blk2.at, hb, Bd.rows, Bd.ents, List.map_cons, List.map_nil, qky c.T, qfh, qeR, oAt, qmf, qB]
    ·cases e
   ·cases e
theorem qty {ρ : Nat → Option Nat} : ∀ {l : List (Nat × V2)} {s : List (Nat × Sv2)}, qln ρ l = some s → qjb ρ (l.map fun p => (p.1, Sv.v p.2.at)) = some (s.map fun p => (p.1, p.2.at)) := by
 intro l
 induction l with
 | nil => intro s e; cases e; rfl
 | cons q l ih =>
  intro s e
  simp only [qln, Option.bind_eq_some_iff] at e
  obtain ⟨y, h1, r, h2, e⟩ := e
  cases e
  simp only [List.map_cons, qjb, qiM h1, ih h2, Option.bind_some, Sv2.at]
theorem qpX {β γ : Type} (g : β → γ) (l : List (Nat × β)) (t : Nat) : lk (l.map fun p => (p.1, g p.2)) t = (lk l t).map g := by
 induction l with
 | nil => rfl
 | cons p l ih =>
  simp only [List.map_cons, lk]
  split
  ·rfl
  ·exact ih
def vOf : Sv → Option Vl
 | .v x => some x
 | _ => none
def qsr (p : Nat) (mem : Mem) (fr0 : List (Nat × Sv)) (N : List Nat) : Option St :=
 (qjb (idx N) fr0).bind fun fr =>
 (qo (fun m => (qk mem m).bind (qdr (idx N))) N).bind fun bs =>
 if N.take p = List.range p then some { fr := fr, mem := qdD (List.range N.length) bs, nx := N.length } else none
theorem qrq (p : Nat) (ks : List Kp) (σ : St) : qgm p ks σ = (qfW σ ks).bind fun q => qsr p (qw σ.mem q.2.1) q.1 (clo (qdt (qw σ.mem q.2.1)) 64 (List.range p ++ qd (q.1.filterMap fun s => vOf s.2)) []) := rfl
theorem qnI (hs : StR σ2 σ) {ks : List Kp} {S2 : St2} (e : qlo c.T p ks σ2 = some S2) : ∃ S, qgm p ks σ = some S ∧ StR S2 S := by
 unfold qlo at e
 simp only [Option.bind_eq_some_iff] at e
 obtain ⟨q, h1, fr, h2, bs, h3, e⟩ := e
 generalize hN : clo (qb4 A2.nm (qe1 σ2.mem q.2.1)) 64 (List.range p ++ qc9 A2.nm (q.1.map (·.2))) [] = N at h2 h3 e
 split at e
 ·rename_i hp
  cases e
  have h3' := qcN (p := id) (q := Blk2.at) (g := fun m => (qk (qe1 σ2.mem q.2.1).at m).bind (qdr (idx N))) (fun m b h => by
   simp only [Option.bind_eq_some_iff] at h
   obtain ⟨b0, h4, h5⟩ := h
   simp only [id_eq, qaH, h4, Option.map_some, Option.bind_some]
   exact qiN h5) h3
  rw [List.map_id] at h3'
  have hfm : ∀ l : List (Nat × V2), List.filterMap (fun s : Nat × Sv => vOf s.2) (l.map fun p => (p.1, Sv.v p.2.at)) = (l.map (·.2)).map V2.at := by
   intro l
   induction l with
   | nil => rfl
   | cons a l ih => rw [List.map_cons, List.filterMap_cons, List.map_cons, List.map_cons, ← ih]; rfl
  refine ⟨{ fr := fr.map fun p => (p.1, p.2.at), mem := qdD (List.range N.length) (bs.map Blk2.at), nx := N.length }, ?_, ⟨?_, ?_, rfl⟩⟩
  ·rw [qrq, qtx hs _ _ h1]
   simp only [Option.bind_some, hs.mem, ← qgz, qkL, hfm, qiu, hN]
   simp only [qsr, qty h2, h3', Option.bind_some]
   rw [if_pos hp]
  ·intro t v h
   rw [qpX, h]; rfl
  ·exact (qpN _ _).symm
 ·cases e
end

section
variable {R : Type} {c : Cfg} {callF : FuncId → List Vl → List Blk → Option (List Vl × List Blk)} {CO : FuncId → List V2 → List Blk2 → (List V2 × List Blk2 → Option R) → Option R}
 {LO : Nat → Code → St2 → (Out2 → Option R) → Option R} {σ2 : St2} {σ : St} {nt : Nat} {kp : Nat → List Kp} {k p : Nat}

theorem qrr (hs : StR σ2 σ) {v : ResultVar} {x : V2} (e : qj0 c σ2 v = some x) : qhf c σ v = some x.at := by
 cases v with
 | tmp t => exact hs.fr.evV e
 | cell a t =>
  simp only [qj0, Option.bind_eq_some_iff] at e
  obtain ⟨ti, h1, y, h2, e⟩ := e
  simp only [qhf, h1, Option.bind_some, hs.fr.evA h2]
  split at e
  ·simp only [Option.bind_eq_some_iff] at e
   obtain ⟨b, h3, e⟩ := e
   split at e
   ·rename_i els hb
    simp only [Option.bind_eq_some_iff] at e
    obtain ⟨el, h4, e⟩ := e
    simp [A2.at, hs.mem, qaH, h3, Blk2.at, hb, Bd.rows, Bd.ents, h4, qhC e]
   ·cases e
  ·cases e
theorem qrs (T : TypeId → Option TI) : ∀ (vs : List V2) (nx : Nat), qbL nx (vs.map V2.at) = ((qf1 T nx vs).1.map V2.at, (qf1 T nx vs).2.1.at, (qf1 T nx vs).2.2) := by
 intro vs
 induction vs with
 | nil => intro nx; rfl
 | cons a vs ih =>
  intro nx
  cases a with
  | a x => simp only [List.map_cons, V2.at, qbL, qmj T, ih, qf1, qfh]
  | g cs => simp only [List.map_cons, V2.at, qbL, qky T, ih, qf1, qfh]
theorem qtz (f : FuncId) (mem : qt) (l acc : List Nat) : clo (fun m => if c.mutA f then qdt mem.at m else qfU mem.at m) 64 l acc = clo (if c.mutA f then qb4 A2.nm mem else qb4 A2.ptrs mem) 64 l acc := qpS f mem l acc
theorem qtA (f : FuncId) (mem : qt) (a rs0 : List V2) : Snd (R := R) (fun K => if c.ownR f then K a else qf0 (qiJ c mem) rs0 K) fun rs => (if c.ownR f then some (a.map V2.at) else qo (qel mem.at) (rs0.map V2.at)) = some (rs.map V2.at) := by
 intro K r e
 simp only [] at e
 split at e
 ·rename_i h; exact ⟨_, e, by rw [if_pos h]⟩
 ·rename_i h
  obtain ⟨x, e1, h1⟩ := qeS (fun v => qkx mem v) rs0 _ _ e
  exact ⟨x, e1, by rw [if_neg h]; exact h1⟩
theorem qpY (hs : StR σ2 σ) (f : FuncId) (fn : Func) : Snd (R := R) (qiL c f fn.results.toList p σ2) fun r => qhy c f fn p σ = some (r.1.map V2.at, r.2.map Blk2.at) := by
 intro K r e
 unfold qiL at e
 simp only [Option.bind_eq_some_iff] at e
 obtain ⟨rs0, h1, e⟩ := e
 have h1' := qcN (p := id) (q := V2.at) (f := qj0 c σ2) (g := qhf c σ) (fun _ _ => qrr hs) h1
 rw [List.map_id] at h1'
 generalize hq : (if c.ownR f then qf1 c.T σ2.nx rs0 else (rs0, [], σ2.nx)) = q at e
 have hq' : (if c.ownR f then qbL σ.nx (rs0.map V2.at) else (rs0.map V2.at, [], σ.nx)) = (q.1.map V2.at, q.2.1.at, q.2.2) := by
  rw [← hq, hs.nx]
  split
  ·exact qrs _ _ _
  ·rfl
 obtain ⟨rs, e, h2⟩ := qtA f (qe1 σ2.mem q.2.1) q.1 rs0 _ _ e
 simp only [Option.bind_eq_some_iff] at e
 obtain ⟨rs', h3, e⟩ := e
 generalize hN : clo (if c.mutA f then qb4 A2.nm (qe1 σ2.mem q.2.1) else qb4 A2.ptrs (qe1 σ2.mem q.2.1)) 64 (List.range p ++ qc9 A2.nm rs) [] = N at e h3
 obtain ⟨bs, e, h4⟩ := qeS (q := Blk2.at) (p := id) (g := fun m => (qk (qt.at _) m).bind fun b => (if c.mutA f then some b else qfT (qe1 σ2.mem q.2.1).at b).bind (qdr (idx _))) (fun m => qpM _ _ _ _ m) _ _ _ e
 split at e
 ·rename_i hp
  refine ⟨_, e, ?_⟩
  rw [List.map_id, qgz, qhi] at h4
  have h3' := qcN (fun _ _ => qiM) h3
  unfold qhy
  rw [h1']
  simp only [Option.bind_some, hq', hs.mem, ← qgz, h2, qiu, qkv, qnC, qtz, hN, h3']
  rw [qgz σ2.mem] at h4 ⊢
  rw [h4]
  simp only [Option.bind_some]
  rw [if_pos hp]
 ·cases e
theorem qtB {o2 : Out2} {o : Out} (ho : qcS o2 o) (f : FuncId) (fn : Func) {K : List V2 × List Blk2 → Option R} {r : R} (e : qso c f fn.results.toList p K o2 = some r) :
  ∃ x, K x = some r ∧ qqX c f fn p (some o) = some (x.1.map V2.at, x.2.map Blk2.at) := by
 cases o2 with
 | norm σ2 =>
  cases o <;> simp only [qcS] at ho
  exact qpY ho f fn _ _ e
 | ret σ2 =>
  cases o <;> simp only [qcS] at ho
  exact qpY ho f fn _ _ e
 | exit i σ2 => cases e
theorem qkz {β γ : Type} (g : β → γ) : ∀ (n : Nat) (l : List β), qdL n (l.map g) = (qdL n l).map fun p => (p.1, g p.2)
 | _, [] => rfl
 | n, x :: l => by simp only [List.map_cons, qdL, qkz g (n + 1) l]
theorem qtC (hC : COk CO callF) (f : FuncId) (fn : Func) (body : Code) (args : List V2) (blks : List Blk2) (hL : qg1 (LOk LO c callF kp fn.ntmps k blks.length) 0 body) :
  Snd (qlp c CO LO f fn.ntmps fn.results.toList body args blks) fun r =>
   qqX c f fn (blks.map Blk2.at).length (qa3 c callF kp fn.ntmps k (blks.map Blk2.at).length 0 body { fr := qdL 0 ((args.map V2.at).map Sv.v), mem := qdL 0 ((blks.map Blk2.at).map some), nx := (blks.map Blk2.at).length }) = some (r.1.map V2.at, r.2.map Blk2.at) := by
 intro K r e
 unfold qlp at e
 simp only [List.length_map]
 have hs : StR { fr := qoz args, mem := qdL 0 (blks.map some), nx := blks.length } { fr := qdL 0 ((args.map V2.at).map Sv.v), mem := qdL 0 ((blks.map Blk2.at).map some), nx := blks.length } := by
  refine ⟨?_, ?_, rfl⟩
  ·intro t v h
   have : (args.map V2.at).map Sv.v = (args.map Sv2.v).map Sv2.at := by simp [Function.comp_def, Sv2.at]
   simp only [] at h ⊢
   rw [this, qkz, qpX]
   unfold qoz at h
   rw [h]; rfl
  ·have : (blks.map Blk2.at).map some = (blks.map some).map (fun o => o.map Blk2.at) := by simp [Function.comp_def]
   simp only []
   rw [this, qkz]
   rfl
 obtain ⟨o2, e, o, h1, h2⟩ := qpW hC body 0 _ _ hL hs _ _ e
 obtain ⟨x, e, h3⟩ := qtB h2 f fn e
 exact ⟨x, e, by rw [h1]; exact h3⟩
end

inductive Lt
 | w (c : Cd) | nat
 deriving DecidableEq
@[reducible] def Lt.D : Lt → Type
 | .w c => c.D
 | .nat => Nat
structure Leaf where
 t : Lt
 x : t.D
@[reducible] def Tp : List Lt → Type
 | [] => Unit
 | [t] => t.D
 | t :: u :: r => t.D × Tp (u :: r)
def toL : (ts : List Lt) → Tp ts → List Leaf
 | [], _ => []
 | [t], x => [⟨t, x⟩]
 | t :: u :: r, x => ⟨t, x.1⟩ :: toL (u :: r) x.2
def qgp (a b : Lt) (x : a.D) : Option b.D := if h : a = b then some (h ▸ x) else none
theorem qmk {a b : Lt} {x : a.D} {y : b.D} (h : qgp a b x = some y) : (⟨b, y⟩ : Leaf) = ⟨a, x⟩ := by
 unfold qgp at h
 split at h
 ·rename_i e; subst e; cases h; rfl
 ·cases h
theorem qgN (a : Lt) (x : a.D) : qgp a a x = some x := by simp [qgp]
def ofL : (ts : List Lt) → List Leaf → Option (Tp ts)
 | [], [] => some ()
 | [t], [y] => qgp y.t t y.x
 | t :: u :: r, y :: l => (qgp y.t t y.x).bind fun a => (ofL (u :: r) l).bind fun b => some (a, b)
 | _, _ => none
theorem qml : ∀ {ts : List Lt} {l : List Leaf} {x : Tp ts}, ofL ts l = some x → toL ts x = l
 | [], l, x, h => by
  cases l with
  | nil => rfl
  | cons y l => cases h
 | [t], l, x, h => by
  match l, h with
  | [y], h => simp only [toL, qmk (b := t) h]
  | [], h => cases h
  | _ :: _ :: _, h => cases h
 | t :: u :: r, l, x, h => by
  match l, h with
  | [], h => cases h
  | y :: l, h =>
   simp only [ofL, Option.bind_eq_some_iff] at h
   obtain ⟨a, h1, b, h2, h⟩ := h
   cases h
   simp only [toL, qmk h1, qml h2]

inductive Sh
 | lf (c : Cd) | snil (es ty : Nat) | nilp | ptr (m i o : Nat) | smz (m : Nat) | sms (m : Nat) | fn (f : FuncId) (cs : List Cd) | mp (m : Nat)
def Sh.ts : Sh → List Lt
 | .lf c => [.w c]
 | .smz _ => [.nat]
 | .sms _ => [.nat, .nat]
 | .fn _ cs => cs.map Lt.w
 | _ => []
def qlq : List Cd → List Leaf → List (Sigma Cd.D) × List Leaf
 | [], l => ([], l)
 | c :: cs, y :: r => (fun p => ((match qgp y.t (.w c) y.x with | some x => [⟨c, x⟩] | none => []) ++ p.1, p.2)) (qlq cs r)
 | _ :: _, [] => ([], [])
theorem qmm : ∀ (ps : List (Sigma Cd.D)) (r : List Leaf), qlq (ps.map (·.1)) (ps.map (fun p => (⟨.w p.1, p.2⟩ : Leaf)) ++ r) = (ps, r)
 | [], r => rfl
 | p :: ps, r => by
  simp only [List.map_cons, List.cons_append, qlq, qmm ps r]
  rw [qgN (.w p.1) p.2]
  rfl
def Sh.enc : Sh → List Leaf → A2 × List Leaf
 | .lf c, y :: r => ((match qgp y.t (.w c) y.x with | some x => (c.cl x).headD .nilp | none => .nilp), r)
 | .snil es ty, r => (.snil es ty, r)
 | .nilp, r => (.nilp, r)
 | .ptr m i o, r => (.ptr m i o, r)
 | .smz m, ⟨.nat, n⟩ :: r => (.sm m 0 n, r)
 | .sms m, ⟨.nat, lo⟩ :: ⟨.nat, n⟩ :: r => (.sm m lo n, r)
 | .fn f cs, r => (fun p => (.fn f p.1, p.2)) (qlq cs r)
 | .mp m, r => (.mp m, r)
 | _, r => (.nilp, r)
def Sh.dec : Sh → A2 → Option (List Leaf)
 | .lf c, a => (c.dec [a]).bind fun x => some [⟨.w c, x⟩]
 | .snil es ty, .snil es' ty' => if es' = es ∧ ty' = ty then some [] else none
 | .nilp, .nilp => some []
 | .ptr m i o, .ptr m' i' o' => if m' = m ∧ i' = i ∧ o' = o then some [] else none
 | .smz m, .sm m' lo n => if m' = m ∧ lo = 0 then some [⟨.nat, n⟩] else none
 | .sms m, .sm m' lo n => if m' = m then some [⟨.nat, lo⟩, ⟨.nat, n⟩] else none
 | .mp m, .mp m' => if m' = m then some [] else none
 | .fn f cs, .fn f' ps => if f' = f ∧ ps.map (·.1) = cs then some (ps.map fun p => ⟨.w p.1, p.2⟩) else none
 | _, _ => none
def Rt {α β : Type} (enc : α → List Leaf → β × List Leaf) (dec : α → β → Option (List Leaf)) : Prop := ∀ s a l, dec s a = some l → ∀ r, enc s (l ++ r) = (a, r)
theorem Sh.rt : Rt Sh.enc Sh.dec := by
 intro s a l h r
 cases s with
 | lf c =>
  simp only [Sh.dec, Option.bind_eq_some_iff] at h
  obtain ⟨x, h1, h⟩ := h
  cases h
  have := dec_eq (c := c) h1
  simp only [List.cons_append, List.nil_append, Sh.enc]
  rw [qgN (.w c) x]
  simp only [← this, List.headD_cons]
 | nilp =>
  cases a <;> simp only [Sh.dec] at h <;> first | cases h | skip
  rfl
 | fn f cs =>
  cases a <;> simp only [Sh.dec] at h <;> first | cases h | skip
  split at h
  ·rename_i ps e
   obtain ⟨rfl, rfl⟩ := e
   cases h
   simp only [Sh.enc, qmm]
  ·cases h
 | _ =>
  cases a <;> simp only [Sh.dec] at h <;> first | cases h | skip
  split at h
  ·rename_i e; cases h; simp [Sh.enc, e]
  ·cases h
def qf2 {α β : Type} (enc : α → List Leaf → β × List Leaf) : List α → List Leaf → List β × List Leaf
 | [], l => ([], l)
 | s :: r, l => (fun p => (fun q => (p.1 :: q.1, q.2)) (qf2 enc r p.2)) (enc s l)
def qh1 {α β : Type} (dec : α → β → Option (List Leaf)) : List α → List β → Option (List Leaf)
 | [], [] => some []
 | s :: r, a :: b => (dec s a).bind fun x => (qh1 dec r b).bind fun y => some (x ++ y)
 | _, _ => none
theorem Rt.row {α β : Type} {enc : α → List Leaf → β × List Leaf} {dec : α → β → Option (List Leaf)} (H : Rt enc dec) : Rt (qf2 enc) (qh1 dec) := by
 intro l
 induction l with
 | nil => intro zs x h r; cases zs with
  | nil => cases h; rfl
  | cons a zs => cases h
 | cons s l ih =>
  intro zs x h r
  cases zs with
  | nil => cases h
  | cons a zs =>
   simp only [qh1, Option.bind_eq_some_iff] at h
   obtain ⟨y, h1, z, h2, h⟩ := h
   cases h
   simp only [qf2, List.append_assoc, H _ _ _ h1, ih _ _ h2]
inductive ShV
 | a (s : Sh) | g (ss : List Sh)
def ShV.ts : ShV → List Lt
 | .a s => s.ts
 | .g ss => ss.flatMap Sh.ts
def ShV.enc : ShV → List Leaf → V2 × List Leaf
 | .a s, l => (fun p => (.a p.1, p.2)) (s.enc l)
 | .g ss, l => (fun p => (.g p.1, p.2)) (qf2 Sh.enc ss l)
def ShV.dec : ShV → V2 → Option (List Leaf)
 | .a s, .a x => s.dec x
 | .g ss, .g cs => qh1 Sh.dec ss cs
 | _, _ => none
theorem ShV.rt : Rt ShV.enc ShV.dec := by
 intro s a l h r
 cases s with
 | a s => cases a with
  | a y => simp only [ShV.enc, Sh.rt _ _ _ h]
  | g cs => cases h
 | g ss => cases a with
  | a y => cases h
  | g cs => simp only [ShV.enc, Sh.rt.row _ _ _ h]
inductive ShB
 | arr (c : Cd) (es : Nat) (ty : TypeId) (fz : Bool)
 | raw (els : List (List Sh)) (es : Nat) (ty : TypeId) (pr fz ar : Bool)
 | map (kc vc : Cd) (ty : TypeId) (fz : Bool)
def ShB.ts : ShB → List Lt
 | .arr c _ _ _ => [.w (.sl c)]
 | .raw els _ _ _ _ _ => els.flatMap fun e => e.flatMap Sh.ts
 | .map kc vc _ _ => [.w (.sl (.pr kc vc))]
def ShB.enc : ShB → List Leaf → Blk2 × List Leaf
 | .arr c es ty fz, l => match l with
  | y :: r => ((match qgp y.t (.w (.sl c)) y.x with | some x => ⟨.arr c x, es, ty, true, fz, true⟩ | none => ⟨.raw [], es, ty, true, fz, true⟩), r)
  | [] => (⟨.raw [], es, ty, true, fz, true⟩, [])
 | .raw els es ty pr fz ar, l => (fun p => (⟨.raw p.1, es, ty, pr, fz, ar⟩, p.2)) (qf2 (qf2 Sh.enc) els l)
 | .map kc vc ty fz, l => match l with
  | y :: r => ((match qgp y.t (.w (.sl (.pr kc vc))) y.x with | some x => ⟨.map kc vc x, 0, ty, true, fz, true⟩ | none => ⟨.raw [], 0, ty, true, fz, true⟩), r)
  | [] => (⟨.raw [], 0, ty, true, fz, true⟩, [])
def ShB.dec (s : ShB) (b : Blk2) : Option (List Leaf) :=
 match s with
 | .arr c es ty fz => match b with
  | ⟨.arr c' l, es', ty', true, fz', true⟩ => if es' = es ∧ ty' = ty ∧ fz' = fz then (qiH c' c l).bind fun l => some [⟨.w (.sl c), l⟩] else none
  | _ => none
 | .raw els es ty pr fz ar => match b with
  | ⟨.raw els', es', ty', pr', fz', ar'⟩ => if es' = es ∧ ty' = ty ∧ pr' = pr ∧ fz' = fz ∧ ar' = ar then qh1 (qh1 Sh.dec) els els' else none
  | _ => none
 | .map kc vc ty fz => match b with
  | ⟨.map kc' vc' l, 0, ty', true, fz', true⟩ => if ty' = ty ∧ fz' = fz ∧ kc' = kc ∧ vc' = vc then (qiH (.pr kc' vc') (.pr kc vc) l).bind fun l => some [⟨.w (.sl (.pr kc vc)), l⟩] else none
  | _ => none
theorem ShB.rt : Rt ShB.enc ShB.dec := by
 intro s b l h r
 cases s with
 | arr c es ty fz =>
  simp only [ShB.dec] at h
  split at h
  ·split at h
   ·rename_i e
    obtain ⟨rfl, rfl, rfl⟩ := e
    simp only [Option.bind_eq_some_iff] at h
    obtain ⟨x, hx, h⟩ := h
    cases h
    obtain ⟨hc, rfl⟩ := qhZ hx
    subst hc
    simp only [List.cons_append, ShB.enc, List.nil_append]
    rw [qgN (.w (.sl _)) _]
   ·cases h
  ·cases h
 | raw els es ty pr fz ar =>
  simp only [ShB.dec] at h
  split at h
  ·split at h
   ·rename_i e
    obtain ⟨rfl, rfl, rfl, rfl, rfl⟩ := e
    simp only [ShB.enc, Sh.rt.row.row _ _ _ h]
   ·cases h
  ·cases h
 | map kc vc ty fz =>
  simp only [ShB.dec] at h
  split at h
  ·split at h
   ·rename_i e
    obtain ⟨rfl, rfl, rfl, rfl⟩ := e
    simp only [Option.bind_eq_some_iff] at h
    obtain ⟨x, hx, h⟩ := h
    cases h
    obtain ⟨hc, rfl⟩ := qhZ hx
    simp only [List.cons_append, ShB.enc, List.nil_append]
    rw [qgN (.w (.sl (.pr _ _))) _]
   ·cases h
  ·cases h

structure FS where
 vs : List ShV
 bs : List ShB
def FS.ts (s : FS) : List Lt := s.vs.flatMap ShV.ts ++ s.bs.flatMap ShB.ts
def FS.en (s : FS) (l : List Leaf) : (List V2 × List Blk2) × List Leaf := (fun p => (fun q => ((p.1, q.1), q.2)) (qf2 ShB.enc s.bs p.2)) (qf2 ShV.enc s.vs l)
def FS.de (s : FS) (a : List V2 × List Blk2) : Option (List Leaf) := (qh1 ShV.dec s.vs a.1).bind fun x => (qh1 ShB.dec s.bs a.2).bind fun y => some (x ++ y)
@[reducible] def FS.D (s : FS) : Type := Tp s.ts
def FS.enc (s : FS) (x : s.D) : List V2 × List Blk2 := (s.en (toL _ x)).1
def FS.dec (s : FS) (a : List V2 × List Blk2) : Option s.D := (s.de a).bind (ofL _)
theorem FS.rt : Rt FS.en FS.de := by
 intro s a l h r
 simp only [FS.de, Option.bind_eq_some_iff] at h
 obtain ⟨y, h1, z, h2, h⟩ := h
 cases h
 simp only [FS.en, List.append_assoc, ShV.rt.row _ _ _ h1, ShB.rt.row _ _ _ h2]
theorem FS.dec_eq {s : FS} {a : List V2 × List Blk2} {x : s.D} (h : s.dec a = some x) : s.enc x = a := by
 simp only [FS.dec, Option.bind_eq_some_iff] at h
 obtain ⟨l, h1, h2⟩ := h
 have := FS.rt s a l h1 []
 rw [List.append_nil] at this
 simp only [FS.enc, qml h2, this]
@[reducible] def DS {α : Type} (D : α → Type) : List α → Type
 | [] => Empty
 | [a] => D a
 | a :: b :: r => D a ⊕ DS D (b :: r)
def qg2 {α β : Type} {D : α → Type} (enc : (s : α) → D s → β) : (l : List α) → DS D l → β
 | [], x => nomatch x
 | [a], x => enc a x
 | a :: b :: r, x => match x with
  | .inl x => enc a x
  | .inr x => qg2 enc (b :: r) x
def qgf {α β : Type} {D : α → Type} (dec : (s : α) → β → Option (D s)) : (l : List α) → β → Option (DS D l)
 | [], _ => none
 | [a], x => dec a x
 | a :: b :: r, x => match dec a x with
  | some y => some (.inl y)
  | none => match qgf dec (b :: r) x with
   | some y => some (.inr y)
   | none => none
def qc {α β R : Type} (x : α ⊕ β) (f : α → Option R) (g : β → Option R) : Option R := match x with
 | .inl x => f x
 | .inr x => g x
def qiQ {α β R : Type} {D : α → Type} (enc : (s : α) → D s → β) (K : β → Option R) : (l : List α) → DS D l → Option R
 | [], x => nomatch x
 | [a], x => K (enc a x)
 | a :: b :: r, x => qc x (fun x => K (enc a x)) (fun x => qiQ enc K (b :: r) x)
theorem qh2 {α β R : Type} {D : α → Type} (enc : (s : α) → D s → β) (K : β → Option R) : ∀ (l : List α) (x : DS D l), qiQ enc K l x = K (qg2 enc l x)
 | [], x => nomatch x
 | [a], x => rfl
 | a :: b :: r, .inl x => rfl
 | a :: b :: r, .inr x => qh2 enc K (b :: r) x
theorem qgT {α β : Type} {D : α → Type} {enc : (s : α) → D s → β} {dec : (s : α) → β → Option (D s)} {Q : β → β → Prop} (H : ∀ s a x, dec s a = some x → Q (enc s x) a) :
  ∀ {l : List α} {a : β} {y : DS D l}, qgf dec l a = some y → Q (qg2 enc l y) a := by
 intro l
 match l with
 | [] => intro a y h; cases h
 | [s] => intro a y h; exact H _ _ _ h
 | s :: t :: r =>
  intro a y h
  simp only [qgf] at h
  split at h
  ·rename_i z hz; cases h; exact H _ _ _ hz
  ·split at h
   ·rename_i z hz
    cases h
    exact qgT H (l := t :: r) hz
   ·cases h
structure SS where
 fr : List (Nat × ShV)
 mem : List (Nat × Option ShB)
 nx : Nat
def tsO (p : Nat × Option ShB) : List Lt := match p.2 with
 | none => []
 | some b => b.ts
def qoD (p : Nat × Option ShB) (l : List Leaf) : (Nat × Option Blk2) × List Leaf := match p.2 with
 | none => ((p.1, none), l)
 | some b => (fun q => ((p.1, some q.1), q.2)) (b.enc l)
def qoE (p : Nat × Option ShB) (q : Nat × Option Blk2) : Option (List Leaf) := match p.2, q.2 with
 | none, none => if q.1 = p.1 then some [] else none
 | some b, some B => if q.1 = p.1 then b.dec B else none
 | _, _ => none
theorem rtO : Rt qoD qoE := by
 intro p q l h r
 obtain ⟨m, o⟩ := p
 obtain ⟨m', o'⟩ := q
 cases o with
 | none => cases o' with
  | none =>
   simp only [qoE] at h
   split at h
   ·rename_i e; cases h; simp [qoD, e]
   ·cases h
  | some B => cases h
 | some b => cases o' with
  | none => cases h
  | some B =>
   simp only [qoE] at h
   split at h
   ·rename_i e; simp [qoD, e, ShB.rt _ _ _ h]
   ·cases h
def qrt (p : Nat × ShV) (l : List Leaf) : (Nat × Sv2) × List Leaf := (fun q => ((p.1, .v q.1), q.2)) (p.2.enc l)
def SS.ts (s : SS) : List Lt := (s.fr.flatMap fun p => p.2.ts) ++ s.mem.flatMap tsO
@[reducible] def SS.D (s : SS) : Type := Tp s.ts
def SS.en (s : SS) (l : List Leaf) : St2 := (fun p => { fr := p.1, mem := (qf2 qoD s.mem p.2).1, nx := s.nx }) (qf2 qrt s.fr l)
def SS.enc (s : SS) (x : s.D) : St2 := s.en (toL _ x)
def qlr (fr : List (Nat × Sv2)) : List (Nat × ShV) → Option (List Leaf)
 | [] => some []
 | p :: r => match lk fr p.1 with
  | some (.v v) => (p.2.dec v).bind fun x => (qlr fr r).bind fun y => some (x ++ y)
  | _ => none
def SS.de (s : SS) (σ : St2) : Option (List Leaf) := (qlr σ.fr s.fr).bind fun x => (qh1 qoE s.mem σ.mem).bind fun y => if σ.nx = s.nx then some (x ++ y) else none
def SS.dec (s : SS) (σ : St2) : Option s.D := (s.de σ).bind (ofL _)
theorem qru {fr : List (Nat × Sv2)} : ∀ {l : List (Nat × ShV)} {x : List Leaf}, qlr fr l = some x → ∀ r, ∃ fr', qf2 qrt l (x ++ r) = (fr', r) ∧ ∀ t v, lk fr' t = some v → lk fr t = some v := by
 intro l
 induction l with
 | nil => intro x h r; cases h; exact ⟨[], rfl, fun t v h => by cases h⟩
 | cons p l ih =>
  intro x h r
  simp only [qlr] at h
  split at h
  ·rename_i v' hv'
   simp only [Option.bind_eq_some_iff] at h
   obtain ⟨y, h1, z, h2, h⟩ := h
   cases h
   obtain ⟨fr', h3, h4⟩ := ih h2 r
   refine ⟨(p.1, .v v') :: fr', ?_, ?_⟩
   ·simp only [qf2, qrt, List.append_assoc, ShV.rt _ _ _ h1, h3]
   ·intro t v hv
    simp only [lk] at hv
    split at hv
    ·rename_i e
     cases hv
     rw [← e]
     exact hv'
    ·exact h4 t v hv
  ·cases h
theorem SS.dec_ok {s : SS} {σ2 : St2} {x : s.D} (h : s.dec σ2 = some x) {σ : St} (hs : StR σ2 σ) : StR (s.enc x) σ := by
 simp only [SS.dec, Option.bind_eq_some_iff] at h
 obtain ⟨l, h, h0⟩ := h
 simp only [SS.de, Option.bind_eq_some_iff] at h
 obtain ⟨y, h1, z, h2, h⟩ := h
 split at h
 ·rename_i e
  cases h
  obtain ⟨fr', h3, h4⟩ := qru h1 z
  have h5 := rtO.row _ _ _ h2 []
  rw [List.append_nil] at h5
  simp only [SS.enc, qml h0, SS.en, h3, h5]
  exact ⟨fun t v hv => hs.fr t v (h4 t v hv), hs.mem, by rw [hs.nx, e]⟩
 ·cases h
structure OS where
 id : Option Nat
 s : SS
@[reducible] def OS.D (o : OS) : Type := o.s.D
def OS.enc (o : OS) (x : o.D) : Out2 := match o.id with
 | some i => .exit i (o.s.enc x)
 | none => .ret (o.s.enc x)
def OS.dec (o : OS) (u : Out2) : Option o.D := match o.id, u with
 | some i, .exit j σ => if j = i then o.s.dec σ else none
 | none, .ret σ => o.s.dec σ
 | _, _ => none
theorem OS.dec_ok (o : OS) (u : Out2) (x : o.D) (h : o.dec u = some x) : ∀ v, qcS u v → qcS (o.enc x) v := by
 obtain ⟨id, s⟩ := o
 intro v hv
 cases id with
 | none =>
  cases u <;> simp only [OS.dec] at h <;> first | cases h | skip
  cases v <;> simp only [qcS] at hv
  exact SS.dec_ok h hv
 | some i =>
  cases u <;> simp only [OS.dec] at h <;> first | cases h | skip
  split at h
  ·rename_i e
   cases v <;> simp only [qcS] at hv
   exact ⟨by rw [← e]; exact hv.1, SS.dec_ok h hv.2⟩
  ·cases h

structure Inst where
 f : FuncId
 sh : FS
 os : List FS
 F : sh.D → Option (DS FS.D os)
structure LInst where
 b : Nat
 hs : List SS
 os : List OS
 F : DS SS.D hs → Option (DS OS.D os)
section
variable {R : Type}
def COt (f : FuncId) (a : List V2) (b : List Blk2) (K : List V2 × List Blk2 → Option R) : List Inst → Option R
 | [] => none
 | i :: r => if i.f = f then (match i.sh.dec (a, b) with
  | some x => (i.F x).bind fun y => qiQ FS.enc K i.os y
  | none => COt f a b K r) else COt f a b K r
def LOt (T : TypeId → Option TI) (kp : Nat → List Kp) (p : Nat) (b : Nat) (σ : St2) (K : Out2 → Option R) : List LInst → Option R
 | [] => none
 | i :: r => if i.b = b then (match (qlo T p (kp b) σ).bind (qgf SS.dec i.hs) with
  | some x => (i.F x).bind fun y => qiQ OS.enc K i.os y
  | none => LOt T kp p b σ K r) else LOt T kp p b σ K r
def qoF (T : TypeId → Option TI) (ks : List Kp) (p : Nat) (hs : List SS) (os : List OS) (F : DS SS.D hs → Option (DS OS.D os)) : Out2 → Option (DS OS.D os)
 | .norm σ => ((qlo T p ks σ).bind (qgf SS.dec hs)).bind F
 | o => qgf OS.dec os o
end
def qh (cl : FuncId → List Vl → List Blk → Option (List Vl × List Blk)) (i : Inst) : Prop :=
 ∀ x y, i.F x = some y → cl i.f ((i.sh.enc x).1.map V2.at) ((i.sh.enc x).2.map Blk2.at) = some ((qg2 FS.enc i.os y).1.map V2.at, (qg2 FS.enc i.os y).2.map Blk2.at)
def qa5 (cl : FuncId → List Vl → List Blk → Option (List Vl × List Blk)) : List Inst → Prop
 | [] => True
 | i :: r => qh cl i ∧ qa5 cl r
theorem qpZ {R : Type} {cl : FuncId → List Vl → List Blk → Option (List Vl × List Blk)} : ∀ {l : List Inst}, qa5 cl l → COk (fun f a b (K : List V2 × List Blk2 → Option R) => COt f a b K l) cl := by
 intro l
 induction l with
 | nil => intro _ f a b K r e; cases e
 | cons i l ih =>
  intro h f a b K r e
  simp only [COt] at e
  split at e
  ·rename_i hf
   subst hf
   split at e
   ·rename_i x hx
    simp only [Option.bind_eq_some_iff] at e
    obtain ⟨y, h1, e⟩ := e
    rw [qh2] at e
    refine ⟨_, e, ?_⟩
    have := h.1 x y h1
    rw [FS.dec_eq hx] at this
    exact this
   ·exact ih h.2 _ _ _ _ _ e
  ·exact ih h.2 _ _ _ _ _ e

theorem qmn {hs : List SS} {σ2 : St2} {x : DS SS.D hs} (h : qgf SS.dec hs σ2 = some x) {σ : St} (hs' : StR σ2 σ) : StR (qg2 SS.enc hs x) σ :=
 qgT (enc := SS.enc) (dec := SS.dec) (Q := fun a b => ∀ σ, StR b σ → StR a σ) (fun s a x h σ hr => SS.dec_ok h hr) (l := hs) h σ hs'
section
variable {c : Cfg} {callF : FuncId → List Vl → List Blk → Option (List Vl × List Blk)} {kp : Nat → List Kp} {nt k p : Nat}
def qrv (c : Cfg) (callF : FuncId → List Vl → List Blk → Option (List Vl × List Blk)) (kp : Nat → List Kp) (nt k p : Nat) (b : Nat) (x0 : Code) (i : LInst) : Prop :=
 ∀ x y τ, StR (qg2 SS.enc i.hs x) τ → i.F x = some y → ∃ o, qlf (qgm p (kp b)) (qa3 c callF kp nt k p b x0) k (some τ) = some o ∧ qcS (qg2 OS.enc i.os y) o
def qrw (c : Cfg) (callF : FuncId → List Vl → List Blk → Option (List Vl × List Blk)) (kp : Nat → List Kp) (nt k p : Nat) (b : Nat) (x0 : Code) : List LInst → Prop
 | [] => True
 | i :: r => (i.b = b → qrv c callF kp nt k p b x0 i) ∧ qrw c callF kp nt k p b x0 r
theorem quA {R : Type} {b : Nat} {x0 : Code} : ∀ {l : List LInst}, qrw c callF kp nt k p b x0 l → LOk (fun b _ σ (K : Out2 → Option R) => LOt c.T kp p b σ K l) c callF kp nt k p b x0 := by
 intro l
 induction l with
 | nil => intro _ σ2 σ hs K r e; cases e
 | cons i l ih =>
  intro h σ2 σ hs K r e
  simp only [LOt] at e
  split at e
  ·rename_i hb
   split at e
   ·rename_i x hx
    simp only [Option.bind_eq_some_iff] at hx
    obtain ⟨S2, h1, h2⟩ := hx
    obtain ⟨S, h3, h4⟩ := qnI hs h1
    simp only [Option.bind_eq_some_iff] at e
    obtain ⟨y, h5, e⟩ := e
    rw [qh2] at e
    obtain ⟨o, h6, h7⟩ := h.1 hb x y S (qmn h2 h4) h5
    exact ⟨_, e, o, by rw [qnz, h3, h6], h7⟩
   ·exact ih h.2 _ _ hs _ _ e
  ·exact ih h.2 _ _ hs _ _ e
theorem qtD {b : Nat} {x0 : Code} {hs : List SS} {os : List OS} {CO : FuncId → List V2 → List Blk2 → (List V2 × List Blk2 → Option (DS OS.D os)) → Option (DS OS.D os)} {LO : Nat → Code → St2 → (Out2 → Option (DS OS.D os)) → Option (DS OS.D os)}
  (hC : COk CO callF) (hL : qg1 (LOk LO c callF kp nt k p) b x0) (F : Nat → DS SS.D hs → Option (DS OS.D os)) (h0 : ∀ x, F 0 x = none)
  (hF : ∀ n x, F (n + 1) x = qiQ SS.enc (fun σ => qdN c CO LO nt b x0 σ (qoF c.T (kp b) p hs os (F n))) hs x) : qrv c callF kp nt k p b x0 ⟨b, hs, os, F k⟩ := by
 have key : ∀ n x y τ, StR (qg2 SS.enc hs x) τ → F n x = some y → ∃ o, qlf (qgm p (kp b)) (qa3 c callF kp nt k p b x0) n (some τ) = some o ∧ qcS (qg2 OS.enc os y) o := by
  intro n
  induction n with
  | zero => intro x y τ _ e; rw [h0] at e; cases e
  | succ n ih =>
   intro x y τ ht e
   rw [hF, qh2] at e
   obtain ⟨o2, e, o, h1, h2⟩ := qpW hC x0 b _ _ hL ht _ _ e
   cases o2 with
   | norm σ2 =>
    simp only [qoF, Option.bind_eq_some_iff] at e
    obtain ⟨x', ⟨S2, h3, h4⟩, e⟩ := e
    cases o <;> simp only [qcS] at h2
    rename_i τ'
    obtain ⟨S, h5, h6⟩ := qnI h2 h3
    obtain ⟨o, h7, h8⟩ := ih x' y S (qmn h4 h6) e
    refine ⟨o, ?_, h8⟩
    simp only [qhS, h1, qgY, qnz, h5, h7]
   | exit i σ2 =>
    have := qgT (enc := OS.enc) (Q := fun a b => ∀ v, qcS b v → qcS a v) (fun s a x h => OS.dec_ok s a x h) (l := os) e o h2
    refine ⟨o, ?_, this⟩
    cases o <;> simp only [qcS] at h2
    simp only [qhS, h1, qgY]
   | ret σ2 =>
    have := qgT (enc := OS.enc) (Q := fun a b => ∀ v, qcS b v → qcS a v) (fun s a x h => OS.dec_ok s a x h) (l := os) e o h2
    refine ⟨o, ?_, this⟩
    cases o <;> simp only [qcS] at h2
    simp only [qhS, h1, qgY]
 exact fun x y τ ht e => key k x y τ ht e

def bd (f : Func) : Code := f.body.getD .skip
theorem qhq {α β : Type} (enc : α → List Leaf → β × List Leaf) : ∀ (l : List α) (x : List Leaf), (qf2 enc l x).1.length = l.length
 | [], _ => rfl
 | s :: r, x => by simp only [qf2, List.length_cons, qhq enc r]
theorem qtE {f : FuncId} {fn : Func} {body : Code} {sh : FS} {os : List FS} (hX : c.X f = none) (hf : c.F f = some fn) (hb : fn.body = some body) (hl : sh.vs.length = fn.params.size + fn.nfree ∧ sh.vs.length ≤ fn.ntmps)
  {CO : FuncId → List V2 → List Blk2 → (List V2 × List Blk2 → Option (DS FS.D os)) → Option (DS FS.D os)} {LO : Nat → Code → St2 → (Out2 → Option (DS FS.D os)) → Option (DS FS.D os)}
  (hC : COk CO (call c k)) (hL : qg1 (LOk LO c (call c k) (c.keep f) fn.ntmps k sh.bs.length) 0 body) (F : sh.D → Option (DS FS.D os))
  (hF : ∀ x, F x = qlp c CO LO f fn.ntmps fn.results.toList body (sh.enc x).1 (sh.enc x).2 (qgf FS.dec os)) : qh (call c (k + 1)) ⟨f, sh, os, F⟩ := by
 intro x y e
 simp only [] at e
 rw [hF] at e
 have hlen : (sh.enc x).2.length = sh.bs.length := qhq _ _ _
 rw [← hlen] at hL
 obtain ⟨r, e, h1⟩ := qtC hC f fn body _ _ hL _ _ e
 have h2 := qgT (enc := FS.enc) (Q := fun a b => a = b) (fun s a x h => FS.dec_eq h) (l := os) e
 have hlv : (sh.enc x).1.length = sh.vs.length := qhq _ _ _
 simp only [call, hX, hf, Option.bind_some, hb, qn5, List.length_map]
 simp only [List.length_map] at h1
 rw [if_pos (by rw [hlv]; exact hl), h1, h2]
end

def zB : At → Value → Bool
 | .int k n, .int k' n' => decide (k = k') && decide (n = n')
 | .bool b, .bool b' => b == b'
 | .str s, .string s' => s.data.toList.isEmpty && s'.data.toList.isEmpty
 | .snil _ _, .slice none 0 0 => true
 | .nilp, .pointer none => true
 | _, _ => false
theorem qrx {h : Hp} {x : At} {v : Value} (e : zB x v = true) : RP h x v ∧ x.pr = true := by
 unfold zB at e
 split at e
 ·simp only [Bool.and_eq_true, decide_eq_true_eq] at e
  obtain ⟨rfl, rfl⟩ := e
  exact ⟨.int _ _, rfl⟩
 ·simp only [beq_iff_eq] at e; subst e; exact ⟨.bool _, rfl⟩
 ·rename_i s s'
  simp only [Bool.and_eq_true, List.isEmpty_iff] at e
  obtain ⟨h1, h2⟩ := e
  obtain ⟨⟨l⟩⟩ := s
  obtain ⟨⟨l'⟩⟩ := s'
  simp only at h1 h2
  subst h1 h2
  exact ⟨.str _, rfl⟩
 ·exact ⟨.snil _ _, rfl⟩
 ·exact ⟨.nilp, rfl⟩
 ·cases e

def zBs : List At → List Value → Bool
 | [], [] => true
 | x :: xs, v :: vs => zB x v && zBs xs vs
 | _, _ => false
theorem qkM {h : Hp} : ∀ {xs : List At} {vs : List Value}, zBs xs vs = true → xs.length = vs.length ∧ (∀ (j : Nat) (x : At), xs[j]? = some x → ∃ u, vs[j]? = some u ∧ RP h x u) ∧ ∀ x ∈ xs, x.pr = true := by
 intro xs
 induction xs with
 | nil => intro vs e; cases vs with
  | nil => exact ⟨rfl, by simp, by simp⟩
  | cons v vs => cases e
 | cons x xs ih =>
  intro vs e
  cases vs with
  | nil => cases e
  | cons v vs =>
   simp only [zBs, Bool.and_eq_true] at e
   obtain ⟨h1, h2⟩ := qrx (h := h) e.1
   obtain ⟨i1, i2, i3⟩ := ih e.2
   refine ⟨by simp [i1], fun j y hj => ?_, fun y hy => ?_⟩
   ·cases j with
    | zero => simp at hj; subst hj; exact ⟨v, rfl, h1⟩
    | succ j => simp at hj; simpa using i2 j y hj
   ·rcases List.mem_cons.1 hy with rfl | hy
    ·exact h2
    ·exact i3 y hy

def qiR (P : Program) : List (Nat × Nat) → List TypeId → List Field → Bool
 | [], [], [] => true
 | p :: ps, t :: ts, f :: fs => f.offset == p.1 && f.type == t && (match P.info? f.type with | some ti => ti.size == p.2 | none => false) && qiR P ps ts fs
 | _, _, _ => false
theorem qk7 {P : Program} : ∀ {ps : List (Nat × Nat)} {ts : List TypeId} {fs : List Field}, qiR P ps ts fs = true →
  ps.length = fs.length ∧ (∀ (j : Nat) (p : Nat × Nat), ps[j]? = some p → ∃ f, fs[j]? = some f ∧ f.offset = p.1 ∧ ∃ ti, P.info? f.type = some ti ∧ ti.size = p.2) ∧ (fs.map fun f => f.type) = ts := by
 intro ps
 induction ps with
 | nil => intro ts fs e; cases ts <;> cases fs <;> first | exact ⟨rfl, by simp, rfl⟩ | cases e
 | cons p ps ih =>
  intro ts fs e
  cases ts with
  | nil => cases e
  | cons t ts =>
   cases fs with
   | nil => cases e
   | cons f fs =>
    simp only [qiR, Bool.and_eq_true, beq_iff_eq] at e
    obtain ⟨⟨⟨e1, e2⟩, e3⟩, e4⟩ := e
    obtain ⟨i1, i2, i3⟩ := ih e4
    refine ⟨by simp [i1], fun j q hj => ?_, by simp [e2, i3]⟩
    cases j with
    | zero =>
     simp at hj
     subst hj
     refine ⟨f, rfl, e1, ?_⟩
     split at e3
     ·rename_i ti hti
      exact ⟨ti, hti, by simpa using e3⟩
     ·cases e3
    | succ j => simp at hj; simpa using i2 j q hj

def tdB (P : Program) : TD → TypeDesc → Bool
 | .int k, .int k' => decide (k = k')
 | .bool, .bool => true
 | .str, .string => true
 | .ptr, .pointer _ => true
 | .sl e, .slice e' => e == e'
 | .st ps ts, .struct F => qiR P ps ts F.toList
 | .arr n e, .array n' e' => n == n' && e == e'
 | .mp k e, .map k' e' => k == k' && e == e'
 | .oth, _ => true
 | _, _ => false
theorem qp0 {P : Program} {d : TD} {e : TypeDesc} (h : tdB P d e = true) : qkp P d e := by
 unfold tdB at h
 split at h
 ·simp only [decide_eq_true_eq] at h; subst h; exact rfl
 ·exact rfl
 ·exact rfl
 ·exact ⟨_, rfl⟩
 ·simp only [beq_iff_eq] at h; subst h; exact rfl
 ·rename_i ps ts F
  obtain ⟨h1, h2, h3⟩ := qk7 h
  refine ⟨F, rfl, by simpa using h1, fun j p hj => ?_, h3⟩
  obtain ⟨f, q1, q2⟩ := h2 j p hj
  exact ⟨f, by simpa using q1, q2⟩
 ·simp only [Bool.and_eq_true, beq_iff_eq] at h; obtain ⟨rfl, rfl⟩ := h; exact rfl
 ·simp only [Bool.and_eq_true, beq_iff_eq] at h; obtain ⟨rfl, rfl⟩ := h; exact rfl
 ·trivial
 ·cases h

def qss (P : Program) (t : TypeId) (i : TI) : Bool := i.agg || !(i.size == 1) || !(i.zero.length == i.size) || (match P.info? t with
 | some ti => (match ti.zero with | some z => z.oneCell' | none => true)
 | none => true)
def quB (P : Program) (t : TypeId) (i : TI) : Bool := qss P t i && ((match P.info? t with
  | some ti => ti.size == i.size && ti.bytes == i.bytes && (i.zero.length != i.size || (match ti.zero with | some z => z.cells.size == i.size && zBs i.zero z.cells.toList | none => false))
  | none => false) &&
 (match P.underlying t with
  | some d => tdB P i.d d && (qjL d == i.agg) && (!i.eqs || (match d with | .struct fs => !P.eqGuardType P.depth t && !P.stoodInHeld t && qiD P 0 fs.toList | _ => false))
  | none => false))
theorem quC {P : Program} {t : TypeId} {i : TI} (h : quB P t i = true) : TOk P t i := by
 unfold quB at h
 rw [Bool.and_eq_true, Bool.and_eq_true] at h
 obtain ⟨h0, h1, h2⟩ := h
 split at h1
 ·rename_i ti hti
  simp only [Bool.and_eq_true, beq_iff_eq, Bool.or_eq_true, bne_iff_ne] at h1
  obtain ⟨⟨a1, a2⟩, a3⟩ := h1
  refine ⟨⟨ti, hti, a1, a2⟩, ?_, fun hz => ?_, fun hagg hsz1 hzl ti' z hi' hz' => ?_, fun he => ?_⟩
  rotate_left 2
  ·unfold qss at h0
   simp only [hagg, hsz1, hzl, Bool.false_or, hi', hz', beq_self_eq_true, Bool.not_true] at h0
   exact h0
  rotate_left 1
  ·split at h2
   ·rename_i d hd
    simp only [Bool.and_eq_true, beq_iff_eq] at h2
    exact ⟨d, hd, qp0 h2.1.1, h2.1.2⟩
   ·cases h2
  ·rcases a3 with a3 | a3
   ·exact absurd hz a3
   ·split at a3
    ·rename_i z hzz
     simp only [Bool.and_eq_true, beq_iff_eq] at a3
     obtain ⟨b1, b2⟩ := a3
     refine ⟨ti, z, hti, hzz, b1, fun h j x hj => ?_, (qkM (h := fun _ => none) b2).2.2⟩
     obtain ⟨u, g1, g2⟩ := (qkM (h := h) b2).2.1 j x hj
     exact ⟨u, by simpa using g1, g2⟩
    ·cases a3
  ·split at h2
   ·rename_i d hd
    simp only [Bool.and_eq_true, beq_iff_eq, he, Bool.not_true, Bool.false_or] at h2
    obtain ⟨_, h3⟩ := h2
    split at h3
    ·rename_i fs _
     simp only [Bool.and_eq_true, Bool.not_eq_true'] at h3
     exact ⟨h3.1.1, h3.1.2, fs, hd, h3.2⟩
    ·cases h3
   ·cases h2
 ·cases h1

theorem qry {P : Program} (h : (P.funcs.toList.all fun fn => !(fn.name == "runtime.NumGoroutine")) = true) {f : FuncId} {fn : Func} (e : P.funcs[f]? = some fn) : P.funcs[f]? = some fn ∧ (fn.name == "runtime.NumGoroutine") = false := by
 refine ⟨e, ?_⟩
 rw [List.all_eq_true] at h
 have := h fn (by simpa using Array.mem_of_getElem? e)
 simpa using this
abbrev XA := List Vl → List Blk → Option (List Vl × List Blk)
abbrev XK := ∀ R : Type, List V2 → List Blk2 → (List V2 × List Blk2 → Option R) → Option R
def qbX (s : ByteArray) (c : Int) : Int := Go.Lib.indexByte s.data.toList c.toNat.toUInt8
def qrz (s t : ByteArray) : Int := Go.Lib.indexByte s.data.toList (t.data.toList.headD 0)
def qrA (s t : ByteArray) : Int := ((Go.Lib.countByte s.data.toList (t.data.toList.headD 0) : Nat) : Int)
def qeT : XA := fun args blks => match args, blks with
 | [.a (.str s), .a (.int .u8 c)], [] => some ([.a (.int .i64 (qbX s c))], [])
 | _, _ => none
def qgO : XK := fun R args blks K => match args, blks with
 | [.a (.str s), .a (.int .u8 c)], [] => K ([.a (.int .i64 (qbX s c))], [])
 | _, _ => none
def qgU : XA := fun args blks => match args, blks with
 | [.a (.str s), .a (.str t)], [] => if t.data.toList.length = 1 then some ([.a (.int .i64 (qrz s t))], []) else none
 | _, _ => none
def qiS : XK := fun R args blks K => match args, blks with
 | [.a (.str s), .a (.str t)], [] => if t.data.toList.length = 1 then K ([.a (.int .i64 (qrz s t))], []) else none
 | _, _ => none
def qgV : XA := fun args blks => match args, blks with
 | [.a (.str s), .a (.str t)], [] => if t.data.toList.length = 1 then some ([.a (.int .i64 (qrA s t))], []) else none
 | _, _ => none
def qiT : XK := fun R args blks K => match args, blks with
 | [.a (.str s), .a (.str t)], [] => if t.data.toList.length = 1 then K ([.a (.int .i64 (qrA s t))], []) else none
 | _, _ => none
def XOk (g : XA) (G : XK) : Prop := ∀ (R : Type) a b, Snd (R := R) (G R a b) fun r => g (a.map V2.at) (b.map Blk2.at) = some (r.1.map V2.at, r.2.map Blk2.at)
theorem qk8 : XOk qeT qgO := by
 intro R a b K r e
 unfold qgO at e
 split at e
 ·exact ⟨_, e, by simp [qeT, V2.at, A2.at]⟩
 ·cases e
theorem qoG : XOk qgU qiS := by
 intro R a b K r e
 unfold qiS at e
 split at e
 ·split at e
  ·rename_i h
   refine ⟨_, e, ?_⟩
   simp only [List.map_cons, List.map_nil, V2.at, A2.at, qgU]
   rw [if_pos h]
  ·cases e
 ·cases e
theorem qoH : XOk qgV qiT := by
 intro R a b K r e
 unfold qiT at e
 split at e
 ·split at e
  ·rename_i h
   refine ⟨_, e, ?_⟩
   simp only [List.map_cons, List.map_nil, V2.at, A2.at, qgV]
   rw [if_pos h]
  ·cases e
 ·cases e
section
variable {c : Cfg} {k : Nat}
theorem qjj {f : FuncId} {g : XA} {G : XK} {sh : FS} {os : List FS} (hX : c.X f = some g) (hG : XOk g G) (F : sh.D → Option (DS FS.D os))
  (hF : ∀ x, F x = G (DS FS.D os) (sh.enc x).1 (sh.enc x).2 (qgf FS.dec os)) : qh (call c (k + 1)) ⟨f, sh, os, F⟩ := by
 intro x y e
 simp only [] at e
 rw [hF] at e
 obtain ⟨r, e, h1⟩ := hG _ _ _ _ _ e
 have h2 := qgT (enc := FS.enc) (Q := fun a b => a = b) (fun s a x h => FS.dec_eq h) (l := os) e
 simp only [call, hX, h1, h2]
end
def Ty : TypeId → Option TI
 | 0 => some ⟨.oth, 1, 0, false, [], false⟩
 | 2 => some ⟨.int .i64, 1, 8, false, [.int .i64 0], false⟩
 | 3 => some ⟨.int .i64, 1, 8, false, [.int .i64 0], false⟩
 | 4 => some ⟨.bool, 1, 1, false, [.bool false], false⟩
 | 5 => some ⟨.int .u8, 1, 1, false, [.int .u8 0], false⟩
 | 9 => some ⟨.str, 1, 16, false, [.str ⟨#[]⟩], false⟩
 | 20 => some ⟨.oth, 1, 16, false, [], false⟩
 | 21 => some ⟨.int .i32, 1, 4, false, [.int .i32 0], false⟩
 | 22 => some ⟨.sl 9, 1, 24, false, [.snil 1 9], false⟩
 | 23 => some ⟨.sl 48, 1, 24, false, [.snil 13 48], false⟩
 | 25 => some ⟨.st [(0, 1), (1, 1)] [2, 3], 2, 16, true, [.int .i64 0, .int .i64 0], true⟩
 | 27 => some ⟨.st [(0, 1), (1, 1), (2, 2), (4, 1)] [22, 23, 25, 3], 5, 72, true, [.snil 1 9, .snil 13 48, .int .i64 0, .int .i64 0, .int .i64 0], false⟩
 | 31 => some ⟨.sl 3, 1, 24, false, [.snil 1 3], false⟩
 | 32 => some ⟨.int .i64, 1, 8, false, [.int .i64 0], false⟩
 | 33 => some ⟨.oth, 1, 0, false, [], false⟩
 | 35 => some ⟨.oth, 1, 0, false, [], false⟩
 | 42 => some ⟨.sl 25, 1, 24, false, [.snil 2 25], false⟩
 | 44 => some ⟨.st [(0, 1), (1, 1), (2, 1)] [3, 42, 31], 3, 56, true, [.int .i64 0, .snil 2 25, .snil 1 3], false⟩
 | 46 => some ⟨.st [(0, 1), (1, 1), (2, 1), (3, 1)] [9, 5, 42, 42], 4, 72, true, [.str ⟨#[]⟩, .int .u8 0, .snil 2 25, .snil 2 25], false⟩
 | 48 => some ⟨.st [(0, 1), (1, 1), (2, 1), (3, 1), (4, 2), (6, 3), (9, 4)] [5, 9, 31, 3, 25, 44, 46], 13, 200, true, [.int .u8 0, .str ⟨#[]⟩, .snil 1 3, .int .i64 0, .int .i64 0, .int .i64 0, .int .i64 0, .snil 2 25, .snil 1 3, .str ⟨#[]⟩, .int .u8 0, .snil 2 25, .snil 2 25], false⟩
 | 51 => some ⟨.sl 2, 1, 24, false, [.snil 1 2], false⟩
 | 53 => some ⟨.st [(0, 1), (1, 1), (2, 1), (3, 1)] [3, 51, 51, 31], 4, 80, true, [.int .i64 0, .snil 1 2, .snil 1 2, .snil 1 3], false⟩
 | 55 => some ⟨.oth, 1, 0, false, [], false⟩
 | 57 => some ⟨.oth, 1, 0, false, [], false⟩
 | 60 => some ⟨.int .u16, 1, 2, false, [.int .u16 0], false⟩
 | 64 => some ⟨.st [(0, 1), (1, 1), (2, 1)] [2, 2, 3], 3, 24, true, [.int .i64 0, .int .i64 0, .int .i64 0], true⟩
 | 65 => some ⟨.oth, 1, 0, false, [], false⟩
 | 67 => some ⟨.oth, 1, 0, false, [], false⟩
 | 69 => some ⟨.sl 106, 1, 24, false, [.snil 1 106], false⟩
 | 71 => some ⟨.st [(0, 1), (1, 1)] [4, 69], 2, 32, true, [.bool false, .snil 1 106], false⟩
 | 73 => some ⟨.st [(0, 2), (2, 2)] [71, 71], 4, 64, true, [.bool false, .snil 1 106, .bool false, .snil 1 106], false⟩
 | 74 => some ⟨.oth, 1, 0, false, [], false⟩
 | 76 => some ⟨.oth, 1, 0, false, [], false⟩
 | 78 => some ⟨.oth, 1, 0, false, [], false⟩
 | 80 => some ⟨.oth, 1, 0, false, [], false⟩
 | 106 => some ⟨.int .u32, 1, 4, false, [.int .u32 0], false⟩
 | 115 => some ⟨.sl 3, 1, 24, false, [.snil 1 3], false⟩
 | 120 => some ⟨.sl 4, 1, 24, false, [.snil 1 4], false⟩
 | 122 => some ⟨.sl 125, 1, 24, false, [.snil 2 125], false⟩
 | 125 => some ⟨.st [(0, 1), (1, 1)] [3, 3], 2, 16, true, [.int .i64 0, .int .i64 0], true⟩
 | 130 => some ⟨.oth, 1, 8, false, [], false⟩
 | 132 => some ⟨.oth, 1, 0, false, [], false⟩
 | 136 => some ⟨.oth, 1, 0, false, [], false⟩
 | 145 => some ⟨.ptr, 1, 8, false, [.nilp], false⟩
 | 147 => some ⟨.st [(0, 1), (1, 1)] [4, 69], 2, 32, true, [.bool false, .snil 1 106], false⟩
 | 151 => some ⟨.ptr, 1, 8, false, [.nilp], false⟩
 | 154 => some ⟨.st [(0, 1), (1, 1)] [4, 31], 2, 32, true, [.bool false, .snil 1 3], false⟩
 | 159 => some ⟨.st [(0, 2), (2, 2)] [154, 154], 4, 64, true, [.bool false, .snil 1 3, .bool false, .snil 1 3], false⟩
 | 162 => some ⟨.oth, 1, 8, false, [], false⟩
 | 180 => some ⟨.st [(0, 2), (2, 2)] [147, 147], 4, 64, true, [.bool false, .snil 1 106, .bool false, .snil 1 106], false⟩
 | 205 => some ⟨.int .u64, 1, 8, false, [.int .u64 0], false⟩
 | 207 => some ⟨.int .u64, 1, 8, false, [.int .u64 0], false⟩
 | 214 => some ⟨.oth, 1, 0, false, [], false⟩
 | 216 => some ⟨.sl 73, 1, 24, false, [.snil 4 73], false⟩
 | 253 => some ⟨.oth, 1, 0, false, [], false⟩
 | 261 => some ⟨.mp 9 3, 1, 8, false, [], false⟩
 | 262 => some ⟨.mp 5 3, 1, 8, false, [], false⟩
 | 264 => some ⟨.arr 2 42, 2, 48, true, [.snil 2 25, .snil 2 25], false⟩
 | 268 => some ⟨.oth, 1, 0, false, [], false⟩
 | 270 => some ⟨.oth, 1, 0, false, [], false⟩
 | 274 => some ⟨.sl 5, 1, 24, false, [.snil 1 5], false⟩
 | 276 => some ⟨.oth, 1, 0, false, [], false⟩
 | 278 => some ⟨.oth, 1, 0, false, [], false⟩
 | 284 => some ⟨.st [(0, 1), (1, 1)] [5, 5], 2, 2, true, [.int .u8 0, .int .u8 0], true⟩
 | 285 => some ⟨.arr 16 284, 32, 32, true, [.int .u8 0, .int .u8 0, .int .u8 0, .int .u8 0, .int .u8 0, .int .u8 0, .int .u8 0, .int .u8 0, .int .u8 0, .int .u8 0, .int .u8 0, .int .u8 0, .int .u8 0, .int .u8 0, .int .u8 0, .int .u8 0, .int .u8 0, .int .u8 0, .int .u8 0, .int .u8 0, .int .u8 0, .int .u8 0, .int .u8 0, .int .u8 0, .int .u8 0, .int .u8 0, .int .u8 0, .int .u8 0, .int .u8 0, .int .u8 0, .int .u8 0, .int .u8 0], false⟩
 | _ => none
def kps : FuncId → Nat → List Kp
 | 3, 0 => [.s 1, .b 2, .b 5, .s 6, .s 10, .s 77, .s 78]
 | 4, 0 => [.s 1, .b 3, .s 7, .s 9, .b 10, .s 11, .s 13, .s 80, .s 81, .s 82]
 | 4, 2 => [.s 1, .b 3, .s 7, .s 9, .b 10, .s 11, .s 13, .s 15, .s 80, .s 81, .s 82]
 | 8, 0 => [.s 3, .s 4, .s 5, .b 6, .s 7, .s 8, .s 9, .s 45, .s 46, .s 47]
 | 14, 0 => [.b 1, .s 3, .s 4]
 | 15, 0 => [.b 1, .b 2, .b 3, .s 4]
 | 16, 0 => [.b 2, .s 7, .s 8, .s 28, .s 29, .s 30]
 | 16, 2 => [.s 7, .s 11, .s 66, .s 67]
 | 17, 0 => [.s 1, .s 7, .s 8, .s 22, .s 23, .s 24]
 | 18, 0 => [.s 7, .s 8, .s 9]
 | 19, 0 => [.s 1, .b 2, .s 7, .s 8, .s 9]
 | 20, 0 => [.s 0, .s 1, .s 5]
 | 23, 0 => [.b 2, .b 3, .s 5]
 | 24, 0 => [.b 1, .s 3, .s 4]
 | 24, 2 => [.b 1, .s 3, .s 5]
 | 26, 0 => [.b 2, .s 5, .s 6]
 | 27, 0 => [.b 3, .b 4, .s 14, .s 15, .s 52, .s 53, .s 54]
 | 28, 0 => [.s 2, .b 3, .b 4, .s 10, .s 11, .s 12]
 | 29, 0 => [.b 2, .b 3, .s 8, .s 9]
 | 31, 0 => [.s 0, .s 5, .s 6, .s 7]
 | 32, 0 => [.s 0, .b 2, .s 5, .s 15, .s 16, .s 17]
 | 33, 0 => [.s 0, .b 2, .b 4, .s 5]
 | 34, 0 => [.s 0, .s 1, .s 2, .s 8]
 | 35, 0 => [.s 0, .s 1, .s 2, .s 8, .s 9]
 | 36, 0 => [.s 0, .s 1, .s 2, .s 8]
 | 37, 0 => [.s 0, .s 1, .s 2, .s 8, .s 9]
 | 39, 0 => [.s 0, .s 1, .s 5]
 | 40, 0 => [.s 0, .s 3]
 | 58, 0 => [.s 3, .s 7, .s 8]
 | 61, 0 => [.s 0, .s 1]
 | 63, 0 => [.s 0, .s 2, .s 7, .s 8]
 | 63, 2 => [.s 0, .s 2, .s 7, .s 8, .s 9]
 | 64, 0 => [.s 1, .b 2, .s 5, .s 6]
 | 65, 0 => [.s 0, .s 1, .s 5]
 | 68, 1 => [.b 2, .b 3, .s 5, .s 6, .s 7, .s 8, .s 9, .s 10]
 | 69, 0 => [.s 0, .s 3, .s 4, .s 5]
 | 70, 0 => [.s 0, .s 3]
 | 71, 0 => [.b 1, .s 4, .s 5, .s 6]
 | 73, 0 => [.b 2, .b 3, .s 67, .s 68, .s 69]
 | 75, 0 => [.s 1, .s 9, .s 10, .s 11]
 | 77, 0 => [.s 1, .b 2, .s 6]
 | 80, 0 => [.b 1, .s 3, .s 4]
 | 81, 0 => [.s 0, .s 3]
 | 84, 0 => [.s 0, .s 3, .s 4]
 | 85, 0 => [.s 0, .s 3, .s 4]
 | 91, 0 => [.b 2, .b 3, .s 4]
 | 94, 0 => [.s 0, .b 2, .b 3]
 | 97, 0 => [.b 2, .b 3, .s 5]
 | 98, 0 => [.s 3, .s 6, .s 7, .s 8]
 | 120, 0 => [.b 1, .s 59, .s 60, .s 61]
 | 120, 2 => [.b 1, .s 5, .s 70, .s 71, .s 72]
 | 122, 0 => [.b 2, .b 3, .s 5]
 | 124, 0 => [.b 1, .s 3]
 | 124, 2 => [.b 1, .s 4]
 | 125, 0 => [.b 1, .s 3]
 | 125, 2 => [.b 1, .s 4]
 | 126, 0 => [.s 0, .s 3]
 | 127, 0 => [.s 0, .s 1, .s 5]
 | 130, 0 => [.s 3, .s 7, .s 8, .s 9]
 | 137, 0 => [.s 0, .s 1, .s 7, .s 8]
 | 138, 0 => [.s 0, .s 1, .s 5]
 | 141, 0 => [.s 0, .s 3]
 | 145, 0 => [.s 0, .s 1, .s 5, .s 6, .s 7]
 | 146, 0 => [.s 0, .s 1, .s 5]
 | 147, 0 => [.s 0, .s 1, .s 5, .s 6, .s 7]
 | 148, 0 => [.b 1, .b 2, .b 3, .s 4]
 | 151, 0 => [.b 2, .b 3, .b 4]
 | 152, 0 => [.b 2, .b 3, .b 4, .b 5, .s 6, .s 7, .s 8]
 | 155, 0 => [.s 0, .s 1, .s 2, .s 7, .s 29, .s 30, .s 31]
 | 155, 2 => [.s 0, .s 1, .s 2, .s 7, .s 8, .s 9, .s 10, .s 29, .s 30, .s 31, .s 39, .s 40, .s 41]
 | 183, 0 => [.s 0, .s 3, .s 7, .s 8, .s 9]
 | 185, 0 => [.b 2, .b 3, .s 30, .s 31, .s 32]
 | 186, 0 => [.s 4, .s 5, .s 14, .s 15, .s 16]
 | 188, 0 => [.s 0, .s 1, .s 5]
 | 189, 0 => [.s 0, .s 3]
 | 192, 0 => [.b 1, .s 18, .s 19]
 | 192, 2 => [.b 1, .s 18, .s 19, .s 22, .s 23, .s 24]
 | 192, 5 => [.b 1, .s 7]
 | 193, 0 => [.s 0, .s 1, .s 2, .s 3, .s 9, .s 10]
 | 194, 0 => [.s 0, .s 1, .s 7, .s 8]
 | 197, 0 => [.s 0, .s 1, .s 7, .s 8]
 | 199, 0 => [.s 0, .s 1, .s 5, .s 6, .s 21, .s 22]
 | 200, 0 => [.s 0, .s 1, .s 5]
 | 201, 0 => [.s 0, .s 1, .s 5, .s 6, .s 13, .s 14]
 | 203, 0 => [.s 5, .s 6]
 | 205, 0 => [.s 0, .s 3]
 | 207, 0 => [.s 0, .s 1, .s 5, .s 6]
 | 208, 0 => [.b 2, .b 3, .b 4, .s 5, .s 6]
 | 208, 2 => [.b 2, .b 3, .b 4, .s 5, .s 6, .s 7, .s 8]
 | 217, 0 => [.s 0, .b 2, .b 3, .s 4]
 | 222, 0 => [.b 1, .s 9, .s 10, .s 11]
 | 222, 2 => [.b 1, .s 20, .s 21, .s 22]
 | 222, 5 => [.b 1, .s 7]
 | 226, 0 => [.s 14, .s 15, .s 16]
 | 228, 0 => [.s 0, .s 1, .s 6, .s 7]
 | 229, 0 => [.s 0, .s 1, .s 5]
 | 234, 0 => [.s 3, .s 4, .s 7, .s 8]
 | 237, 0 => [.s 2, .s 4]
 | 241, 0 => [.s 0, .s 1, .s 6, .s 7, .s 8]
 | 242, 0 => [.s 0, .s 1, .s 6]
 | 242, 2 => [.s 4, .s 6, .s 7, .s 8, .s 9, .s 10]
 | 242, 4 => [.s 4, .s 6, .s 7, .s 8, .s 9, .s 10, .s 12, .s 13]
 | 242, 6 => [.s 4, .s 5, .s 6, .s 8, .s 139, .s 140]
 | 247, 0 => [.s 1, .s 5, .s 13, .s 14, .s 15]
 | 248, 0 => [.s 0, .s 1, .s 2, .s 7, .s 8, .s 14, .s 15]
 | 248, 2 => [.s 0, .s 1, .s 2, .s 7, .s 61, .s 62]
 | _, _ => []
def qyU : FuncId → Bool
 | 248 => true
 | 205 => true
 | 61 => true
 | 60 => true
 | _ => false
def qyV : FuncId → Bool
 | 15 => true
 | 58 => true
 | 101 => true
 | 158 => true
 | 205 => true
 | 247 => true
 | 16 => true
 | 17 => true
 | 63 => true
 | _ => false
def qxv : FuncId → Bool
 | 63 => true
 | _ => false
def xas : FuncId → Option XA
 | 59 => some qeT
 | 230 => some qgU
 | 229 => some qgV
 | _ => none
noncomputable def cf : Cfg := { T := Ty, F := fun f => Tryz.prog.funcs[f]?, X := xas, mutA := qyU, ownR := qyV, keep := kps, lend := qxv }
end Go.Proofs.YtlnailgfialgnaaGreatDoor.Am
namespace Go.Proofs.YtlnailgfialgnaaGreatDoor.Am
open Go Go.Sort
section
variable {P : Program}
def qls (P : Program) (f : FuncId) (g : XA) : Prop := ∀ args blks rs bs, g args blks = some (rs, bs) → qgv P f ∧ ∀ (w : World) (ι : Io) (h : Hp) (vals : Array Value), RVs ι h args vals.toList → (∀ m ∈ qd args, m < blks.length) → Mm ι h w blks →
  Calls P f vals w fun e w' => ∃ (us : Array Value) (ι' : Io) (h' : Hp), e = .returned (qfq us) ∧ Post ι h w blks rs bs us.toList w' ι' h'
theorem qp1 (v : Value) : qfq #[v] = v := by simp [qfq]
theorem qjk {f : FuncId} {g : XA} (hE : qgv P f) (hg : ∀ args blks rs bs, g args blks = some (rs, bs) → blks = [] ∧ bs = [] ∧ ∃ z : Int, rs = [.a (.int .i64 z)] ∧ ∀ (ι : Io) (h : Hp) (w : World) (vals : Array Value), RVs ι h args vals.toList →
  Calls P f vals w fun e w' => e = .returned (.int .i64 z) ∧ w' = w) : qls P f g := by
 intro args blks rs bs e
 obtain ⟨rfl, rfl, z, rfl, hc⟩ := hg args blks rs bs e
 refine ⟨hE, fun w ι h vals hv hn hm => (hc ι h w vals hv).mono ?_⟩
 rintro e w' ⟨rfl, rfl⟩
 refine ⟨#[.int .i64 z], ι, h, by rw [qp1], ⟨⟨rfl, fun j x hx => ?_⟩, fun m hm => ?_, Sub.refl h, Nat.le_refl _, fun _ _ => rfl, hm, fun i B L hB => ?_, fun i B L hB => ?_, fun _ _ _ => rfl, fun _ _ _ => rfl, Nat.le_refl _, rfl, rfl, rfl⟩⟩
 ·cases j with
  | succ j => simp at hx
  | zero => cases hx; exact ⟨_, rfl, .int _ _⟩
 ·simp [qd, Vl.cells, At.nm] at hm
 ·simp at hB
 ·simp at hB
theorem qkA {vals : Array Value} {ι : Io} {h : Hp} {x y : Vl} (hv : RVs ι h [x, y] vals.toList) : ∃ u v, vals = #[u, v] ∧ RV ι h x u ∧ RV ι h y v := by
 obtain ⟨u, h1, h2⟩ := hv.2 0 x rfl
 obtain ⟨v, h3, h4⟩ := hv.2 1 y rfl
 refine ⟨u, v, ?_, h2, h4⟩
 have hl := hv.1
 cases vals with | mk l =>
 match l, hl, h1, h3 with
 | [a, b], _, h1, h3 => simp at h1 h3; rw [h1, h3]
theorem qmo {t : ByteArray} (h : t.data.toList.length = 1) : t = ⟨#[t.data.toList.headD 0]⟩ := by
 cases t with | mk d => cases d with | mk l =>
 match l, h with
 | [b], _ => rfl
theorem qna {f : FuncId} (hE : qgv P f) (hS : ∀ (s : ByteArray) (c : Int) (w : World), Calls P f #[.string s, .int .u8 c] w fun e w' => e = .returned (.int .i64 (Go.Lib.indexByte s.data.toList c.toNat.toUInt8)) ∧ w' = w) : qls P f qeT := by
 refine qjk hE fun args blks rs bs e => ?_
 unfold qeT at e
 split at e
 ·rename_i s c
  cases e
  refine ⟨rfl, rfl, _, rfl, fun ι h w vals hv => ?_⟩
  obtain ⟨u, v, rfl, r1, r2⟩ := qkA hv
  have r1 : RP h _ _ := r1
  have r2 : RP h _ _ := r2
  cases r1; cases r2
  exact hS s c w
 ·cases e
theorem qrB {f : FuncId} (hE : qgv P f) (hS : ∀ (s : ByteArray) (c : UInt8) (w : World), Calls P f #[.string s, .string ⟨#[c]⟩] w fun e w' => e = .returned (.int .i64 (Go.Lib.indexByte s.data.toList c)) ∧ w' = w) : qls P f qgU := by
 refine qjk hE fun args blks rs bs e => ?_
 unfold qgU at e
 split at e
 ·rename_i s t
  split at e
  ·rename_i h1
   cases e
   refine ⟨rfl, rfl, _, rfl, fun ι h w vals hv => ?_⟩
   obtain ⟨u, v, rfl, r1, r2⟩ := qkA hv
   have r1 : RP h _ _ := r1
   have r2 : RP h _ _ := r2
   cases r1; cases r2
   have := hS s (t.data.toList.headD 0) w
   rw [← qmo h1] at this
   exact this
  ·cases e
 ·cases e
theorem qrC {f : FuncId} (hE : qgv P f) (hS : ∀ (s : ByteArray) (c : UInt8) (w : World), Calls P f #[.string s, .string ⟨#[c]⟩] w fun e w' => e = .returned (.int .i64 ((Go.Lib.countByte s.data.toList c : Nat) : Int)) ∧ w' = w) : qls P f qgV := by
 refine qjk hE fun args blks rs bs e => ?_
 unfold qgV at e
 split at e
 ·rename_i s t
  split at e
  ·rename_i h1
   cases e
   refine ⟨rfl, rfl, _, rfl, fun ι h w vals hv => ?_⟩
   obtain ⟨u, v, rfl, r1, r2⟩ := qkA hv
   have r1 : RP h _ _ := r1
   have r2 : RP h _ _ := r2
   cases r1; cases r2
   have := hS s (t.data.toList.headD 0) w
   rw [← qmo h1] at this
   exact this
  ·cases e
 ·cases e
end
end Go.Proofs.YtlnailgfialgnaaGreatDoor.Am
set_option maxRecDepth 100000
namespace Go.Proofs.YtlnailgfialgnaaGreatDoor.Am
open Go Go.Shelf
def qmp : Go.Shelf.Ren := ⟨fun | 137 => 59 | 217 => 121 | 266 => 187 | n => n, fun | 9 => 9 | 5 => 5 | 3 => 3 | n => n, fun | n => n⟩
theorem qrD : Go.Proofs.Lays.n137 Tryz.prog qmp := {
 mixed := by kernel_rfl
 f137 := Tryz.func59.trans (congrArg some (by kernel_rfl))
 f217 := Tryz.func121.trans (congrArg some (by kernel_rfl))
 f266 := Tryz.func187.trans (congrArg some (by kernel_rfl))
 t3 := Tryz.underlying3
 a3 := Tryz.isAgg3
 z3 := Tryz.sizeOf3
 v3 := Tryz.zeroValue3
 t5 := Tryz.underlying5
 a5 := Tryz.isAgg5
 z5 := Tryz.sizeOf5
 v5 := Tryz.zeroValue5
 t9 := Tryz.underlying9
 a9 := Tryz.isAgg9
 z9 := Tryz.sizeOf9
 v9 := Tryz.zeroValue9 }
def qmq : Go.Shelf.Ren := ⟨fun | 143 => 230 | 219 => 240 | 217 => 121 | 225 => 244 | 224 => 245 | 267 => 246 | 266 => 187 | 314 => 249 | n => n, fun | 9 => 9 | 3 => 3 | 4 => 4 | 5 => 5 | 46 => 207 | 146 => 286 | 51 => 106 | n => n, fun | 1 => 0 | n => n⟩
theorem qrE : Go.Proofs.Lays.n143 Tryz.prog qmq := {
 mixed := by kernel_rfl
 f143 := Tryz.func230.trans (congrArg some (by kernel_rfl))
 f217 := Tryz.func121.trans (congrArg some (by kernel_rfl))
 f219 := Tryz.func240.trans (congrArg some (by kernel_rfl))
 f224 := Tryz.func245.trans (congrArg some (by kernel_rfl))
 f225 := Tryz.func244.trans (congrArg some (by kernel_rfl))
 f266 := Tryz.func187.trans (congrArg some (by kernel_rfl))
 f267 := Tryz.func246.trans (congrArg some (by kernel_rfl))
 f314 := Tryz.func249.trans (congrArg some (by kernel_rfl))
 t3 := Tryz.underlying3
 a3 := Tryz.isAgg3
 z3 := Tryz.sizeOf3
 v3 := Tryz.zeroValue3
 t4 := Tryz.underlying4
 a4 := Tryz.isAgg4
 z4 := Tryz.sizeOf4
 v4 := Tryz.zeroValue4
 t5 := Tryz.underlying5
 a5 := Tryz.isAgg5
 z5 := Tryz.sizeOf5
 v5 := Tryz.zeroValue5
 t9 := Tryz.underlying9
 a9 := Tryz.isAgg9
 z9 := Tryz.sizeOf9
 v9 := Tryz.zeroValue9
 t46 := Tryz.underlying207
 a46 := Tryz.isAgg207
 z46 := Tryz.sizeOf207
 v46 := Tryz.zeroValue207
 t51 := Tryz.underlying106
 a51 := Tryz.isAgg106
 z51 := Tryz.sizeOf106
 v51 := Tryz.zeroValue106
 t146 := Tryz.underlying286
 a146 := Tryz.isAgg286
 z146 := Tryz.sizeOf286
 v146 := Tryz.zeroValue286
 g1 := by kernel_rfl }
def qmr : Go.Shelf.Ren := ⟨fun | 138 => 229 | 195 => 237 | 218 => 239 | 143 => 230 | 219 => 240 | 217 => 121 | 225 => 244 | 224 => 245 | 267 => 246 | 266 => 187 | 314 => 249 | n => n, fun | 9 => 9 | 3 => 3 | 4 => 4 | 5 => 5 | 0 => 0 | 46 => 207 | 146 => 286 | 51 => 106 | n => n, fun | 1 => 0 | n => n⟩
theorem qrF : Go.Proofs.Lays.n138 Tryz.prog qmr := {
 mixed := by kernel_rfl
 f138 := Tryz.func229.trans (congrArg some (by kernel_rfl))
 f143 := Tryz.func230.trans (congrArg some (by kernel_rfl))
 f195 := Tryz.func237.trans (congrArg some (by kernel_rfl))
 f217 := Tryz.func121.trans (congrArg some (by kernel_rfl))
 f218 := Tryz.func239.trans (congrArg some (by kernel_rfl))
 f219 := Tryz.func240.trans (congrArg some (by kernel_rfl))
 f224 := Tryz.func245.trans (congrArg some (by kernel_rfl))
 f225 := Tryz.func244.trans (congrArg some (by kernel_rfl))
 f266 := Tryz.func187.trans (congrArg some (by kernel_rfl))
 f267 := Tryz.func246.trans (congrArg some (by kernel_rfl))
 f314 := Tryz.func249.trans (congrArg some (by kernel_rfl))
 t0 := Tryz.underlying0
 a0 := Tryz.isAgg0
 z0 := Tryz.sizeOf0
 v0 := Tryz.zeroValue0
 t3 := Tryz.underlying3
 a3 := Tryz.isAgg3
 z3 := Tryz.sizeOf3
 v3 := Tryz.zeroValue3
 t4 := Tryz.underlying4
 a4 := Tryz.isAgg4
 z4 := Tryz.sizeOf4
 v4 := Tryz.zeroValue4
 t5 := Tryz.underlying5
 a5 := Tryz.isAgg5
 z5 := Tryz.sizeOf5
 v5 := Tryz.zeroValue5
 t9 := Tryz.underlying9
 a9 := Tryz.isAgg9
 z9 := Tryz.sizeOf9
 v9 := Tryz.zeroValue9
 t46 := Tryz.underlying207
 a46 := Tryz.isAgg207
 z46 := Tryz.sizeOf207
 v46 := Tryz.zeroValue207
 t51 := Tryz.underlying106
 a51 := Tryz.isAgg106
 z51 := Tryz.sizeOf106
 v51 := Tryz.zeroValue106
 t146 := Tryz.underlying286
 a146 := Tryz.isAgg286
 z146 := Tryz.sizeOf286
 v146 := Tryz.zeroValue286
 g1 := by kernel_rfl }

theorem qxw : ∀ f g args blks rs bs, cf.X f = some g → g args blks = some (rs, bs) → qgv Tryz.prog f ∧ ∀ (w : World) (ι : Io) (h : Hp) (vals : Array Value), RVs ι h args vals.toList → (∀ m ∈ qd args, m < blks.length) → Mm ι h w blks →
  Calls Tryz.prog f vals w fun e w' => ∃ (us : Array Value) (ι' : Io) (h' : Hp), e = .returned (qfq us) ∧ Post ι h w blks rs bs us.toList w' ι' h' := by
 intro f g args blks rs bs h
 change xas f = some g at h
 unfold xas at h
 split at h
 ·cases h; exact qna ⟨_, Tryz.func59, by kernel_rfl, by kernel_rfl⟩ (fun s c w => Any.strings_IndexByte qrD s c w) args blks rs bs
 ·cases h; exact qrB ⟨_, Tryz.func230, by kernel_rfl, by kernel_rfl⟩ (fun s c w => Any.strings_Index_one qrE s c w) args blks rs bs
 ·cases h; exact qrC ⟨_, Tryz.func229, by kernel_rfl, by kernel_rfl⟩ (fun s c w => Any.strings_Count_one qrF s c w) args blks rs bs
 ·cases h
end Go.Proofs.YtlnailgfialgnaaGreatDoor.Am
namespace Go.Proofs.YtlnailgfialgnaaGreatDoor.Am
open Go
theorem qxx : qbr Tryz.prog Ty := by
 intro t i h
 unfold Ty at h
 split at h <;> first | (cases h; done) | (cases h; exact quC (by kernel_rfl))
theorem qbD : (Tryz.prog.funcs.toList.all fun fn => !(fn.name == "runtime.NumGoroutine")) = true := by kernel_rfl
theorem quD : CfgOk Tryz.prog cf :=
 { ty := qxx, fn := fun f fn e => qry qbD e, ext := qxw, mo := by kernel_rfl }
def lpL : Nat → Code → List (Nat × Code)
 | b, .seq x y => lpL b x ++ lpL b y
 | b, .cond _ x y => lpL b x ++ lpL b y
 | _, .block id x => lpL id x
 | b, .loop x => [(b, x)]
 | _, _ => []
theorem lall {Q : Nat → Code → Prop} (x : Code) : ∀ (b : Nat), (∀ q ∈ lpL b x, Q q.1 q.2) → qg1 Q b x := by
 induction x with
 | seq x y hx hy => exact fun b h => ⟨hx b fun q m => h q (List.mem_append_left _ m), hy b fun q m => h q (List.mem_append_right _ m)⟩
 | cond _ x y hx hy => exact fun b h => ⟨hx b fun q m => h q (List.mem_append_left _ m), hy b fun q m => h q (List.mem_append_right _ m)⟩
 | block id x hx => exact fun b h => hx id h
 | loop x _ => exact fun b h => h (b, x) (List.mem_singleton.2 rfl)
 | _ => exact fun _ _ => trivial
def lbF (q : Nat) : Nat → Code → Option Code
 | b, .seq x y => (lbF q b x).or (lbF q b y)
 | b, .cond _ x y => (lbF q b x).or (lbF q b y)
 | _, .block id x => lbF q id x
 | b, .loop x => if b = q then some x else lbF q b x
 | _, _ => none
def lbB (fn : Func) (q : Nat) : Code := (lbF q 0 (bd fn)).getD .skip
def LIo (f : FuncId) (fn : Func) (p k : Nat) (i : LInst) : Prop := qrv cf (call cf k) (kps f) fn.ntmps k p i.b (lbB fn i.b) i
def LLo (f : FuncId) (fn : Func) (p k : Nat) : List LInst → Prop
 | [] => True
 | i :: r => LIo f fn p k i ∧ LLo f fn p k r
theorem a0 {cl : FuncId → List Vl → List Blk → Option (List Vl × List Blk)} : qa5 cl [] := trivial
theorem ac {cl : FuncId → List Vl → List Blk → Option (List Vl × List Blk)} {i : Inst} {r : List Inst} (h : qh cl i) (t : qa5 cl r) : qa5 cl (i :: r) := ⟨h, t⟩
theorem l0 {f : FuncId} {fn : Func} {p k : Nat} : LLo f fn p k [] := trivial
theorem lc {f : FuncId} {fn : Func} {p k : Nat} {i : LInst} {r : List LInst} (h : LIo f fn p k i) (t : LLo f fn p k r) : LLo f fn p k (i :: r) := ⟨h, t⟩
theorem LLo.all {f : FuncId} {fn : Func} {p k : Nat} (b : Nat) : ∀ {l : List LInst}, LLo f fn p k l → qrw cf (call cf k) (kps f) fn.ntmps k p b (lbB fn b) l
 | [], _ => trivial
 | _ :: _, h => ⟨fun e => e ▸ h.1, LLo.all b h.2⟩
theorem LLo.lall {R : Type} {f : FuncId} {fn : Func} {p k b : Nat} {x : Code} {l : List LInst} (h : LLo f fn p k l) {qs : List Nat} (hq : lpL b x = qs.map fun q => (q, lbB fn q)) :
  qg1 (LOk (R := R) (fun b _ σ K => LOt Ty (kps f) p b σ K l) cf (call cf k) (kps f) fn.ntmps k p) b x := by
 refine Am.lall x b fun q m => ?_
 rw [hq] at m
 obtain ⟨i, _, rfl⟩ := List.mem_map.1 m
 exact quA (c := cf) (h.all i)
def mkL (b : Nat) (hs : List SS) (os : List OS) (L : Nat → DS SS.D hs → Option (DS OS.D os)) (k : Nat) : LInst := ⟨b, hs, os, L k⟩
def mkI (f : FuncId) (sh : FS) (os : List FS) (U : Nat → sh.D → Option (DS FS.D os)) (k : Nat) : Inst := ⟨f, sh, os, U k⟩
theorem lpk {f : FuncId} {fn : Func} {p k b : Nat} {hs : List SS} {os : List OS} {L : Nat → DS SS.D hs → Option (DS OS.D os)} (qs : List Nat) {is : List Inst} {ls : List LInst} (hC : qa5 (call cf k) is) (hl : LLo f fn p k ls)
  (h0 : ∀ x, L 0 x = none) (hq : lpL b (lbB fn b) = qs.map fun q => (q, lbB fn q))
  (hF : ∀ n x, L (n + 1) x = qiQ SS.enc (fun σ => qdN cf (fun f a b K => COt f a b K is) (fun b _ σ K => LOt Ty (kps f) p b σ K ls) fn.ntmps b (lbB fn b) σ (qoF Ty (kps f b) p hs os (L n))) hs x) : LIo f fn p k (mkL b hs os L k) :=
 qtD (c := cf) (qpZ hC) (hl.lall hq) L h0 hF
theorem fnk {f : FuncId} {fn : Func} {sh : FS} {os : List FS} {U : Nat → sh.D → Option (DS FS.D os)} (p : Nat) (qs : List Nat) (hf : cf.F f = some fn) {is : Nat → List Inst} {ls : Nat → List LInst} (hC : ∀ k, qa5 (call cf k) (is k)) (hl : ∀ k, LLo f fn p k (ls k))
  (hz : cf.X f = none ∧ fn.body = some (bd fn) ∧ (sh.vs.length = fn.params.size + fn.nfree ∧ sh.vs.length ≤ fn.ntmps) ∧ sh.bs.length = p) (h0 : ∀ x, U 0 x = none) (hq : lpL 0 (bd fn) = qs.map fun q => (q, lbB fn q))
  (hF : ∀ k x, U (k + 1) x = qlp cf (fun f a b K => COt f a b K (is k)) (fun b _ σ K => LOt Ty (kps f) p b σ K (ls k)) f fn.ntmps fn.results.toList (bd fn) (sh.enc x).1 (sh.enc x).2 (qgf FS.dec os)) : ∀ k, qh (call cf k) (mkI f sh os U k)
 | 0 => fun x y e => absurd ((h0 x).symm.trans e) (by simp)
 | k + 1 => qtE hz.1 hf hz.2.1 hz.2.2.1 (qpZ (hC k)) (hz.2.2.2 ▸ (hl k).lall hq) (U (k + 1)) (hz.2.2.2 ▸ hF k)
abbrev vI : ShV := .a (.lf (.int .i64))
abbrev vB : ShV := .a (.lf .bool)
abbrev vJ : ShV := .a (.lf (.sl (.int .i64)))
abbrev vT : ShV := .a (.lf (.sl (.int .u32)))
abbrev vS : ShV := .a (.lf .str)
abbrev vU : ShV := .a (.lf (.int .u64))
abbrev vR : ShV := .a (.lf (.sl .str))
abbrev cW : Cd := .sl (.int .u32)
abbrev cE : Cd := .sl (.pr (.int .i64) (.int .i64))
end Go.Proofs.YtlnailgfialgnaaGreatDoor.Am
namespace Go.Proofs.YtlnailgfialgnaaGreatDoor.Am
open Go Go.RowKit Go.WideShapes

def qmJ (f : TypeId → Option Cd) : List Field → Option Cd
  | [] => none
  | [x] => f x.type
  | x :: r => (f x.type).bind fun a => (qmJ f r).bind fun b => some (.pr a b)
def Cd.by : Cd → Nat
  | .int .i8 | .int .u8 | .bool => 1
  | .int .i16 | .int .u16 => 2
  | .int .i32 | .int .u32 => 4
  | .int _ => 8
  | .str => 16
  | .sl _ => 24
  | .pr a b => a.by + b.by
  | .ref _ => 8
def cdP (P : Program) : Nat → TypeId → Option Cd
  | 0, _ => none
  | k + 1, t => match P.underlying t with
    | some (.int k) => some (.int k)
    | some .bool => some .bool
    | some .string => some .str
    | some (.slice e) => (cdP P k e).bind fun c => if P.cellsOf e = c.sz ∧ c.by ≤ P.bytesOf e then some (.sl c) else none
    | some (.struct fs) => if qgM P fs.toList 0 (P.cellsOf t) = true then qmJ (cdP P k) fs.toList else none
    | _ => none
section
variable {P : Program}
def qs6 (P : Program) (t : TypeId) : Bool := match P.underlying t with
  | some (.struct _) => true
  | _ => false
def qic (st : Bool) (c : Cd) (y : c.D) : V2 := if st then .g (c.cl y) else .a ((c.cl y).headD .nilp)
variable {H : Type} {enc : TypeId × Value → H} {w : World} {base : Nat} {sp : Nat → Bool} {held : Bool}
theorem qtN {ι : Io} {h : Hp} : RVs ι h [] [] := ⟨rfl, by simp⟩
theorem qjv {ι : Io} {h : Hp} {x : Vl} {v : Value} {xs : List Vl} {vs : List Value} (h1 : RV ι h x v) (h2 : RVs ι h xs vs) : RVs ι h (x :: xs) (v :: vs) := by
  refine ⟨by simp [h2.1], fun j y e => ?_⟩
  cases j with
  | zero => simp at e; subst e; exact ⟨v, rfl, h1⟩
  | succ j => simp at e; simpa using h2.2 j y e
theorem qid {x : Vl} {xs : List Vl} (h1 : qd [x] = []) (h2 : qd xs = []) : qd (x :: xs) = [] := by
  simp only [qd, List.flatMap_cons, List.flatMap_nil, List.append_nil] at h1 h2 ⊢
  rw [h1, h2]; rfl
theorem qrY {c : Cfg} (hk : CfgOk P c) {k : Nat} {i : Inst} (hi : qh (call c k) i) {x : i.sh.D} {y : DS FS.D i.os} (h : i.F x = some y) (hy : qg2 FS.enc i.os y = ([.a (.bool true)], []))
    {args : List V2} (ha : i.sh.enc x = (args, [])) {vals : Array Value} (hr : RVs (fun _ => none) (view w) (args.map V2.at) vals.toList) (hn : qd (args.map V2.at) = []) :
    Calls P i.f vals w fun e w' => e = .returned (.bool true) ∧ Below w.heap.size w w' := by
  have := hi x y h
  rw [hy, ha] at this
  exact qpK hk hr hn this
end
inductive TypedR (P : Program) (R : Nat) : TypeId → List At → Prop
  | bool {t : TypeId} (hu : P.underlying t = some .bool) (b : Bool) : TypedR P R t [.bool b]
  | int {t : TypeId} {k : IntKind} (hu : P.underlying t = some (.int k)) (n : Int) (h : (Lit.int k n).wf = true) : TypedR P R t [.int k n]
  | str {t : TypeId} (hu : P.underlying t = some .string) (s : ByteArray) (h : s.size ≤ maxLen) (hb : s.size ≤ R) : TypedR P R t [.str s]
  | sl {t e : TypeId} (hu : P.underlying t = some (.slice e)) (els : List (List At)) (hn : els.length ≤ maxLen) (hb : els.length * P.bytesOf e ≤ R) (h : ∀ el ∈ els, TypedR P R e el) : TypedR P R t [.sl (P.cellsOf e) els.length els]
  | st {t : TypeId} {fs : Array Field} (hu : P.underlying t = some (.struct fs)) (cs : List At) (hl : cs.length = P.cellsOf t) (h : ∀ (i : Nat) (f : Field), fs[i]? = some f → TypedR P R f.type ((cs.drop f.offset).take (P.cellsOf f.type))) : TypedR P R t cs

section
variable {P : Program} {H : Type} {enc : TypeId × Value → H} {w : World} {base : Nat} {sp : Nat → Bool} {held : Bool} {R : Nat}
theorem qmS {e : TypeId} : ∀ {l : List (DataW H)}, (DataW.weightsAll P e l).all (· ≤ R) = true → ∀ d ∈ l, (DataW.weights P e d).all (· ≤ R) = true := by
  intro l
  induction l with
  | nil => intro _ d hd; cases hd
  | cons x r ih =>
    intro h d hd
    simp only [DataW.weightsAll, List.all_append, Bool.and_eq_true] at h
    rcases List.mem_cons.1 hd with rfl | hd
    · exact h.1
    · exact ih h.2 d hd
theorem qlb : ∀ {ts : List TypeId} {l : List (DataW H)}, (DataW.weightsEach P ts l).all (· ≤ R) = true → ∀ (i : Nat) t d, ts[i]? = some t → l[i]? = some d → (DataW.weights P t d).all (· ≤ R) = true := by
  intro ts
  induction ts with
  | nil => intro l _ i t d h; simp at h
  | cons t ts ih =>
    intro l h i t' d h1 h2
    cases l with
    | nil => simp at h2
    | cons x r =>
      simp only [DataW.weightsEach, List.all_append, Bool.and_eq_true] at h
      cases i with
      | zero => simp at h1 h2; subst h1 h2; exact h.1
      | succ i => exact ih h.2 i t' d (by simpa using h1) (by simpa using h2)
theorem qnj : ∀ (d : Nat) (t : TypeId), qgx P d t = true → ∀ (fuel : Nat) (cs : List Value) (x : DataW H × List MemPlace), DataW.trod enc P w base sp held fuel t cs = some x → (DataW.weights P t x.1).all (· ≤ R) = true →
    ∃ xs : List At, RL (fun _ => none) (view w) xs cs ∧ (∀ y ∈ xs, y.pr = true) ∧ TypedR P R t xs := by
  intro d
  induction d with
  | zero => intro t h; cases h
  | succ d ih =>
    intro t ht fuel cs x hx hwt
    simp only [qgx] at ht
    have one : ∀ (y : At) (v : Value), RP (view w) y v → y.pr = true → cs = [v] → TypedR P R t [y] → ∃ xs : List At, RL (fun _ => none) (view w) xs cs ∧ (∀ y ∈ xs, y.pr = true) ∧ TypedR P R t xs := by
      rintro y v h1 h2 rfl h3
      exact ⟨[y], RL.cons (RA.ofRP h1) RL.nil, by simpa using h2, h3⟩
    split at ht
    · rename_i hu
      obtain ⟨b, rfl, _⟩ := DataW.trod_bool hu hx
      exact one _ _ (.bool b) rfl rfl (.bool hu b)
    · rename_i k hu
      obtain ⟨n, rfl, _, hw⟩ := DataW.trod_int hu hx
      exact one _ _ (.int k n) rfl rfl (.int hu n hw)
    · rename_i hu
      obtain ⟨s, rfl, hx1, hs⟩ := DataW.trod_string hu hx
      exact one _ _ (.str s) rfl rfl (.str hu s hs (by
        subst hx1
        simp only [DataW.weights, List.all_cons, List.all_nil, Bool.and_true, decide_eq_true_eq] at hwt
        have e : s.data.toList.length = s.size := by rw [Array.length_toList]; rfl
        omega))
    · rename_i e hu
      simp only [Bool.and_eq_true, decide_eq_true_eq] at ht
      obtain ⟨hpos, hte⟩ := ht
      rcases DataW.trod_slice hu hx with ⟨rfl, _⟩ | ⟨a, len, cap, elems, rest, n, rfl, rfl, hx1, hb, hlc, hcm, hel, hev, _, _⟩
      · exact one _ _ (.sl0 (P.cellsOf e) none 0) rfl rfl (.sl hu [] (Nat.zero_le _) (by simp) (by simp))
      · -- each element
        subst hx1
        simp only [DataW.weights, hu, List.all_cons, List.all_append, Bool.and_eq_true, decide_eq_true_eq, List.length_map] at hwt
        obtain ⟨hw1, hw2, _⟩ := hwt
        have each : ∀ i, i < len → ∃ (ci : List Value) (xs : List At), w.cells? base (a.add (i * P.cellsOf e)) (P.cellsOf e) = some ci ∧ RL (fun _ => none) (view w) xs ci ∧ (∀ y ∈ xs, y.pr = true) ∧ TypedR P R e xs := by
          intro i hi
          have h1 := hev i hi
          rw [List.getElem?_eq_getElem (by omega)] at h1
          obtain ⟨ci, h2, h3⟩ := Option.bind_eq_some_iff.1 h1
          obtain ⟨xs, r1, r2, r3⟩ := ih e hte n ci _ h3 (qmS hw2 _ (List.mem_map_of_mem (List.getElem_mem _)))
          exact ⟨ci, xs, h2, r1, r2, r3⟩
        let E : Nat → List At := fun i => if hi : i < len then (each i hi).choose_spec.choose else []
        let V : Nat → List Value := fun i => if hi : i < len then (each i hi).choose else []
        have hE : ∀ i, i < len → w.cells? base (a.add (i * P.cellsOf e)) (P.cellsOf e) = some (V i) ∧ RL (fun _ => none) (view w) (E i) (V i) ∧ (∀ y ∈ E i, y.pr = true) ∧ TypedR P R e (E i) := by
          intro i hi
          simp only [E, V, dif_pos hi]
          exact (each i hi).choose_spec.choose_spec
        let els := (List.range len).map E
        have hlen : els.length = len := by simp [els]
        have hget : ∀ i e', els[i]? = some e' → i < len ∧ e' = E i := by
          intro i e' he'
          have hi : i < len := by
            have := (List.getElem?_eq_some_iff.1 he').1
            simpa [hlen] using this
          simp only [els, List.getElem?_map, List.getElem?_range hi, Option.map_some, Option.some.injEq] at he'
          exact ⟨hi, he'.symm⟩
        have hty : TypedR P R t [.sl (P.cellsOf e) els.length els] := by
          refine .sl hu els (by omega) (Nat.le_trans (Nat.mul_le_mul_right _ (by omega)) hw1) fun el hm => ?_
          obtain ⟨i, hi⟩ := List.getElem?_of_mem hm
          obtain ⟨h1, rfl⟩ := hget i el hi
          exact (hE i h1).2.2.2
        rcases Nat.eq_zero_or_pos len with h0 | h0
        · subst h0
          have hz : els = [] := by simp [els]
          refine one _ _ ?_ rfl rfl hty
          rw [hz]
          exact .sl0 _ _ _
        · obtain ⟨hc0, _⟩ := hE 0 h0
          have hspot : a.spot = none := qon (by rw [Nat.zero_mul] at hc0; exact hc0) hpos
          obtain ⟨b, off, spot⟩ := a
          simp only at hspot
          subst hspot
          obtain ⟨C, t', z, hC, _⟩ := qkK hc0 hpos
          have hcell : ∀ i, i < len → (V i).length = P.cellsOf e ∧ ∀ j, j < P.cellsOf e → C[off + (i * P.cellsOf e + j)]? = (V i)[j]? := by
            intro i hi
            obtain ⟨C', t'', z', hC', hl, hj⟩ := qkK (hE i hi).1 hpos
            rw [hC] at hC'
            cases hC'
            exact ⟨hl, hj⟩
          refine one _ _ (.sl _ els b off cap (P.cellsOf e) C t' z (fun i j => ((V i)[j]?).getD undef) hC rfl (by rw [hlen]; exact hlc) ?_ ?_ ?_) rfl (by rw [hlen]) hty
          · intro i e' he'
            obtain ⟨hi, rfl⟩ := hget i e' he'
            rw [(hE i hi).2.1.1, (hcell i hi).1]
          · intro i e' j y he' hy
            obtain ⟨hi, rfl⟩ := hget i e' he'
            obtain ⟨u, g1, g2⟩ := (hE i hi).2.1.2 j y hy
            have hj : j < P.cellsOf e := by
              rw [← (hcell i hi).1]
              exact (List.getElem?_eq_some_iff.1 g1).1
            rw [(hcell i hi).2 j hj, g1]
            rfl
          · intro i e' j y he' hy
            obtain ⟨hi, rfl⟩ := hget i e' he'
            obtain ⟨u, g1, g2⟩ := (hE i hi).2.1.2 j y hy
            simp only [g1, Option.getD_some]
            exact RA.toRP ((hE i hi).2.2.1 y (List.mem_of_getElem? hy)) g2
    · rename_i fs hu
      simp only [Bool.and_eq_true, List.all_eq_true] at ht
      obtain ⟨htile, hall⟩ := ht
      obtain ⟨ds, n, rfl, hx1, hcl, hdl, hf⟩ := DataW.trod_struct hu hx
      subst hx1
      simp only [DataW.weights, hu] at hwt
      have key : ∀ (l : List Field) (o : Nat), qgM P l o (P.cellsOf t) = true → (∀ f ∈ l, qgx P d f.type = true ∧ ∃ y, DataW.trod enc P w base sp held n f.type ((cs.drop f.offset).take (P.cellsOf f.type)) = some y ∧ (DataW.weights P f.type y.1).all (· ≤ R) = true) →
          o ≤ P.cellsOf t ∧ ∃ xs : List At, RL (fun _ => none) (view w) xs (cs.drop o) ∧ (∀ y ∈ xs, y.pr = true) ∧ ∀ f ∈ l, o ≤ f.offset ∧ TypedR P R f.type ((xs.drop (f.offset - o)).take (P.cellsOf f.type)) := by
        intro l
        induction l with
        | nil =>
          intro o ho _
          simp only [qgM, beq_iff_eq] at ho
          refine ⟨by omega, [], ?_, by simp, by simp⟩
          rw [List.drop_eq_nil_of_le (by omega)]
          exact RL.nil
        | cons f r ih2 =>
          intro o ho hfs
          simp only [qgM, Bool.and_eq_true, beq_iff_eq] at ho
          obtain ⟨rfl, ho⟩ := ho
          obtain ⟨hpf, y, hy, hyw⟩ := hfs f (List.mem_cons_self ..)
          obtain ⟨ys, r1, r2, r3⟩ := ih f.type hpf n _ _ hy hyw
          obtain ⟨q0, xs, q1, q2, q3⟩ := ih2 _ ho fun g hg => hfs g (List.mem_cons_of_mem _ hg)
          have hyl : ys.length = P.cellsOf f.type := by rw [r1.1, List.length_take, List.length_drop]; omega
          refine ⟨by omega, ys ++ xs, ?_, ?_, ?_⟩
          · have := r1.append q1
            rwa [show cs.drop (f.offset + P.cellsOf f.type) = (cs.drop f.offset).drop (P.cellsOf f.type) by rw [List.drop_drop], List.take_append_drop] at this
          · intro z hz
            rcases List.mem_append.1 hz with hz | hz
            · exact r2 z hz
            · exact q2 z hz
          · intro g hg
            rcases List.mem_cons.1 hg with rfl | hg
            · refine ⟨Nat.le_refl _, ?_⟩
              rw [Nat.sub_self, List.drop_zero, ← hyl, List.take_left]
              exact r3
            · obtain ⟨h1, h2⟩ := q3 g hg
              refine ⟨by omega, ?_⟩
              rw [show g.offset - f.offset = ys.length + (g.offset - (f.offset + P.cellsOf f.type)) by omega, ← List.drop_drop, List.drop_left]
              exact h2
      obtain ⟨_, xs, q1, q2, q3⟩ := key fs.toList 0 htile fun f hfm => by
        refine ⟨hall f hfm, ?_⟩
        obtain ⟨i, hi⟩ := List.getElem?_of_mem hfm
        have hi' : fs[i]? = some f := by simpa using hi
        have hlt : i < fs.size := (Array.getElem?_eq_some_iff.1 hi').1
        exact ⟨ds[i]'(by omega), by rw [hf i f hi']; exact List.getElem?_eq_getElem _, qlb hwt i f.type _ (by simp [hi']) (by rw [List.getElem?_map, List.getElem?_eq_getElem (show i < ds.length by omega)]; rfl)⟩
      rw [List.drop_zero] at q1
      refine ⟨xs, q1, q2, .st hu xs (by rw [q1.1, hcl]) fun i f hi => ?_⟩
      have := (q3 f (by simpa using Array.mem_of_getElem? hi)).2
      simpa using this
    · cases ht

theorem qqL {d base' : Nat} {t : TypeId} (ht : qgx P d t = true) {v : Value} (hval : Value.okWide P w .any base' t v) {D : DataW H} {ps : List MemPlace} (hd : DataW.Trod enc P w base sp held t v D ps) (hwt : (DataW.weights P t D).all (· ≤ R) = true) :
    ∃ x : Vl, RV (fun _ => none) (view w) x v ∧ qd [x] = [] ∧ TypedR P R t x.cells ∧ ((∃ y, x = .a y) ∨ ∃ fs, P.underlying t = some (.struct fs)) ∧ ((∃ ys, x = .g ys) ∨ ¬ ∃ fs, P.underlying t = some (.struct fs)) := by
  obtain ⟨fuel, hf⟩ := hd
  obtain ⟨xs, r1, r2, r3⟩ := qnj d t ht fuel _ _ hf hwt
  have hno : ∀ y : At, y.pr = true → y.nm = [] := fun y hy => by cases y <;> simp [At.pr, At.nm] at hy ⊢
  have one : v.cells.toList = [v] → (¬ ∃ fs, P.underlying t = some (.struct fs)) → _ := fun hv hns => (show ∃ x : Vl, RV (fun _ => none) (view w) x v ∧ qd [x] = [] ∧ TypedR P R t x.cells ∧ ((∃ y, x = .a y) ∨ ∃ fs, P.underlying t = some (.struct fs)) ∧ ((∃ ys, x = .g ys) ∨ ¬ ∃ fs, P.underlying t = some (.struct fs)) by
    rw [hv] at r1
    match xs, r1, r2, r3 with
    | [y], r1, r2, r3 =>
      obtain ⟨u, g1, g2⟩ := r1.2 0 y rfl
      simp at g1
      subst g1
      exact ⟨.a y, g2, by simp [qd, Vl.cells, hno y (r2 y (by simp))], r3, .inl ⟨y, rfl⟩, .inr hns⟩
    | [], r1, _, _ => exact absurd r1.1 (by simp)
    | _ :: _ :: _, r1, _, _ => exact absurd r1.1 (by simp))
  cases d with
  | zero => cases ht
  | succ d =>
    simp only [qgx] at ht
    split at ht
    · rename_i hu
      obtain ⟨b, rfl⟩ := okWide_bool hu hval
      exact one rfl (by rw [hu]; simp)
    · rename_i k hu
      obtain ⟨n, rfl⟩ := okWide_int hu hval
      exact one rfl (by rw [hu]; simp)
    · rename_i hu
      obtain ⟨s, rfl⟩ := okWide_string hu hval
      exact one rfl (by rw [hu]; simp)
    · rename_i e hu
      obtain ⟨a, l, c, rfl⟩ := okWide_slice hu hval
      exact one rfl (by rw [hu]; simp)
    · rename_i fs hu
      obtain ⟨cs, rfl, _⟩ := okWide_struct hu hval
      refine ⟨.g xs, ⟨cs, rfl, r1⟩, ?_, r3, .inr ⟨fs, hu⟩, .inl ⟨xs, rfl⟩⟩
      simp only [qd, Vl.cells, List.flatMap_cons, List.flatMap_nil, List.append_nil, List.flatMap_eq_nil_iff]
      exact fun y hy => hno y (r2 y hy)
    · cases ht

theorem qpl {t : TypeId} {k : IntKind} (hu : P.underlying t = some (.int k)) {xs : List At} (h : TypedR P R t xs) : ∃ n, xs = [.int k n] ∧ (Lit.int k n).wf = true := by
  cases h with
  | int hu' n hw => rw [hu] at hu'; cases hu'; exact ⟨n, rfl, hw⟩
  | bool hu' => rw [hu] at hu'; cases hu'
  | str hu' => rw [hu] at hu'; cases hu'
  | sl hu' => rw [hu] at hu'; cases hu'
  | st hu' => rw [hu] at hu'; cases hu'
theorem qnk {t : TypeId} (hu : P.underlying t = some .bool) {xs : List At} (h : TypedR P R t xs) : ∃ b, xs = [.bool b] := by
  cases h with
  | bool hu' b => exact ⟨b, rfl⟩
  | int hu' => rw [hu] at hu'; cases hu'
  | str hu' => rw [hu] at hu'; cases hu'
  | sl hu' => rw [hu] at hu'; cases hu'
  | st hu' => rw [hu] at hu'; cases hu'
theorem qpm {t : TypeId} (hu : P.underlying t = some .string) {xs : List At} (h : TypedR P R t xs) : ∃ s, xs = [.str s] ∧ s.size ≤ maxLen ∧ s.size ≤ R := by
  cases h with
  | str hu' s hs hb => exact ⟨s, rfl, hs, hb⟩
  | int hu' => rw [hu] at hu'; cases hu'
  | bool hu' => rw [hu] at hu'; cases hu'
  | sl hu' => rw [hu] at hu'; cases hu'
  | st hu' => rw [hu] at hu'; cases hu'
theorem qqM {t e : TypeId} (hu : P.underlying t = some (.slice e)) {xs : List At} (h : TypedR P R t xs) : ∃ els, xs = [.sl (P.cellsOf e) els.length els] ∧ els.length ≤ maxLen ∧ els.length * P.bytesOf e ≤ R ∧ ∀ el ∈ els, TypedR P R e el := by
  cases h with
  | sl hu' els hn hb he => rw [hu] at hu'; cases hu'; exact ⟨els, rfl, hn, hb, he⟩
  | int hu' => rw [hu] at hu'; cases hu'
  | bool hu' => rw [hu] at hu'; cases hu'
  | str hu' => rw [hu] at hu'; cases hu'
  | st hu' => rw [hu] at hu'; cases hu'
theorem qqN {t : TypeId} {fs : Array Field} (hu : P.underlying t = some (.struct fs)) {xs : List At} (h : TypedR P R t xs) :
    xs.length = P.cellsOf t ∧ ∀ (i : Nat) (f : Field), fs[i]? = some f → TypedR P R f.type ((xs.drop f.offset).take (P.cellsOf f.type)) := by
  cases h with
  | st hu' cs hl hf => rw [hu] at hu'; cases hu'; exact ⟨hl, hf⟩
  | int hu' => rw [hu] at hu'; cases hu'
  | bool hu' => rw [hu] at hu'; cases hu'
  | str hu' => rw [hu] at hu'; cases hu'
  | sl hu' => rw [hu] at hu'; cases hu'
end
def qgl (R : Nat) : (c : Cd) → c.D → Prop
  | .int k, n => (Lit.int k n).wf = true
  | .bool, _ => True
  | .str, s => s.size ≤ maxLen ∧ s.size ≤ R
  | .sl c, l => (l.length ≤ maxLen ∧ l.length * c.by ≤ R) ∧ ∀ x ∈ l, qgl R c x
  | .pr a b, x => qgl R a x.1 ∧ qgl R b x.2
  | .ref _, _ => False

section
variable {P : Program} {R : Nat}
theorem qqO : ∀ (k : Nat) (t : TypeId) (c : Cd), cdP P k t = some c → ∀ xs : List At, TypedR P R t xs → ∃ y : c.D, xs = c.at y ∧ qgl R c y := by
  intro k
  induction k with
  | zero => intro t c h; cases h
  | succ k ih =>
    intro t c h xs ht
    simp only [cdP] at h
    split at h
    · rename_i kk hu
      cases h
      obtain ⟨n, rfl, hw⟩ := qpl hu ht
      exact ⟨n, rfl, hw⟩
    · rename_i hu
      cases h
      obtain ⟨b, rfl⟩ := qnk hu ht
      exact ⟨b, rfl, trivial⟩
    · rename_i hu
      cases h
      obtain ⟨s, rfl, hs⟩ := qpm hu ht
      exact ⟨s, rfl, hs⟩
    · rename_i e hu
      simp only [Option.bind_eq_some_iff] at h
      obtain ⟨c', h1, h⟩ := h
      split at h
      · rename_i hz
        cases h
        obtain ⟨els, rfl, hn, hnb, hel⟩ := qqM hu ht
        have key : ∀ els : List (List At), (∀ el ∈ els, TypedR P R e el) → ∃ l : List c'.D, els = l.map c'.at ∧ ∀ x ∈ l, qgl R c' x := by
          intro els
          induction els with
          | nil => intro _; exact ⟨[], rfl, by simp⟩
          | cons x r ih2 =>
            intro hx
            obtain ⟨y, rfl, hw⟩ := ih e c' h1 x (hx x (List.mem_cons_self ..))
            obtain ⟨l, rfl, hl⟩ := ih2 fun el hm => hx el (List.mem_cons_of_mem _ hm)
            exact ⟨y :: l, rfl, fun z hz => by
              rcases List.mem_cons.1 hz with rfl | hz
              · exact hw
              · exact hl z hz⟩
        obtain ⟨l, rfl, hl⟩ := key els hel
        rw [List.length_map] at hn hnb ⊢
        exact ⟨l, by simp only [Cd.at, hz.1], ⟨hn, Nat.le_trans (Nat.mul_le_mul_left _ hz.2) hnb⟩, hl⟩
      · cases h
    · rename_i fs hu
      split at h
      · rename_i htile
        obtain ⟨hcl, hf⟩ := qqN hu ht
        have key : ∀ (l : List Field) (o : Nat) (c : Cd), qmJ (cdP P k) l = some c → qgM P l o (P.cellsOf t) = true → (∀ f ∈ l, TypedR P R f.type ((xs.drop f.offset).take (P.cellsOf f.type))) → ∃ y : c.D, xs.drop o = c.at y ∧ qgl R c y := by
          intro l
          induction l with
          | nil => intro o c h; cases h
          | cons f r ih2 =>
            intro o c h ho hfs
            simp only [qgM, Bool.and_eq_true, beq_iff_eq] at ho
            obtain ⟨rfl, ho⟩ := ho
            have h0 := hfs f (List.mem_cons_self ..)
            cases r with
            | nil =>
              simp only [qmJ] at h
              simp only [qgM, beq_iff_eq] at ho
              obtain ⟨y, h2, h3⟩ := ih f.type c h _ h0
              refine ⟨y, ?_, h3⟩
              rw [← h2, List.take_of_length_le]
              rw [List.length_drop]; omega
            | cons g r =>
              simp only [qmJ, Option.bind_eq_some_iff] at h
              obtain ⟨a, h4, b, h5, h⟩ := h
              cases h
              obtain ⟨y, h2, h3⟩ := ih f.type a h4 _ h0
              obtain ⟨z, h6, h7⟩ := ih2 _ b h5 ho fun g hg => hfs g (List.mem_cons_of_mem _ hg)
              refine ⟨(y, z), ?_, h3, h7⟩
              simp only [Cd.at]
              rw [← h2, ← h6, ← List.drop_drop, List.take_append_drop]
        obtain ⟨y, h1, h2⟩ := key fs.toList 0 c h htile fun f hfm => by
          obtain ⟨i, hi⟩ := List.getElem?_of_mem hfm
          exact hf i f (by simpa using hi)
        exact ⟨y, by simpa using h1, h2⟩
      · cases h
    · cases h

variable {H : Type} {enc : TypeId × Value → H} {w : World} {base : Nat} {sp : Nat → Bool} {held : Bool}
theorem qjC {d base' : Nat} {t : TypeId} {c : Cd} (st : Bool) (ht : qgx P d t = true) (hc : cdP P 9 t = some c) (hst : qs6 P t = st) {v : Value} (hval : Value.okWide P w .any base' t v) {D : DataW H} {ps : List MemPlace}
    (hd : DataW.Trod enc P w base sp held t v D ps) (hwt : (DataW.weights P t D).all (· ≤ R) = true) : ∃ y : c.D, RV (fun _ => none) (view w) (qic st c y).at v ∧ qd [(qic st c y).at] = [] ∧ qgl R c y := by
  obtain ⟨x, h1, h2, h3, h4, h5⟩ := qqL ht hval hd hwt
  obtain ⟨y, h6, h7⟩ := qqO 9 t c hc _ h3
  have hx : x = (qic st c y).at := by
    unfold qs6 at hst
    cases hu : P.underlying t with
    | none => rw [hu] at hst; simp only at hst; subst hst
              rcases h4 with ⟨z, rfl⟩ | ⟨fs, e⟩
              · simp only [qic, Bool.false_eq_true, if_false, V2.at]
                simp only [Vl.cells] at h6
                rw [← qeQ] at h6
                match hq : c.cl y, h6 with
                | [], h6 => cases h6
                | q :: r, h6 => simp only [List.map_cons, List.cons.injEq] at h6; rw [h6.1]; rfl
              · rw [hu] at e; cases e
    | some dd =>
      cases st with
      | true =>
        have hs : ∃ fs, P.underlying t = some (.struct fs) := by
          rw [hu] at hst
          cases dd <;> simp only at hst <;> first | exact ⟨_, hu⟩ | cases hst
        rcases h5 with ⟨ys, rfl⟩ | e
        · simp only [qic, if_true, V2.at, qeQ]
          rw [← h6]; rfl
        · exact absurd hs e
      | false =>
        rcases h4 with ⟨z, rfl⟩ | ⟨fs, e⟩
        · simp only [qic, Bool.false_eq_true, if_false, V2.at]
          simp only [Vl.cells] at h6
          rw [← qeQ] at h6
          match hq : c.cl y, h6 with
          | [], h6 => cases h6
          | q :: r, h6 => simp only [List.map_cons, List.cons.injEq] at h6; rw [h6.1]; rfl
        · rw [hu] at e hst; cases e; cases hst
  subst hx
  exact ⟨y, h1, h2, h7⟩
end
section
variable {P : Program} {H : Type}
def qcA (P : Program) (M : Nat) : Nat → TypeId → Bool
  | 0, _ => false
  | d + 1, t => match P.underlying t with
    | some (.slice e) => decide (2 * P.bytesOf e ≤ M) && qcA P M d e
    | some (.pointer e) => qcA P M d e
    | some (.struct fs) => fs.toList.all fun f => qcA P M d f.type
    | some (.array _ e) => qcA P M d e
    | some (.map k e) => decide (2 * P.bytesOf e ≤ M) && decide (2 * P.bytesOf k ≤ M) && qcA P M d e
    | _ => true
theorem qf9 {x a b M : Nat} (h : x ≤ a * M) (k : a ≤ b) : x ≤ b * M := Nat.le_trans h (Nat.mul_le_mul_right M k)
theorem qs8 {x b M : Nat} (hM : 1 ≤ M) (h : x ≤ b) : x ≤ b * M := Nat.le_trans h (Nat.le_mul_of_pos_right b hM)
mutual
theorem wb (M : Nat) (hM : 1 ≤ M) : ∀ (D : DataW H) (t : TypeId) (d : Nat), qcA P M d t = true → ∀ x ∈ DataW.weights P t D, x ≤ Rows.uptoBulk D * M
  | .lit l, t, d, hd, x, hx => by
    cases l with
    | string bytes => simp only [DataW.weights, List.mem_singleton] at hx; subst hx; simp only [Rows.uptoBulk]; exact qs8 hM (by omega)
    | _ => simp [DataW.weights] at hx
  | .nil, t, d, hd, x, hx => by simp [DataW.weights] at hx
  | .ptr y, t, 0, hd, x, hx => by cases hd
  | .ptr y, t, d + 1, hd, x, hx => by
    simp only [DataW.weights] at hx
    simp only [qcA] at hd
    split at hx
    · rename_i e he
      rw [he] at hd
      have h0 := wb M hM y e d hd x hx; simp only [Rows.uptoBulk]; exact qf9 h0 (by omega)
    · simp at hx
  | .slice elems spare, t, 0, hd, x, hx => by cases hd
  | .slice elems spare, t, d + 1, hd, x, hx => by
    simp only [DataW.weights] at hx
    simp only [qcA] at hd
    simp only [Rows.uptoBulk]
    split at hx
    · rename_i e he
      rw [he] at hd
      simp only [Bool.and_eq_true, decide_eq_true_eq] at hd
      rcases List.mem_cons.1 hx with rfl | hx
      · have h1 := qsa elems
        have h2 := qsa spare
        exact Nat.mul_le_mul (show elems.length + spare.length ≤ Rows.uptoBulkAll elems + Rows.uptoBulkAll spare + 1 by omega) (show P.bytesOf e ≤ M by omega)
      · rcases List.mem_append.1 hx with hx | hx
        · have h0 := qlD M hM elems e d hd.2 x hx; exact qf9 h0 (by omega)
        · have h0 := qlD M hM spare e d hd.2 x hx; exact qf9 h0 (by omega)
    · simp at hx
  | .agg parts, t, 0, hd, x, hx => by cases hd
  | .agg parts, t, d + 1, hd, x, hx => by
    simp only [DataW.weights] at hx
    simp only [qcA] at hd
    simp only [Rows.uptoBulk]
    split at hx
    · rename_i fs he
      rw [he] at hd
      have h0 := qmT M hM parts (fs.toList.map (·.type)) d (by simpa [List.all_map] using hd) x hx; exact qf9 h0 (by omega)
    · rename_i e he
      rw [he] at hd
      have h0 := qlD M hM parts e d hd x hx; exact qf9 h0 (by omega)
    · simp at hx
  | .iface _ _, t, d, hd, x, hx => by simp [DataW.weights] at hx
  | .map entries, t, 0, hd, x, hx => by cases hd
  | .map entries, t, d + 1, hd, x, hx => by
    simp only [DataW.weights] at hx
    simp only [qcA] at hd
    simp only [Rows.uptoBulk]
    split at hx
    · rename_i k e he
      rw [he] at hd
      simp only [Bool.and_eq_true, decide_eq_true_eq] at hd
      rcases List.mem_cons.1 hx with rfl | hx
      · have h1 := qs9 entries
        exact Nat.mul_le_mul (show entries.length ≤ Rows.uptoBulkEntries entries + 1 by omega) (by omega)
      · have h0 := qkZ M hM entries e d hd.2 x hx; exact qf9 h0 (by omega)
    · simp at hx
  | .held _, t, d, hd, x, hx => by simp [DataW.weights] at hx
theorem qlD (M : Nat) (hM : 1 ≤ M) : ∀ (l : List (DataW H)) (e : TypeId) (d : Nat), qcA P M d e = true → ∀ x ∈ DataW.weightsAll P e l, x ≤ Rows.uptoBulkAll l * M
  | [], e, d, hd, x, hx => by simp [DataW.weightsAll] at hx
  | y :: r, e, d, hd, x, hx => by
    simp only [DataW.weightsAll] at hx
    simp only [Rows.uptoBulkAll]
    rcases List.mem_append.1 hx with hx | hx
    · have h0 := wb M hM y e d hd x hx; exact qf9 h0 (by omega)
    · have h0 := qlD M hM r e d hd x hx; exact qf9 h0 (by omega)
theorem qmT (M : Nat) (hM : 1 ≤ M) : ∀ (l : List (DataW H)) (ts : List TypeId) (d : Nat), ts.all (qcA P M d) = true → ∀ x ∈ DataW.weightsEach P ts l, x ≤ Rows.uptoBulkAll l * M
  | [], ts, d, hd, x, hx => by cases ts <;> simp [DataW.weightsEach] at hx
  | y :: r, [], d, hd, x, hx => by simp [DataW.weightsEach] at hx
  | y :: r, t :: ts, d, hd, x, hx => by
    simp only [DataW.weightsEach] at hx
    simp only [Rows.uptoBulkAll]
    rw [List.all_cons, Bool.and_eq_true] at hd
    rcases List.mem_append.1 hx with hx | hx
    · have h0 := wb M hM y t d hd.1 x hx; exact qf9 h0 (by omega)
    · have h0 := qmT M hM r ts d hd.2 x hx; exact qf9 h0 (by omega)
theorem qkZ (M : Nat) (hM : 1 ≤ M) : ∀ (l : List (Lit × DataW H)) (e : TypeId) (d : Nat), qcA P M d e = true → ∀ x ∈ DataW.weightsEntries P e l, x ≤ Rows.uptoBulkEntries l * M
  | [], e, d, hd, x, hx => by simp [DataW.weightsEntries] at hx
  | p :: r, e, d, hd, x, hx => by
    simp only [DataW.weightsEntries] at hx
    simp only [Rows.uptoBulkEntries]
    rcases List.mem_append.1 hx with hx | hx
    · have h0 := qt5 M hM p e d hd x hx; exact qf9 h0 (by omega)
    · have h0 := qkZ M hM r e d hd x hx; exact qf9 h0 (by omega)
theorem qt5 (M : Nat) (hM : 1 ≤ M) : ∀ (p : Lit × DataW H) (e : TypeId) (d : Nat), qcA P M d e = true → ∀ x ∈ DataW.weightsEntry P e p, x ≤ Rows.uptoBulkEntry p * M
  | (l, y), e, d, hd, x, hx => by
    cases l with
    | string bytes =>
      simp only [DataW.weightsEntry] at hx
      simp only [Rows.uptoBulkEntry]
      rcases List.mem_cons.1 hx with rfl | hx
      · exact qs8 hM (by omega)
      · have h0 := wb M hM y e d hd x hx; exact qf9 h0 (by omega)
    | _ =>
      simp only [DataW.weightsEntry] at hx
      simp only [Rows.uptoBulkEntry]
      have h0 := wb M hM y e d hd x hx; exact qf9 h0 (by omega)
theorem qsa : ∀ (l : List (DataW H)), l.length ≤ Rows.uptoBulkAll l
  | [] => by simp [Rows.uptoBulkAll]
  | d :: r => by have h1 := qzz d; have h2 := qsa r; simp only [Rows.uptoBulkAll, List.length_cons]; omega
theorem qs9 : ∀ (l : List (Lit × DataW H)), l.length ≤ Rows.uptoBulkEntries l
  | [] => by simp [Rows.uptoBulkEntries]
  | (k, d) :: r => by
    have h2 := qs9 r
    have h1 : 1 ≤ Rows.uptoBulkEntry (k, d) := by cases k <;> simp [Rows.uptoBulkEntry]
    simp only [Rows.uptoBulkEntries, List.length_cons]; omega
theorem qzz : ∀ (d : DataW H), 1 ≤ Rows.uptoBulk d
  | .lit l => by cases l <;> simp [Rows.uptoBulk]
  | .nil => by simp [Rows.uptoBulk]
  | .ptr d => by simp [Rows.uptoBulk]
  | .slice _ _ => by simp [Rows.uptoBulk]
  | .agg _ => by simp [Rows.uptoBulk]
  | .iface _ _ => by simp [Rows.uptoBulk]
  | .map _ => by simp [Rows.uptoBulk]
  | .held _ => by simp [Rows.uptoBulk]
end
theorem qpn {ts : List TypeId} {l : List (DataW H)} (hb : ts.all (qcA P 8192 12) = true) (hk : Rows.uptoSmall H l = true) : (DataW.weightsEach P ts l).all (· ≤ 8589934592) = true := by
  have hk : Rows.uptoBulkAll l ≤ 1048576 := of_decide_eq_true hk
  rw [List.all_eq_true]
  intro x hx
  exact decide_eq_true (Nat.le_trans (qmT 8192 (by decide) l ts 12 hb x hx) (Nat.le_trans (Nat.mul_le_mul_right 8192 hk) (by decide)))
theorem qhw {R : Nat} {t : TypeId} {ts : List TypeId} {d : DataW H} {r : List (DataW H)} (h : (DataW.weightsEach P (t :: ts) (d :: r)).all (· ≤ R) = true) : (DataW.weights P t d).all (· ≤ R) = true ∧ (DataW.weightsEach P ts r).all (· ≤ R) = true := by
  simp only [DataW.weightsEach, List.all_append, Bool.and_eq_true] at h
  exact h
end
end Go.Proofs.YtlnailgfialgnaaGreatDoor.Am

/- Plain reckoning: the reference's text of a number; machine numbers, both ways. -/
import Derived.Test.YtghdpmejgonjmaaPlD2
import Derived.Test.YtghdpmejgonjmaaPlR3
set_option linter.unusedVariables false
set_option linter.unusedSimpArgs false
set_option maxRecDepth 10000
namespace Go.Proofs.Ytghdpmejgonjmaa.Am
open Go

theorem bytesOf_append (l m : List Int) : bytesOf l ++ bytesOf m = bytesOf (l ++ m) := by
  refine ByteArray.ext ?_
  rw [ByteArray.data_append]
  simp [bytesOf]
theorem bytesOf_size (l : List Int) : (bytesOf l).size = l.length := by
  simp [bytesOf, ByteArray.size]
theorem ten_loop (k : Nat) (s : ByteArray) (a0 : Bool) (a1 o t : List Int) (ho : o.length ≤ 1000000000) (hdo : Dg U o) :
    ∀ (m n : Nat) (r : Int) (e : List Int), m ≤ o.length → m < n → 0 ≤ r ∧ r < 10 → e.length = o.length → Dg U e → V U (o.drop m) = 10 * V U (e.drop m) + r → e.take m = o.take m →
    ∃ r' e', Lshuntref01_Digits_2 k n s o.length r ((m : Int) - 1) a0 a1 (e ++ t) = some (s, o.length, r', a0, a1, e' ++ t) ∧ (0 ≤ r' ∧ r' < 10) ∧ e'.length = o.length ∧ Dg U e' ∧ V U o = 10 * V U e' + r' := by
  intro m
  induction m with
  | zero =>
    intro n r e hm hn hr hl hd hv htk
    obtain ⟨n, rfl⟩ : ∃ m, n = m + 1 := ⟨n - 1, by omega⟩
    refine ⟨r, e, ?_, hr, hl, hd, hv⟩
    show Lshuntref01_Digits_2s k (Lshuntref01_Digits_2 k n) _ _ _ _ _ _ _ = _
    unfold Lshuntref01_Digits_2s
    simp (config := { implicitDefEqProofs := false, maxSteps := 2000000 }) (disch := omega) only [ps, ↓reduceIte, reduceCtorEq, Int.reduceLT, Int.reduceLE, Int.reduceEq, Nat.reduceLT, Nat.reduceLeDiff, Nat.reduceEqDiff, Int.reduceNeg, eitherK]
  | succ i ih =>
    intro n r e hm hn hr hl hd hv htk
    obtain ⟨n, rfl⟩ : ∃ m, n = m + 1 := ⟨n - 1, by omega⟩
    obtain ⟨x, hx⟩ := get_of (show i < o.length by omega)
    have hxb := hdo.get hx
    unfold U at hxb
    have hex : e[i]? = some x := by
      have h1 : (e.take (i + 1))[i]? = (o.take (i + 1))[i]? := by rw [htk]
      rwa [List.getElem?_take_of_lt (by omega), List.getElem?_take_of_lt (by omega), hx] at h1
    have hext : (e ++ t)[i]? = some x := by rw [List.getElem?_append_left (by omega), hex]
    have h1 : (((i + 1 : Nat) : Int) - 1) = (i : Int) := by omega
    have hdm := Int.emod_add_mul_ediv (r * 65536 + x) 10
    have hset : (e ++ t).set i ((r * 65536 + x) / 10) = e.set i ((r * 65536 + x) / 10) ++ t := List.set_append_left _ _ (by omega)
    have hdrop : (e.set i ((r * 65536 + x) / 10)).drop i = ((r * 65536 + x) / 10) :: e.drop (i + 1) := by
      rw [List.drop_eq_getElem_cons (by simp; omega), List.getElem_set_self, List.drop_set_of_lt (by omega)]
    obtain ⟨r', e', q1, q2⟩ := ih n ((r * 65536 + x) % 10) (e.set i ((r * 65536 + x) / 10)) (by omega) (by omega) (by omega) (by simpa using hl) (hd.set _ (by unfold U; omega)) (by
      rw [V_drop hx, hv, hdrop]
      simp only [V]
      unfold U
      grind) (by
      rw [List.take_set_of_le (Nat.le_refl i)]
      have h2 : (e.take (i + 1)).take i = (o.take (i + 1)).take i := by rw [htk]
      simpa [List.take_take, Nat.min_eq_left (Nat.le_succ i)] using h2)
    refine ⟨r', e', ?_, q2⟩
    rw [← q1]
    show Lshuntref01_Digits_2s k (Lshuntref01_Digits_2 k n) _ _ _ _ _ _ _ = _
    unfold Lshuntref01_Digits_2s
    simp (config := { implicitDefEqProofs := false, maxSteps := 2000000 }) (disch := omega) only [ps, ↓reduceIte, reduceCtorEq, Int.reduceLT, Int.reduceLE, Int.reduceEq, Nat.reduceLT, Nat.reduceLeDiff, Nat.reduceEqDiff, Int.reduceNeg, eitherK, hext, h1, tdiv_pos, tmod_pos, hset]
theorem rtrim_eq2 (d : Nat) (ds : List Int) (hd : d ≤ ds.length) (hl : ds.length ≤ 10000000000) (k : Nat) (hk : d + 2 ≤ k) : Fshuntref01_trim_mfi k d ds = some ((tl (ds.take d)).length, ds) := by
  obtain ⟨k, rfl⟩ : ∃ m, k = m + 1 := ⟨k - 1, by omega⟩
  show bshuntref01_trim_mfi k d ds = _
  unfold bshuntref01_trim_mfi
  have := tl_len (ds.take d)
  rw [List.length_take] at this
  rw [rtrim_loop k ds hl d k d (Nat.le_refl _) hd (by omega)]
  simp (config := { implicitDefEqProofs := false, maxSteps := 2000000 }) (disch := omega) only [ps, ↓reduceIte, reduceCtorEq, Int.reduceLT, Int.reduceLE, Int.reduceEq, Nat.reduceLT, Nat.reduceLeDiff, Nat.reduceEqDiff, Int.reduceNeg, eitherK]
theorem digs_loop (k : Nat) (a0 : Bool) (a1 : List Int) (hk : 1000000000 < k) : ∀ (d n : Nat) (o t l : List Int), V U o < 10 ^ d → Cn U o → o.length + t.length ≤ 1000 → d < n → l.length + d ≤ 10000000 → Dg 10 l → (o = [] → Cn 10 l) →
    ∃ l' t', Lshuntref01_Digits_0 k n (bytesOf (sg l).reverse) o.length a0 a1 (o ++ t) = some (bytesOf (sg l').reverse, a0, a1, t') ∧ Cn 10 l' ∧ V 10 l' = V 10 l + 10 ^ l.length * V U o ∧ l'.length ≤ l.length + d := by
  intro d
  induction d with
  | zero =>
    intro n o t l hv hc hol hn hl hd hcl
    obtain ⟨n, rfl⟩ : ∃ m, n = m + 1 := ⟨n - 1, by omega⟩
    have p := V_nonneg (B := U) (by decide) hc.1
    have h0 : V U o = 0 := by simp at hv; omega
    have ho0 := (hc.nil_iff (B := U) (by decide)).2 h0
    subst ho0
    refine ⟨l, [] ++ t, ?_, hcl rfl, by simp [V], by omega⟩
    show Lshuntref01_Digits_0s k (Lshuntref01_Digits_0 k n) _ _ _ _ _ = _
    unfold Lshuntref01_Digits_0s
    simp (config := { implicitDefEqProofs := false, maxSteps := 2000000 }) (disch := omega) only [ps, ↓reduceIte, reduceCtorEq, Int.reduceLT, Int.reduceLE, Int.reduceEq, Nat.reduceLT, Nat.reduceLeDiff, Nat.reduceEqDiff, Int.reduceNeg, eitherK]
  | succ d ih =>
    intro n o t l hv hc hol hn hl hd hcl
    obtain ⟨n, rfl⟩ : ∃ m, n = m + 1 := ⟨n - 1, by omega⟩
    by_cases ho0 : o = []
    · subst ho0
      refine ⟨l, [] ++ t, ?_, hcl rfl, by simp [V], by omega⟩
      show Lshuntref01_Digits_0s k (Lshuntref01_Digits_0 k n) _ _ _ _ _ = _
      unfold Lshuntref01_Digits_0s
      simp (config := { implicitDefEqProofs := false, maxSteps := 2000000 }) (disch := omega) only [ps, ↓reduceIte, reduceCtorEq, Int.reduceLT, Int.reduceLE, Int.reduceEq, Nat.reduceLT, Nat.reduceLeDiff, Nat.reduceEqDiff, Int.reduceNeg, eitherK]
    · have hol0 : 0 < o.length := by cases o with
        | nil => exact absurd rfl ho0
        | cons _ _ => simp
      have hpos : 0 < V U o := by
        have h1 := V_nonneg (B := U) (by decide) hc.1
        have h2 := mt (hc.nil_iff (B := U) (by decide)).2 ho0
        omega
      obtain ⟨r, e, q1, q2, q3, q4, q5⟩ := ten_loop k (bytesOf (sg l).reverse) a0 a1 o t (by omega) hc.1 o.length k 0 o (Nat.le_refl _) (by omega) (by decide) rfl hc.1 (by rw [List.drop_length]; simp [V]) rfl
      have cq := Cn.of q4
      have vq := V_tl (B := U) e
      have hle := tl_len e
      have htk : (e ++ t).take o.length = e := by rw [← q3]; exact List.take_left
      have hsplit : e ++ t = tl e ++ (e.drop (tl e).length ++ t) := by
        rw [← List.append_assoc]
        congr 1
        conv => lhs; rw [← List.take_append_drop (tl e).length e, tl_take]
      have hvq : V U (tl e) < 10 ^ d := by
        rw [vq]
        rw [Int.pow_succ] at hv
        omega
      have hlen : (l ++ [r]).length = l.length + 1 := by simp
      obtain ⟨l', t', u1, u2, u3, u4⟩ := ih n (tl e) (e.drop (tl e).length ++ t) (l ++ [r]) hvq cq (by
        rw [List.length_append, List.length_drop]
        omega) (by omega) (by rw [hlen]; omega) (hd.snoc q2) (fun h => by
        have h1 := (cq.nil_iff (B := U) (by decide)).1 h
        refine ⟨hd.snoc q2, (Cn.last (hd.snoc q2)).2 (.inr ⟨l, r, rfl, fun h0 => ?_⟩)⟩
        rw [vq] at h1
        omega)
      refine ⟨l', t', ?_, u2, ?_, by rw [hlen] at u4; omega⟩
      · rw [← u1]
        show Lshuntref01_Digits_0s k (Lshuntref01_Digits_0 k n) _ _ _ _ _ = _
        unfold Lshuntref01_Digits_0s
        have ht := rtrim_eq2 o.length (e ++ t) (by simp; omega) (by simp; omega) k (by omega)
        rw [htk] at ht
        have hb : ByteArray.mk (List.toArray (List.map (fun n : Int => n.toNat.toUInt8) (List.take 1 [48 + r]))) = bytesOf [48 + r] := rfl
        have hap : bytesOf [48 + r] ++ bytesOf (sg l).reverse = bytesOf (sg (l ++ [r])).reverse := by
          rw [bytesOf_append, ← sg_snoc, List.reverse_append]; rfl
        have hsz : (bytesOf [48 + r]).size = 1 := bytesOf_size _
        have hsz2 : (bytesOf (sg l).reverse).size = l.length := by rw [bytesOf_size, List.length_reverse, sg_len]
        simp (config := { implicitDefEqProofs := false, maxSteps := 2000000 }) (disch := omega) only [ps, ↓reduceIte, reduceCtorEq, Int.reduceLT, Int.reduceLE, Int.reduceEq, Nat.reduceLT, Nat.reduceLeDiff, Nat.reduceEqDiff, Int.reduceNeg, eitherK, q1, ht, hb, hsz, hsz2, hap]
        rw [← hsplit]
      · rw [u3, V_snoc, vq, hlen, q5, Int.pow_succ]
        grind
theorem pow_bd2 (n : Nat) : U ^ n ≤ 10 ^ (5 * n) := by
  induction n with
  | zero => decide
  | succ n ih =>
    rw [Int.pow_succ, show 5 * (n + 1) = 5 * n + 5 by omega, Int.pow_add]
    have h1 : (0 : Int) < 10 ^ (5 * n) := Int.pow_pos (by decide)
    have h2 : U ^ n * U ≤ 10 ^ (5 * n) * U := Int.mul_le_mul_of_nonneg_right ih (by decide)
    have h3 : (10 : Int) ^ (5 * n) * U ≤ 10 ^ (5 * n) * 10 ^ 5 := Int.mul_le_mul_of_nonneg_left (by decide) (by omega)
    omega
theorem rDigits_ev (a0 : Bool) (a1 : List Int) {z : Int} (hn : Nm U a0 a1 z) (hl : a1.length ≤ 1000) : ∃ s, Rn (fun k => Fshuntref01_Digits k a0 a1) s ∧ Tx z s := by
  have hab := hn.abs (B := U) (by decide)
  have hng := hn.neg (B := U) (by decide)
  have hs := Sign_ev a0 a1 hn
  obtain ⟨c, e1, f1⟩ := cmpZ_cases z 0
  rw [e1] at hs
  by_cases hz : z = 0
  · refine ⟨bytesOf [48], ?_, ⟨fun _ => rfl, fun h => absurd hz h⟩⟩
    refine Rn.up (f := fun k => Fshuntref01_Digits k a0 a1) ?_
    show Rn (fun k => bshuntref01_Digits k a0 a1) _
    unfold bshuntref01_Digits
    refine Rn.bind hs ?_
    (first | (refine Rn.t ?hc ?_; case hc => simp (config := { implicitDefEqProofs := false, maxSteps := 2000000 }) (disch := omega) only [ps, ↓reduceIte, reduceCtorEq, Int.reduceLT, Int.reduceLE, Int.reduceEq, Nat.reduceLT, Nat.reduceLeDiff, Nat.reduceEqDiff, Int.reduceNeg, eitherK]) | (refine Rn.f ?hc ?_; case hc => simp (config := { implicitDefEqProofs := false, maxSteps := 2000000 }) (disch := omega) only [ps, ↓reduceIte, reduceCtorEq, Int.reduceLT, Int.reduceLE, Int.reduceEq, Nat.reduceLT, Nat.reduceLeDiff, Nat.reduceEqDiff, Int.reduceNeg, eitherK]))
    exact Rn.pure _
  · have h0 : a1 ≠ [] := fun h => by
      have := (hn.c.nil_iff (B := U) (by decide)).1 h
      rw [hab] at this; omega
    have hbd : V U a1 < 10 ^ (5 * a1.length) := by
      have h1 := V_lt (B := U) (by decide) hn.c.1
      have h2 := pow_bd2 a1.length
      omega
    have main : ∀ k, 1000000001 ≤ k → ∃ l t', Lshuntref01_Digits_0 k k (bytesOf []) a1.length a0 a1 a1 = some (bytesOf (sg l).reverse, a0, a1, t') ∧ Cn 10 l ∧ V 10 l = V U a1 ∧ l.length ≤ 5000 := by
      intro k hk
      obtain ⟨l, t', q1, q2, q3, q4⟩ := digs_loop k a0 a1 (by omega) (5 * a1.length) k a1 [] [] hbd hn.c (by simp; omega) (by omega) (by simp; omega) Dg.nil (fun h => absurd h h0)
      rw [List.append_nil] at q1
      exact ⟨l, t', q1, q2, by rw [q3]; simp [V], by simp at q4; omega⟩
    obtain ⟨l, t0, q1, q2, q3, q4⟩ := main 1000000001 (Nat.le_refl _)
    refine ⟨bytesOf ((if z < 0 then [45] else []) ++ (sg l).reverse), ?_, ⟨fun h => absurd h hz, fun _ => ⟨l, q2, by rw [q3, hab], rfl⟩⟩⟩
    obtain ⟨K, hK⟩ := hs
    refine Rn.up (f := fun k => Fshuntref01_Digits k a0 a1) (Rn.eq (max K 1000000001) fun k hk => ?_)
    show bshuntref01_Digits k a0 a1 = _
    unfold bshuntref01_Digits
    obtain ⟨l', t', r1, r2, r3, r4⟩ := main k (by omega)
    have hll : l' = l := Cn.ext (by decide) r2 q2 (by rw [r3, q3])
    subst hll
    have hk1 := hK k (by omega)
    have r1' : Lshuntref01_Digits_0 k k (ByteArray.mk (List.toArray [])) a1.length a0 a1 a1 = some (bytesOf (sg l').reverse, a0, a1, t') := r1
    have hsz : (bytesOf (sg l').reverse).size = l'.length := by rw [bytesOf_size, List.length_reverse, sg_len]
    cases a0
    · have hzn : ¬ z < 0 := by simpa using hng
      simp (config := { implicitDefEqProofs := false, maxSteps := 2000000 }) (disch := omega) only [ps, ↓reduceIte, reduceCtorEq, Int.reduceLT, Int.reduceLE, Int.reduceEq, Nat.reduceLT, Nat.reduceLeDiff, Nat.reduceEqDiff, Int.reduceNeg, eitherK, hk1, r1', hzn]
    · have hzn : z < 0 := by simpa using hng
      simp (config := { implicitDefEqProofs := false, maxSteps := 2000000 }) (disch := omega) only [ps, ↓reduceIte, reduceCtorEq, Int.reduceLT, Int.reduceLE, Int.reduceEq, Nat.reduceLT, Nat.reduceLeDiff, Nat.reduceEqDiff, Int.reduceNeg, eitherK, hk1, r1', hzn, hsz]
      rw [← bytesOf_append]; rfl
theorem rText_no {a0 : Bool} {a1 : List Int} (la : a1.length ≤ 9223372036854775807) (da : Dg W a1) (h : ¬ Ri a0 a1) : Rn (fun k => Fshuntref01_Text k a0 a1) (bytesOf [], 10) := by
  refine Rn.up (f := fun k => Fshuntref01_Text k a0 a1) ?_
  show Rn (fun k => bshuntref01_Text k a0 a1) _
  unfold bshuntref01_Text
  refine Rn.bind (right_ev a0 a1 la da) ?_
  (first | (refine Rn.t ?hc ?_; case hc => simp (config := { implicitDefEqProofs := false, maxSteps := 2000000 }) (disch := omega) only [ps, ↓reduceIte, reduceCtorEq, Int.reduceLT, Int.reduceLE, Int.reduceEq, Nat.reduceLT, Nat.reduceLeDiff, Nat.reduceEqDiff, Int.reduceNeg, eitherK, h, decide_false]) | (refine Rn.f ?hc ?_; case hc => simp (config := { implicitDefEqProofs := false, maxSteps := 2000000 }) (disch := omega) only [ps, ↓reduceIte, reduceCtorEq, Int.reduceLT, Int.reduceLE, Int.reduceEq, Nat.reduceLT, Nat.reduceLeDiff, Nat.reduceEqDiff, Int.reduceNeg, eitherK, h, decide_false]))
  exact Rn.pure _
theorem rText_ev {a0 : Bool} {a1 : List Int} (da : Dg W a1) (h : Ri a0 a1) : ∃ s, Rn (fun k => Fshuntref01_Text k a0 a1) (s, 0) ∧ Tx (Zv W a0 a1) s := by
  have k1 := h.1
  obtain ⟨l, p1, p2, p3⟩ := rTake_ev a0 a1 (by omega) (h.nm da)
  obtain ⟨s, h1, h2⟩ := rDigits_ev a0 l p2 (by omega)
  refine ⟨s, ?_, h2⟩
  refine Rn.up (f := fun k => Fshuntref01_Text k a0 a1) ?_
  show Rn (fun k => bshuntref01_Text k a0 a1) _
  unfold bshuntref01_Text
  refine Rn.bind (right_ev a0 a1 (by omega) da) ?_
  (first | (refine Rn.t ?hc ?_; case hc => simp (config := { implicitDefEqProofs := false, maxSteps := 2000000 }) (disch := omega) only [ps, ↓reduceIte, reduceCtorEq, Int.reduceLT, Int.reduceLE, Int.reduceEq, Nat.reduceLT, Nat.reduceLeDiff, Nat.reduceEqDiff, Int.reduceNeg, eitherK, h, decide_true]) | (refine Rn.f ?hc ?_; case hc => simp (config := { implicitDefEqProofs := false, maxSteps := 2000000 }) (disch := omega) only [ps, ↓reduceIte, reduceCtorEq, Int.reduceLT, Int.reduceLE, Int.reduceEq, Nat.reduceLT, Nat.reduceLeDiff, Nat.reduceEqDiff, Int.reduceNeg, eitherK, h, decide_true]))
  exact Rn.bind p1 (Rn.bind h1 (Rn.pure _))

theorem wide_loop (k : Nat) (x0 a0 : Bool) : ∀ (d n : Nat) (u : Int) (l : List Int), 0 ≤ u ∧ u < U ^ d → u < 18446744073709551616 → d < n → l.length ≤ 1000 - d → d ≤ 100 → Dg U l → (u = 0 → Cn U l) →
    ∃ l', Lshuntref01_Wide_0 k n u x0 0 a0 l.length [] l = some (x0, 0, a0, l'.length, [], l') ∧ Cn U l' ∧ V U l' = V U l + U ^ l.length * u ∧ l'.length ≤ l.length + d := by
  intro d
  induction d with
  | zero =>
    intro n u l hu hub hn hl hd9 hd hc
    obtain ⟨n, rfl⟩ : ∃ m, n = m + 1 := ⟨n - 1, by omega⟩
    have hu0 : u = 0 := by simp at hu; omega
    subst hu0
    refine ⟨l, ?_, hc rfl, by simp, by omega⟩
    show Lshuntref01_Wide_0s k (Lshuntref01_Wide_0 k n) _ _ _ _ _ _ _ = _
    unfold Lshuntref01_Wide_0s
    simp (config := { implicitDefEqProofs := false, maxSteps := 2000000 }) (disch := omega) only [ps, ↓reduceIte, reduceCtorEq, Int.reduceLT, Int.reduceLE, Int.reduceEq, Nat.reduceLT, Nat.reduceLeDiff, Nat.reduceEqDiff, Int.reduceNeg, eitherK]
  | succ d ih =>
    intro n u l hu hub hn hl hd9 hd hc
    obtain ⟨n, rfl⟩ : ∃ m, n = m + 1 := ⟨n - 1, by omega⟩
    by_cases hu0 : u = 0
    · subst hu0
      refine ⟨l, ?_, hc rfl, by simp, by omega⟩
      show Lshuntref01_Wide_0s k (Lshuntref01_Wide_0 k n) _ _ _ _ _ _ _ = _
      unfold Lshuntref01_Wide_0s
      simp (config := { implicitDefEqProofs := false, maxSteps := 2000000 }) (disch := omega) only [ps, ↓reduceIte, reduceCtorEq, Int.reduceLT, Int.reduceLE, Int.reduceEq, Nat.reduceLT, Nat.reduceLeDiff, Nat.reduceEqDiff, Int.reduceNeg, eitherK]
    · have hu2 : u / 65536 < U ^ d := by
        have := hu.2
        rw [Int.pow_succ] at this
        unfold U at this ⊢
        omega
      have hdm := Int.emod_add_mul_ediv u 65536
      have hlen : (l ++ [u % 65536]).length = l.length + 1 := by simp
      have hdl : Dg U (l ++ [u % 65536]) := hd.snoc (by unfold U; omega)
      obtain ⟨l', q1, q2, q3, q4⟩ := ih n (u / 65536) (l ++ [u % 65536]) ⟨by omega, hu2⟩ (by omega) (by omega) (by rw [hlen]; omega) (by omega) hdl (fun h => ⟨hdl, (Cn.last hdl).2 (.inr ⟨l, u % 65536, rfl, by omega⟩)⟩)
      refine ⟨l', ?_, q2, ?_, by rw [hlen] at q4; omega⟩
      · rw [hlen] at q1
        rw [← q1]
        show Lshuntref01_Wide_0s k (Lshuntref01_Wide_0 k n) _ _ _ _ _ _ _ = _
        unfold Lshuntref01_Wide_0s
        have ht : l.take l.length = l := List.take_length
        simp (config := { implicitDefEqProofs := false, maxSteps := 2000000 }) (disch := omega) only [ps, ↓reduceIte, reduceCtorEq, Int.reduceLT, Int.reduceLE, Int.reduceEq, Nat.reduceLT, Nat.reduceLeDiff, Nat.reduceEqDiff, Int.reduceNeg, eitherK, tdiv_pos, tmod_pos, ht, List.take_succ_cons, List.length_cons]
      · rw [q3, V_snoc, hlen, Int.pow_succ]
        unfold U
        grind
theorem rWide_ev (v : Int) (hv : -9223372036854775808 ≤ v ∧ v ≤ 9223372036854775807) : ∃ l, Rn (fun k => Fshuntref01_Wide k v) (decide (v < 0), l) ∧ Nm U (decide (v < 0)) l v ∧ l.length ≤ 4 := by
  have main : ∀ (x0 : Bool) (u : Int), 0 ≤ u ∧ u < 18446744073709551616 → ∃ l, Cn U l ∧ V U l = u ∧ l.length ≤ 4 ∧ ∀ k, 5 ≤ k → Lshuntref01_Wide_0 k k u false 0 x0 0 [] [] = some (false, 0, x0, l.length, [], l) := by
    intro x0 u hu
    have h4 : u < U ^ 4 := by unfold U; simpa using hu.2
    obtain ⟨l, q1, q2, q3, q4⟩ := wide_loop 5 false x0 4 5 u [] ⟨hu.1, h4⟩ hu.2 (by omega) (by simp) (by omega) Dg.nil (fun _ => Cn.nil)
    refine ⟨l, q2, by rw [q3]; simp [V], by simpa using q4, fun k hk => ?_⟩
    obtain ⟨l', r1, r2, r3, r4⟩ := wide_loop k false x0 4 k u [] ⟨hu.1, h4⟩ hu.2 (by omega) (by simp) (by omega) Dg.nil (fun _ => Cn.nil)
    have : l' = l := Cn.ext (by decide) r2 q2 (by rw [r3, q3])
    subst this
    exact r1
  by_cases h : v < 0
  · obtain ⟨l, h1, h2, h3, h4⟩ := main true (-v) (by omega)
    refine ⟨l, ?_, Nm.of (by decide) h1 (by omega), h3⟩
    refine Rn.up (f := fun k => Fshuntref01_Wide k v) (Rn.eq 5 fun k hk => ?_)
    show bshuntref01_Wide k v = _
    unfold bshuntref01_Wide
    have e1 : IntKind.u64.wrap (0 - IntKind.u64.wrap v) = -v := by rw [wrap_u64, wrap_u64]; omega
    have hh := h4 k hk
    rw [if_pos (by simpa using h), e1]
    simp (config := { implicitDefEqProofs := false, maxSteps := 2000000 }) (disch := omega) only [ps, ↓reduceIte, reduceCtorEq, Int.reduceLT, Int.reduceLE, Int.reduceEq, Nat.reduceLT, Nat.reduceLeDiff, Nat.reduceEqDiff, Int.reduceNeg, eitherK, hh, List.take_length, h, decide_true, decide_false]
  · obtain ⟨l, h1, h2, h3, h4⟩ := main false v (by omega)
    refine ⟨l, ?_, Nm.of (by decide) h1 (by omega), h3⟩
    refine Rn.up (f := fun k => Fshuntref01_Wide k v) (Rn.eq 5 fun k hk => ?_)
    show bshuntref01_Wide k v = _
    unfold bshuntref01_Wide
    have hh := h4 k hk
    have e1 : IntKind.u64.wrap v = v := wrap_u64_id (by omega)
    rw [if_neg (by simpa using h), e1]
    simp (config := { implicitDefEqProofs := false, maxSteps := 2000000 }) (disch := omega) only [ps, ↓reduceIte, reduceCtorEq, Int.reduceLT, Int.reduceLE, Int.reduceEq, Nat.reduceLT, Nat.reduceLeDiff, Nat.reduceEqDiff, Int.reduceNeg, eitherK, hh, List.take_length, h, decide_true, decide_false]
end Go.Proofs.Ytghdpmejgonjmaa.Am

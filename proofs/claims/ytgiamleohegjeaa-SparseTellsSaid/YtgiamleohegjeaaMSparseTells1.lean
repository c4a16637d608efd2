/- Plain reckoning: rounds enough, and what rows of digits are worth. -/
import Derived.Test.YtgiamleohegjeaaMP1
import Derived.KernelRfl

set_option linter.unusedVariables false
set_option linter.unusedSimpArgs false
namespace Go.Proofs.Ytgiamleohegjeaa.Am

/-- With rounds enough the answer is r. -/
def Rn {α : Type} (f : Nat → Option α) (r : α) : Prop := ∃ K, ∀ k, K ≤ k → f k = some r
/-- The same, where a loop's rounds count for themselves. -/
def Rl {α : Type} (f : Nat → Nat → Option α) (r : α) : Prop := ∃ K, ∀ k n, K ≤ k → K ≤ n → f k n = some r
section
variable {α β γ : Type}
theorem Rn.pure (r : α) : Rn (fun _ => some r) r := ⟨0, fun _ _ => rfl⟩
theorem Rn.eq {f : Nat → Option α} {r : α} (K : Nat) (h : ∀ k, K ≤ k → f k = some r) : Rn f r := ⟨K, h⟩
theorem Rn.bind {f : Nat → Option α} {g : Nat → α → Option β} {x : α} {r : β} (h1 : Rn f x) (h2 : Rn (fun k => g k x) r) : Rn (fun k => Option.bind (f k) (g k)) r := by
 obtain ⟨K1, h1⟩ := h1
 obtain ⟨K2, h2⟩ := h2
 exact ⟨max K1 K2, fun k hk => by show Option.bind (f k) (g k) = _; rw [h1 k (by omega)]; exact h2 k (by omega)⟩
/-- A function's rounds are one more than its body's. -/
theorem Rn.up {f : Nat → Option α} {r : α} (h : Rn (fun k => f (k + 1)) r) : Rn f r := by
 obtain ⟨K, h⟩ := h
 refine ⟨K + 1, fun k hk => ?_⟩
 obtain ⟨j, rfl⟩ : ∃ j, k = j + 1 := ⟨k - 1, by omega⟩
 exact h j (by omega)
theorem Rn.const {e : Option α} {r : α} (h : e = some r) : Rn (fun _ => e) r := ⟨0, fun _ _ => h⟩
theorem Rn.t {c : Prop} [Decidable c] {f g : Nat → Option α} {r : α} (h : c) (hf : Rn f r) : Rn (fun k => if c then f k else g k) r := by
 simpa only [if_pos h] using hf
theorem Rn.f {c : Prop} [Decidable c] {f g : Nat → Option α} {r : α} (h : ¬ c) (hg : Rn g r) : Rn (fun k => if c then f k else g k) r := by
 simpa only [if_neg h] using hg
theorem Rn.at {o : Option α} {g : Nat → α → Option β} {x : α} {r : β} (h : o = some x) (hg : Rn (fun k => g k x) r) : Rn (fun k => Option.bind o (g k)) r := by
 simpa only [h, Option.bind_some] using hg
theorem Rl.diag {f : Nat → Nat → Option α} {r : α} (h : Rl f r) : Rn (fun k => f k k) r := by
 obtain ⟨K, h⟩ := h
 exact ⟨K, fun k hk => h k k hk hk⟩
theorem Rl.pure (r : α) : Rl (fun _ _ => some r) r := ⟨0, fun _ _ _ _ => rfl⟩
theorem Rl.bind {f : Nat → Option α} {g : Nat → Nat → α → Option β} {x : α} {r : β} (h1 : Rn f x) (h2 : Rl (fun k n => g k n x) r) : Rl (fun k n => Option.bind (f k) (g k n)) r := by
 obtain ⟨K1, h1⟩ := h1
 obtain ⟨K2, h2⟩ := h2
 exact ⟨max K1 K2, fun k n hk hn => by show Option.bind (f k) (g k n) = _; rw [h1 k (by omega)]; exact h2 k n (by omega) (by omega)⟩
theorem Rl.up {f : Nat → Nat → Option α} {r : α} (h : Rl (fun k n => f k (n + 1)) r) : Rl f r := by
 obtain ⟨K, h⟩ := h
 refine ⟨K + 1, fun k n hk hn => ?_⟩
 obtain ⟨j, rfl⟩ : ∃ j, n = j + 1 := ⟨n - 1, by omega⟩
 exact h k j (by omega) (by omega)
theorem Rl.of {f : Nat → Nat → Option α} {r : α} (K : Nat) (h : ∀ k n, K ≤ n → f k n = some r) : Rl f r := ⟨K, fun k n _ hn => h k n hn⟩
end

theorem wrap_u32_id {x : Int} (h : 0 ≤ x ∧ x < 4294967296) : IntKind.u32.wrap x = x := by rw [wrap_u32]; omega
theorem wrap_u64_id {x : Int} (h : 0 ≤ x ∧ x < 18446744073709551616) : IntKind.u64.wrap x = x := by rw [wrap_u64]; omega
theorem wrap_u8_id {x : Int} (h : 0 ≤ x ∧ x < 256) : IntKind.u8.wrap x = x := by rw [wrap_u8]; omega
/-- What reckons, in one. -/
theorem ps :
 (∀ {p : Prop} [inst : Decidable p], (Decidable.decide p = Bool.true) = p) ∧
 (∀ {p : Prop} {x : Decidable p}, Decidable.decide p = Bool.false ↔ ¬p) ∧
 (∀ {α : Type} [inst : BEq α] [LawfulBEq α] {a b : α}, (a == b) = Bool.true ↔ a = b) ∧
 (∀ {α : Type} [inst : BEq α] [LawfulBEq α] {a b : α}, (a != b) = Bool.true ↔ a ≠ b) ∧
 (∀ {α : Type} (a b : α), (a ≠ b) = ¬a = b) ∧
 (∀ {α : Type} [inst : LT α] {x y : α}, x > y ↔ y < x) ∧
 (∀ {α : Type} [inst : LE α] {x y : α}, x ≥ y ↔ y ≤ x) ∧
 (∀ {a b : Int}, a ≤ b → (a ≤ b) = True) ∧
 (∀ {a b : Int}, ¬a ≤ b → (a ≤ b) = False) ∧
 (∀ {a b : Int}, a < b → (a < b) = True) ∧
 (∀ {a b : Int}, ¬a < b → (a < b) = False) ∧
 (∀ {a b : Int}, a = b → (a = b) = True) ∧
 (∀ {a b : Int}, ¬a = b → (a = b) = False) ∧
 (∀ {a b : Nat}, a ≤ b → (a ≤ b) = True) ∧
 (∀ {a b : Nat}, ¬a ≤ b → (a ≤ b) = False) ∧
 (∀ {a b : Nat}, a < b → (a < b) = True) ∧
 (∀ {a b : Nat}, ¬a < b → (a < b) = False) ∧
 ((¬True) = False) ∧
 ((¬False) = True) ∧
 (∀ (p : Prop), (True ∧ p) = p) ∧
 (∀ (p : Prop), (p ∧ True) = p) ∧
 (∀ (p : Prop), (False ∧ p) = False) ∧
 (∀ (p : Prop), (p ∧ False) = False) ∧
 (∀ (p : Prop), (p ∧ p) = p) ∧
 (∀ (p : Prop), (p ∨ True) = True) ∧
 (∀ (p : Prop), (True ∨ p) = True) ∧
 (∀ (p : Prop), (p ∨ False) = p) ∧
 (∀ (p : Prop), (False ∨ p) = p) ∧
 (∀ {α β : Type} (a : α) (f : α → Option β), (Option.some a).bind f = f a) ∧
 (∀ (n : Nat), (0 : Nat) + n = n) ∧
 (∀ (n : Nat), n + (0 : Nat) = n) ∧
 (∀ (n : Nat), n - (0 : Nat) = n) ∧
 (∀ (n : Nat), (↑n : Int).toNat = n) ∧
 (Int.toNat (0 : Int) = (0 : Nat)) ∧
 (∀ {x : Int}, (-9223372036854775808 : Int) ≤ x ∧ x ≤ (9223372036854775807 : Int) → Go.IntKind.i64.wrap x = x) ∧
 (∀ {x : Int}, (0 : Int) ≤ x ∧ x < (4294967296 : Int) → Go.IntKind.u32.wrap x = x) ∧
 (∀ {x : Int}, (0 : Int) ≤ x ∧ x < (18446744073709551616 : Int) → Go.IntKind.u64.wrap x = x) ∧
 (∀ {x : Int}, (0 : Int) ≤ x ∧ x < (256 : Int) → Go.IntKind.u8.wrap x = x) ∧
 (∀ {α : Type} {l : List α}, List.take (0 : Nat) l = []) ∧
 (∀ {α : Type} (zs : List α), [] ++ zs = zs) ∧
 (∀ {α : Type} [inst : BEq α] [ReflBEq α] (a : α), (a == a) = Bool.true) ∧
 (∀ {α : Type} [inst : BEq α] [LawfulBEq α] (a : α), (a != a) = Bool.false) ∧
 (∀ {α : Type} (a : α), (a = a) = True) ∧
 ((Bool.false = Bool.true) = False) ∧
 ((Bool.true = Bool.false) = False) ∧
 (∀ {α : Type}, ([] : List α).length = (0 : Nat)) ∧
 ((↑(0 : Nat) : Int) = (0 : Int)) ∧
 ((!Bool.true) = Bool.false) ∧
 ((!Bool.false) = Bool.true) ∧
 (∀ {α β : Type} (f : α → Option β), Option.none.bind f = Option.none) ∧
 (∀ {α : Type} [inst : BEq α] [LawfulBEq α] {a b : α}, (a != b) = Bool.false ↔ a = b) ∧
 (∀ {α : Type} [inst : BEq α] [LawfulBEq α] {a b : α}, (a == b) = Bool.false ↔ a ≠ b) ∧
 (∀ (b : Bool), ((!b) = Bool.true) = (b = Bool.false)) ∧
 (∀ (b : Bool), ((!b) = Bool.false) = (b = Bool.true)) :=
 ⟨@decide_eq_true_eq, @decide_eq_false_iff_not, @beq_iff_eq.{0}, @bne_iff_ne.{0}, @ne_eq.{1}, @gt_iff_lt.{0}, @ge_iff_le.{0}, @ile_t, @ile_f, @ilt_t, @ilt_f, @ieq_t, @ieq_f, @nle_t, @nle_f, @nlt_t, @nlt_f, @not_true_eq_false, @not_false_eq_true, @true_and, @and_true, @false_and, @and_false, @and_self, @or_true, @true_or, @or_false, @false_or, @Option.bind_some.{0,0}, @Nat.zero_add, @Nat.add_zero, @Nat.sub_zero, @Int.toNat_natCast, @Int.toNat_zero, @wrap_i64, @wrap_u32_id, @wrap_u64_id, @wrap_u8_id, @List.take_zero.{0}, @List.nil_append.{0}, @beq_self_eq_true.{0}, @bne_self_eq_false.{0}, @eq_self.{1}, @Bool.false_eq_true, @Bool.true_eq_false, @List.length_nil.{0}, @Int.natCast_zero, @Bool.not_true, @Bool.not_false, @Option.bind_none.{0,0}, @bne_eq_false_iff_eq.{0}, @beq_eq_false_iff_ne.{0}, @Bool.not_eq_true', @Bool.not_eq_false'⟩
/-- What digits are worth, the lowest first. -/
def V (B : Int) : List Int → Int
 | [] => 0
 | x :: r => x + B * V B r
/-- Digits of the base. -/
def Dg (B : Int) (l : List Int) : Prop := ∀ x ∈ l, 0 ≤ x ∧ x < B
/-- Without the noughts at the end. -/
def tl : List Int → List Int
 | [] => []
 | x :: r => if x = 0 ∧ tl r = [] then [] else x :: tl r
theorem tl_snoc (l : List Int) (x : Int) : tl (l ++ [x]) = if x = 0 then tl l else l ++ [x] := by
 induction l with
 | nil => by_cases h : x = 0 <;> simp [tl, h]
 | cons y l ih =>
  simp only [List.cons_append, tl, ih]
  by_cases h : x = 0
  ·simp [h]
  ·simp [h]
theorem tl_len (l : List Int) : (tl l).length ≤ l.length := by
 induction l with
 | nil => exact Nat.le_refl _
 | cons x r ih => simp only [tl]; split <;> simp; omega
theorem tl_take (l : List Int) : l.take (tl l).length = tl l := by
 induction l with
 | nil => rfl
 | cons x r ih =>
  simp only [tl]
  split
  ·rfl
  ·simp [ih]
theorem tl_tl (l : List Int) : tl (tl l) = tl l := by
 induction l with
 | nil => rfl
 | cons x r ih =>
  simp only [tl]
  split
  ·rfl
  ·rename_i h
   simp only [tl, ih]
   rw [if_neg h]
section
variable {B : Int}
theorem Dg.nil : Dg B [] := fun x h => by cases h
theorem Dg.cons {x : Int} {l : List Int} (h : 0 ≤ x ∧ x < B) (hl : Dg B l) : Dg B (x :: l) := fun y hy => by
 rcases List.mem_cons.1 hy with rfl | hy
 ·exact h
 ·exact hl y hy
theorem Dg.tail {x : Int} {l : List Int} (h : Dg B (x :: l)) : Dg B l := fun y hy => h y (List.mem_cons_of_mem _ hy)
theorem Dg.head {x : Int} {l : List Int} (h : Dg B (x :: l)) : 0 ≤ x ∧ x < B := h x (List.mem_cons_self ..)
theorem Dg.append {l m : List Int} (h1 : Dg B l) (h2 : Dg B m) : Dg B (l ++ m) := fun y hy => by
 rcases List.mem_append.1 hy with hy | hy
 ·exact h1 y hy
 ·exact h2 y hy
theorem Dg.take {l : List Int} (h : Dg B l) (n : Nat) : Dg B (l.take n) := fun y hy => h y (List.mem_of_mem_take hy)
theorem Dg.drop {l : List Int} (h : Dg B l) (n : Nat) : Dg B (l.drop n) := fun y hy => h y (List.mem_of_mem_drop hy)
theorem Dg.get {l : List Int} (h : Dg B l) {i : Nat} {x : Int} (e : l[i]? = some x) : 0 ≤ x ∧ x < B := h x (List.mem_of_getElem? e)
theorem Dg.set {l : List Int} (h : Dg B l) (i : Nat) {x : Int} (hx : 0 ≤ x ∧ x < B) : Dg B (l.set i x) := fun y hy => by
 rcases List.mem_or_eq_of_mem_set hy with hy | rfl
 ·exact h y hy
 ·exact hx
theorem Dg.tl {l : List Int} (h : Dg B l) : Dg B (tl l) := by rw [← tl_take]; exact h.take _
theorem V_nonneg (hB : 0 ≤ B) {l : List Int} (h : Dg B l) : 0 ≤ V B l := by
 induction l with
 | nil => exact Int.le_refl _
 | cons x l ih => have := Int.mul_nonneg hB (ih h.tail); have := h.head; simp only [V]; omega
/-- Digits in the one form. -/
def Cn (B : Int) (l : List Int) : Prop := Dg B l ∧ tl l = l
theorem Cn.of {l : List Int} (h : Dg B l) : Cn B (tl l) := ⟨h.tl, tl_tl l⟩
theorem Cn.nil : Cn B [] := ⟨Dg.nil, rfl⟩
theorem Cn.tail {x : Int} {l : List Int} (h : Cn B (x :: l)) : Cn B l := by
 refine ⟨h.1.tail, ?_⟩
 have := h.2
 simp only [tl] at this
 split at this
 ·cases this
 ·simpa using this
theorem Cn.pos {x : Int} {l : List Int} (hB : 0 < B) (h : Cn B (x :: l)) : 0 < V B (x :: l) := by
 induction l generalizing x with
 | nil =>
  have h1 := h.1.head
  have h2 := h.2
  simp only [tl, and_true] at h2
  simp only [V, Int.mul_zero, Int.add_zero]
  split at h2
  ·cases h2
  ·omega
 | cons y l ih =>
  have := ih h.tail
  have := Int.mul_pos hB this
  have := h.1.head
  rw [V]
  omega
theorem Cn.ext (hB : 0 < B) : ∀ {l m : List Int}, Cn B l → Cn B m → V B l = V B m → l = m := by
 intro l
 induction l with
 | nil =>
  intro m h1 h2 e
  cases m with
  | nil => rfl
  | cons y m => have := h2.pos hB; rw [← e] at this; simp [V] at this
 | cons x l ih =>
  intro m h1 h2 e
  cases m with
  | nil => have := h1.pos hB; rw [e] at this; simp [V] at this
  | cons y m =>
   have hx := h1.1.head
   have hy := h2.1.head
   simp only [V] at e
   have e1 : x = y := by
    have a1 : (x + B * V B l) % B = x := by rw [Int.add_mul_emod_self_left]; exact Int.emod_eq_of_lt hx.1 hx.2
    have a2 : (y + B * V B m) % B = y := by rw [Int.add_mul_emod_self_left]; exact Int.emod_eq_of_lt hy.1 hy.2
    rw [← a1, ← a2, e]
   subst e1
   have e2 : B * V B l = B * V B m := by omega
   have e3 := Int.eq_of_mul_eq_mul_left (by omega) e2
   rw [ih h1.tail h2.tail e3]
theorem Cn.nil_iff (hB : 0 < B) {l : List Int} (h : Cn B l) : l = [] ↔ V B l = 0 := by
 constructor
 ·rintro rfl; rfl
 ·intro e; exact Cn.ext hB h Cn.nil e
/-- The last digit isn't 0. -/
theorem Cn.last {l : List Int} (h : Dg B l) : tl l = l ↔ l = [] ∨ ∃ m x, l = m ++ [x] ∧ x ≠ 0 := by
 rcases List.eq_nil_or_concat l with rfl | ⟨m, x, rfl⟩
 ·simp [tl]
 ·simp only [List.concat_eq_append, tl_snoc]
  constructor
  ·intro e
   refine .inr ⟨m, x, rfl, fun h0 => ?_⟩
   rw [if_pos h0] at e
   have := tl_len m
   rw [e] at this
   simp at this
   omega
  ·rintro (e | ⟨m', x', e, h0⟩)
   ·simp at e
   ·obtain ⟨h1, h2⟩ := List.append_inj' e rfl
    simp only [List.cons.injEq, and_true] at h2
    rw [h2, if_neg h0]
end
/-- A signed number: its sign and its digits in the one form. -/
structure Nm (B : Int) (s : Bool) (l : List Int) (z : Int) : Prop where
 c : Cn B l
 sg : s = true → l ≠ []
 z : (if s then -(V B l) else V B l) = z
theorem Nm.ext {B : Int} (hB : 0 < B) {s t : Bool} {l m : List Int} {z : Int} (h1 : Nm B s l z) (h2 : Nm B t m z) : s = t ∧ l = m := by
 have p1 := V_nonneg (B := B) (by omega) h1.c.1
 have p2 := V_nonneg (B := B) (by omega) h2.c.1
 have q1 := h1.c.nil_iff hB
 have q2 := h2.c.nil_iff hB
 have e1 := h1.z
 have e2 := h2.z
 have s1 := h1.sg
 have s2 := h2.sg
 cases s <;> cases t
 ·refine ⟨rfl, Cn.ext hB h1.c h2.c ?_⟩
  simp at e1 e2; omega
 ·have := s2 rfl
  simp at e1 e2
  exact absurd (q2.2 (by omega)) this
 ·have := s1 rfl
  simp at e1 e2
  exact absurd (q1.2 (by omega)) this
 ·refine ⟨rfl, Cn.ext hB h1.c h2.c ?_⟩
  simp at e1 e2; omega
theorem Nm.neg {B : Int} (hB : 0 < B) {s : Bool} {l : List Int} {z : Int} (h : Nm B s l z) : s = decide (z < 0) := by
 have p := V_nonneg (B := B) (by omega) h.c.1
 have e := h.z
 cases s
 ·simp at e
  rw [eq_comm, decide_eq_false_iff_not]; omega
 ·have := h.sg rfl
  have q := mt (h.c.nil_iff hB).2 this
  simp at e
  rw [eq_comm, decide_eq_true_eq]; omega
theorem Nm.of {B : Int} (hB : 0 < B) {l : List Int} (h : Cn B l) {z : Int} (e : V B l = z.natAbs) : Nm B (decide (z < 0)) l z := by
 have p := V_nonneg (B := B) (by omega) h.1
 refine ⟨h, fun hs h0 => ?_, ?_⟩
 ·have := (h.nil_iff hB).1 h0
  simp at hs; omega
 ·by_cases hz : z < 0
  ·simp [hz]; omega
  ·simp [hz]; omega
end Go.Proofs.Ytgiamleohegjeaa.Am
namespace Go.Proofs.Ytgiamleohegjeaa.Am
open Go
theorem Rl.t {α : Type} {c : Prop} [Decidable c] {f g : Nat → Nat → Option α} {r : α} (h : c) (hf : Rl f r) : Rl (fun k n => if c then f k n else g k n) r := by
 simpa only [if_pos h] using hf
theorem Rl.f {α : Type} {c : Prop} [Decidable c] {f g : Nat → Nat → Option α} {r : α} (h : ¬ c) (hg : Rl g r) : Rl (fun k n => if c then f k n else g k n) r := by
 simpa only [if_neg h] using hg
theorem Rl.at {α β : Type} {o : Option α} {g : Nat → Nat → α → Option β} {x : α} {r : β} (h : o = some x) (hg : Rl (fun k n => g k n x) r) : Rl (fun k n => Option.bind o (g k n)) r := by
 simpa only [h, Option.bind_some] using hg
theorem getD_some {α : Type} {l : List α} {i : Nat} (d : α) (h : i < l.length) : l[i]? = some (l.getD i d) := by
 rw [List.getElem?_eq_getElem h]; simp [List.getD, h]
/-- A loop that looks at each place, and leaves at the first that isn't right. -/
theorem scan {A B : Type} (L s : Nat) (F : Nat → Nat → Int → Option (A ⊕ B)) (b : B) (P : A → Prop) (ok : Nat → Prop)
  (hend : Rl (fun k n => F k n (L : Int)) (.inr b))
  (hgo : ∀ i : Nat, s ≤ i → i < L → ok i → ∀ o, Rl (fun k n => F k n ((i : Int) + 1)) o → Rl (fun k n => F k n (i : Int)) o)
  (hno : ∀ i : Nat, s ≤ i → i < L → ¬ ok i → ∃ a, P a ∧ Rl (fun k n => F k n (i : Int)) (.inl a)) :
  ∀ d i : Nat, s ≤ i → i + d = L → ∃ o, Rl (fun k n => F k n (i : Int)) o ∧ ((∀ j, i ≤ j → j < L → ok j) ∧ o = .inr b ∨ (¬ ∀ j, i ≤ j → j < L → ok j) ∧ ∃ a, P a ∧ o = .inl a) := by
 intro d
 induction d with
 | zero =>
  intro i hs hi
  obtain rfl : i = L := by omega
  exact ⟨_, hend, .inl ⟨fun j h1 h2 => absurd h2 (by omega), rfl⟩⟩
 | succ d ih =>
  intro i hs hi
  by_cases h : ok i
  ·obtain ⟨o, h1, h2⟩ := ih (i + 1) (by omega) (by omega)
   refine ⟨o, hgo i hs (by omega) h o h1, ?_⟩
   have e : (∀ j, i + 1 ≤ j → j < L → ok j) ↔ (∀ j, i ≤ j → j < L → ok j) := ⟨fun g j j1 j2 => by
    rcases Nat.lt_or_ge i j with k | k
    ·exact g j k j2
    ·exact (show i = j by omega) ▸ h, fun g j j1 j2 => g j (by omega) j2⟩
   rwa [e] at h2
  ·obtain ⟨a, h1, h2⟩ := hno i hs (by omega) h
   exact ⟨_, h2, .inr ⟨fun g => h (g i (Nat.le_refl _) (by omega)), a, h1, rfl⟩⟩
end Go.Proofs.Ytgiamleohegjeaa.Am
set_option linter.unusedSectionVars false
set_option maxRecDepth 10000
namespace Go.Proofs.Ytgiamleohegjeaa.Am
open Go

/-- A loop over places, by what holds at each. -/
theorem loopI {σ β : Type} (L : Nat) (G : Nat → Nat → Int → σ → Option β) (Inv : Nat → σ → Prop) (Q : β → Prop)
    (hend : ∀ s, Inv L s → ∃ o, Q o ∧ Rl (fun k n => G k n (L : Int) s) o)
    (hgo : ∀ (i : Nat) (s : σ), i < L → Inv i s → (∃ o, Q o ∧ Rl (fun k n => G k n (i : Int) s) o) ∨ ∃ s', Inv (i + 1) s' ∧ ∀ o, Rl (fun k n => G k n ((i + 1 : Nat) : Int) s') o → Rl (fun k n => G k n (i : Int) s) o) :
    ∀ (d i : Nat) (s : σ), i + d = L → Inv i s → ∃ o, Q o ∧ Rl (fun k n => G k n (i : Int) s) o := by
  intro d
  induction d with
  | zero => intro i s hi hs; obtain rfl : i = L := by omega
            exact hend s hs
  | succ d ih =>
    intro i s hi hs
    rcases hgo i s (by omega) hs with h | ⟨s', h1, h2⟩
    · exact h
    · obtain ⟨o, h3, h4⟩ := ih (i + 1) s' (by omega) h1
      exact ⟨o, h3, h2 o h4⟩
/-- The places of a row that hold. -/
def thin (n : Nat) (f : Nat → Bool) : List Int := ((List.range n).filter f).map fun k => ((k : Nat) : Int)
def pat (n : Nat) (m : Nat → Nat → Bool) : List (List Int) := (List.range n).map fun i => thin n (m i)
def sq (n : Nat) (m : Nat → Nat → Bool) : List (List Bool) := (List.range n).map fun i => (List.range n).map (m i)
def Inc (l : List Int) : Prop := l.Pairwise (· < ·)
theorem thin_inc (n : Nat) (f : Nat → Bool) : Inc (thin n f) := by
  unfold Inc thin
  rw [List.pairwise_map]
  exact (List.pairwise_lt_range.filter f).imp (fun h => by omega)
theorem thin_mem {n : Nat} {f : Nat → Bool} {x : Int} : x ∈ thin n f ↔ 0 ≤ x ∧ x < n ∧ f x.toNat = true := by
  unfold thin
  simp only [List.mem_map, List.mem_filter, List.mem_range]
  constructor
  · rintro ⟨k, ⟨h1, h2⟩, rfl⟩
    exact ⟨by omega, by omega, by rwa [Int.toNat_natCast]⟩
  · rintro ⟨h1, h2, h3⟩
    exact ⟨x.toNat, ⟨by omega, h3⟩, by omega⟩
theorem inc_eq {l m : List Int} (hl : Inc l) (hm : Inc m) (h : ∀ x, x ∈ l ↔ x ∈ m) : l = m := by
  refine List.Perm.eq_of_pairwise (le := (· < ·)) (fun a b _ _ h1 h2 => by omega) hl hm ?_
  exact (List.perm_ext_iff_of_nodup (hl.imp (fun h => by omega)) (hm.imp (fun h => by omega))).2 h
theorem inc_thin {l : List Int} (hl : Inc l) {n : Nat} (hr : ∀ x ∈ l, 0 ≤ x ∧ x < n) : l = thin n fun k => l.contains (k : Int) := by
  refine inc_eq hl (thin_inc _ _) fun x => ?_
  rw [thin_mem]
  constructor
  · intro h
    obtain ⟨h1, h2⟩ := hr x h
    refine ⟨h1, h2, ?_⟩
    rw [Int.toNat_of_nonneg h1]
    simpa using h
  · rintro ⟨h1, h2, h3⟩
    rw [Int.toNat_of_nonneg h1] at h3
    simpa using h3
theorem thin_congr {n : Nat} {f g : Nat → Bool} (h : ∀ k, k < n → f k = g k) : thin n f = thin n g := by
  unfold thin
  congr 1
  exact List.filter_congr fun k hk => h k (List.mem_range.1 hk)
theorem thin_len (n : Nat) (f : Nat → Bool) : (thin n f).length = (List.range n).countP f := by
  unfold thin
  rw [List.length_map, List.countP_eq_length_filter]
theorem thin_le (n : Nat) (f : Nat → Bool) : (thin n f).length ≤ n := by
  rw [thin_len]
  have := List.countP_le_length (p := f) (l := List.range n)
  simpa using this
theorem pat_len (n : Nat) (m : Nat → Nat → Bool) : (pat n m).length = n := by simp [pat]
theorem pat_get (n : Nat) (m : Nat → Nat → Bool) {i : Nat} (h : i < n) : (pat n m)[i]? = some (thin n (m i)) := by
  simp [pat, h]
theorem sq_len (n : Nat) (m : Nat → Nat → Bool) : (sq n m).length = n := by simp [sq]
theorem sq_get (n : Nat) (m : Nat → Nat → Bool) {i : Nat} (h : i < n) : (sq n m)[i]? = some ((List.range n).map (m i)) := by
  simp [sq, h]
theorem sqr_get (n : Nat) (f : Nat → Bool) {i : Nat} (h : i < n) : ((List.range n).map f)[i]? = some (f i) := by
  simp [h]
theorem sqr_get' {α : Type} (n : Nat) (f : Nat → α) {i : Nat} (h : i < n) : ((List.range n).map f)[i]? = some (f i) := by
  simp [h]
/-- What is left behind a place. -/
def el (m : Nat → Nat → Bool) (r c i k : Nat) : Bool := (i != r) && (k != c) && (m i k || m i c && m r k)
def rowF (n : Nat) (m : Nat → Nat → Bool) (r c i : Nat) : Nat := if i = r then 0 else (List.range n).countP fun k => !m i k && (m i c && m r k)
/-- How many came in, in the first rows. -/
def flS (n : Nat) (m : Nat → Nat → Bool) (r c : Nat) : Nat → Nat
  | 0 => 0
  | i + 1 => flS n m r c i + rowF n m r c i
theorem rowF_le (n : Nat) (m : Nat → Nat → Bool) (r c i : Nat) : rowF n m r c i ≤ n := by
  unfold rowF
  split
  · omega
  · have := List.countP_le_length (p := fun k => !m i k && (m i c && m r k)) (l := List.range n)
    simpa using this
theorem flS_le (n : Nat) (m : Nat → Nat → Bool) (r c : Nat) : ∀ i, flS n m r c i ≤ i * n
  | 0 => by simp [flS]
  | i + 1 => by
    have := flS_le n m r c i
    have := rowF_le n m r c i
    simp only [flS, Nat.add_mul, Nat.one_mul]
    omega
theorem countP_or (f g : Nat → Bool) (l : List Nat) : l.countP (fun k => f k || g k) = l.countP f + l.countP fun k => !f k && g k := by
  induction l with
  | nil => rfl
  | cons x l ih =>
    simp only [List.countP_cons, ih]
    cases f x <;> cases g x <;> simp <;> omega
/-- Neighbours that are alike taken once. -/
def dd : List Int → List Int := List.foldl (fun acc x => if acc.getLast? = some x then acc else acc ++ [x]) []
theorem dd_snoc (l : List Int) (x : Int) : dd (l ++ [x]) = if (dd l).getLast? = some x then dd l else dd l ++ [x] := by
  unfold dd; rw [List.foldl_append]; rfl
theorem dd_last (l : List Int) : (dd l).getLast? = l.getLast? := by
  rcases List.eq_nil_or_concat l with rfl | ⟨m, x, rfl⟩
  · rfl
  · rw [List.concat_eq_append, dd_snoc]
    split
    · rename_i h; rw [h]; simp
    · simp
theorem dd_mem (l : List Int) (y : Int) : y ∈ dd l ↔ y ∈ l := by
  induction h : l.length generalizing l with
  | zero => rw [List.eq_nil_of_length_eq_zero h]; exact Iff.rfl
  | succ n ih =>
    rcases List.eq_nil_or_concat l with rfl | ⟨m, x, rfl⟩
    · cases h
    · rw [List.concat_eq_append] at h ⊢
      have hm := ih m (by simpa using h)
      rw [dd_snoc]
      split
      · rename_i hl
        rw [List.mem_append, hm, List.mem_singleton]
        constructor
        · exact .inl
        · rintro (h | rfl)
          · exact h
          · exact hm.1 (List.mem_of_getLast? hl)
      · rw [List.mem_append, List.mem_append, hm]
theorem dd_inc {l : List Int} (h : l.Pairwise (· ≤ ·)) : Inc (dd l) := by
  induction hn : l.length generalizing l with
  | zero => rw [List.eq_nil_of_length_eq_zero hn]; exact List.Pairwise.nil
  | succ n ih =>
    rcases List.eq_nil_or_concat l with rfl | ⟨m, x, rfl⟩
    · cases hn
    · rw [List.concat_eq_append] at h hn ⊢
      obtain ⟨h1, _, h2⟩ := List.pairwise_append.1 h
      have hm := ih h1 (by simpa using hn)
      rw [dd_snoc]
      split
      · exact hm
      · rename_i hl
        refine List.pairwise_append.2 ⟨hm, List.pairwise_singleton _ _, fun a ha b hb => ?_⟩
        rw [List.mem_singleton] at hb
        subst hb
        have hle := h2 a ((dd_mem m a).1 ha) b (List.mem_singleton_self b)
        rcases Int.lt_or_eq_of_le hle with h | rfl
        · exact h
        · exfalso
          rcases List.eq_nil_or_concat (dd m) with e | ⟨q, z, e⟩
          · rw [e] at ha; cases ha
          · rw [List.concat_eq_append] at e
            rw [e] at ha hl hm
            simp only [List.getLast?_append, List.getLast?_singleton, Option.some_or, Option.some.injEq] at hl
            have hz : z ≤ a := h2 z ((dd_mem m z).1 (by rw [e]; simp)) a (List.mem_singleton_self a)
            rcases List.mem_append.1 ha with ha | ha
            · have := (List.pairwise_append.1 hm).2.2 a ha z (List.mem_singleton_self z)
              omega
            · rw [List.mem_singleton] at ha; omega
theorem sortI_le (l : List Int) : (sortI l).Pairwise (· ≤ ·) := by
  have := List.pairwise_mergeSort (le := fun x y : Int => decide (x ≤ y)) (fun a b c h1 h2 => by simp at *; omega) (fun a b => by simp; omega) l
  exact this.imp (fun h => by simpa using h)
theorem sortI_mem (l : List Int) (x : Int) : x ∈ sortI l ↔ x ∈ l := (List.mergeSort_perm l _).mem_iff
theorem sortI_len (l : List Int) : (sortI l).length = l.length := List.length_mergeSort l
/-- Two rows together. -/
theorem dd_two (n : Nat) (f g : Nat → Bool) : dd (sortI (thin n f ++ thin n g)) = thin n fun k => f k || g k := by
  refine inc_eq (dd_inc (sortI_le _)) (thin_inc _ _) fun x => ?_
  rw [dd_mem, sortI_mem, List.mem_append, thin_mem, thin_mem, thin_mem, Bool.or_eq_true]
  constructor
  · rintro (⟨h1, h2, h3⟩ | ⟨h1, h2, h3⟩)
    · exact ⟨h1, h2, .inl h3⟩
    · exact ⟨h1, h2, .inr h3⟩
  · rintro ⟨h1, h2, h3 | h3⟩
    · exact .inl ⟨h1, h2, h3⟩
    · exact .inr ⟨h1, h2, h3⟩
theorem thin_del (n : Nat) (f : Nat → Bool) (c : Nat) : (thin n f).filter (fun x => x != (c : Int)) = thin n fun k => (k != c) && f k := by
  refine inc_eq ((thin_inc n f).filter _) (thin_inc _ _) fun x => ?_
  rw [List.mem_filter, thin_mem, thin_mem]
  simp only [bne_iff_ne, ne_eq, Bool.and_eq_true]
  constructor
  · rintro ⟨⟨h1, h2, h3⟩, h4⟩; exact ⟨h1, h2, by omega, h3⟩
  · rintro ⟨h1, h2, h4, h3⟩; exact ⟨⟨h1, h2, h3⟩, by omega⟩
instance (l : List Int) : Decidable (Inc l) := inferInstanceAs (Decidable (l.Pairwise (· < ·)))
def OkR (n : Nat) (r : List Int) : Prop := Inc r ∧ ∀ x ∈ r, 0 ≤ x ∧ x < (n : Int)
instance (n : Nat) (r : List Int) : Decidable (OkR n r) := inferInstanceAs (Decidable (_ ∧ _))
/-- A right pattern. -/
def OkP (p : List (List Int)) : Prop := p.length ≤ 48 ∧ ∀ r ∈ p, OkR p.length r
instance (p : List (List Int)) : Decidable (OkP p) := inferInstanceAs (Decidable (_ ∧ _))
/-- Not longer than memory. -/
def Sm (p : List (List Int)) : Prop := p.length ≤ 1000000000000000000 ∧ ∀ r ∈ p, r.length ≤ 1000000000000000000
theorem inc_steps {l : List Int} : Inc l ↔ ∀ j, 0 < j → j < l.length → l.getD (j - 1) 0 < l.getD j 0 := by
  constructor
  · intro h j h0 hj
    have := (List.pairwise_iff_getElem.1 h) (j - 1) j (by omega) hj (by omega)
    rwa [List.getD_eq_getElem?_getD, List.getD_eq_getElem?_getD, List.getElem?_eq_getElem (by omega), List.getElem?_eq_getElem hj]
  · induction l with
    | nil => intro _; exact List.Pairwise.nil
    | cons x l ih =>
      intro h
      have hi := ih fun j h0 hj => by
        have := h (j + 1) (by omega) (by simpa using hj)
        rw [show j + 1 - 1 = (j - 1) + 1 by omega, List.getD_cons_succ, List.getD_cons_succ] at this
        exact this
      refine List.Pairwise.cons (fun y hy => ?_) hi
      cases l with
      | nil => cases hy
      | cons z l =>
        have h1 : x < z := by simpa using h 1 (by omega) (by simp)
        rcases List.mem_cons.1 hy with rfl | hy
        · exact h1
        · exact Int.lt_trans h1 ((List.pairwise_cons.1 hi).1 y hy)
theorem mem_getD {l : List Int} {P : Int → Prop} : (∀ x ∈ l, P x) ↔ ∀ j, j < l.length → P (l.getD j 0) := by
  constructor
  · intro h j hj
    have hg := getD_some (l := l) (0 : Int) hj
    exact h _ (List.mem_of_getElem? hg)
  · intro h x hx
    obtain ⟨j, hj, e⟩ := List.getElem_of_mem hx
    have := h j hj
    rwa [List.getD_eq_getElem?_getD, List.getElem?_eq_getElem hj, Option.getD_some, e] at this
theorem mem_getDL {l : List (List Int)} {P : List Int → Prop} : (∀ x ∈ l, P x) ↔ ∀ j, 0 ≤ j → j < l.length → P (l.getD j []) := by
  constructor
  · intro h j _ hj
    have hg := getD_some (l := l) ([] : List Int) hj
    exact h _ (List.mem_of_getElem? hg)
  · intro h x hx
    obtain ⟨j, hj, e⟩ := List.getElem_of_mem hx
    have := h j (Nat.zero_le _) hj
    rwa [List.getD_eq_getElem?_getD, List.getElem?_eq_getElem hj, Option.getD_some, e] at this
theorem okR_iff (n : Nat) (r : List Int) : OkR n r ↔ ∀ j, 0 ≤ j → j < r.length → (0 ≤ r.getD j 0 ∧ r.getD j 0 < (n : Int)) ∧ (0 < j → r.getD (j - 1) 0 < r.getD j 0) := by
  unfold OkR
  rw [inc_steps, mem_getD]
  exact ⟨fun h j _ hj => ⟨h.2 j hj, fun h0 => h.1 j h0 hj⟩, fun h => ⟨fun j h0 hj => (h j (Nat.zero_le _) hj).2 h0, fun j hj => (h j (Nat.zero_le _) hj).1⟩⟩
def lastR (r : List Int) (j : Nat) : Int := if j = 0 then -1 else r.getD (j - 1) 0
theorem okR_iff2 (n : Nat) (r : List Int) : OkR n r ↔ ∀ j, 0 ≤ j → j < r.length → lastR r j < r.getD j 0 ∧ r.getD j 0 < (n : Int) := by
  rw [okR_iff]
  constructor
  · intro h j h0 hj
    obtain ⟨a, b⟩ := h j h0 hj
    refine ⟨?_, a.2⟩
    unfold lastR
    split
    · omega
    · exact b (by omega)
  · intro h j h0 hj
    have key : ∀ j, j < r.length → 0 ≤ r.getD j 0 := by
      intro j
      induction j with
      | zero => intro hj; have := (h 0 (by omega) hj).1; unfold lastR at this; rw [if_pos rfl] at this; omega
      | succ j ih => intro hj; have := (h (j + 1) (by omega) hj).1; unfold lastR at this; rw [if_neg (by omega), Nat.add_sub_cancel] at this; have := ih (by omega); omega
    refine ⟨⟨key j hj, (h j h0 hj).2⟩, fun hp => ?_⟩
    have := (h j h0 hj).1
    unfold lastR at this
    rwa [if_neg (by omega)] at this
section
variable (p : List (List Int)) (hb : Sm p)
include hb
theorem check2 (r x : List (List Int)) (q : List Int) (x1 x2 : Int) (hq : q.length ≤ 1000000000000000000) : ∃ o, Rl (fun k n => Lsparse_Check_2 k n p q x x1 x2 q q.length (0 : Nat)) o ∧
    (OkR p.length q ∧ o = .inr (p, x, x1, x2) ∨ ¬ OkR p.length q ∧ ∃ a : Int, a = 130 ∧ o = .inl a) := by
  rw [okR_iff]
  refine scan q.length 0 (fun k n i => Lsparse_Check_2 k n p q x x1 x2 q q.length i) (p, x, x1, x2) (fun a => a = 130) _ ?_ ?_ ?_ q.length 0 (by omega) (by omega)
  · refine Rl.up (f := fun k n => Lsparse_Check_2 k n p q x x1 x2 q q.length q.length) (Rl.of 0 fun k n _ => ?_)
    show Lsparse_Check_2s k (Lsparse_Check_2 k n) _ _ _ _ _ _ _ _ = _
    unfold Lsparse_Check_2s
    exact if_neg (by first | omega | (simp only [decide_eq_true_eq, decide_eq_false_iff_not, Int.toNat_natCast, beq_iff_eq, bne_iff_ne, ne_eq, Int.not_lt, Int.not_le, ge_iff_le, gt_iff_lt, beq_eq_false_iff_ne, Nat.zero_add]; omega))
  · intro i hs hi hok o ho
    refine Rl.up (f := fun k n => Lsparse_Check_2 k n p q x x1 x2 q q.length i) ?_
    show Rl (fun k n => Lsparse_Check_2s k (Lsparse_Check_2 k n) _ _ _ _ _ _ _ _) _
    unfold Lsparse_Check_2s
    obtain ⟨h1, h2⟩ := hok
    refine Rl.t (by first | omega | (simp only [decide_eq_true_eq, decide_eq_false_iff_not, Int.toNat_natCast, beq_iff_eq, bne_iff_ne, ne_eq, Int.not_lt, Int.not_le, ge_iff_le, gt_iff_lt, beq_eq_false_iff_ne, Nat.zero_add]; omega)) (Rl.t (by first | omega | (simp only [decide_eq_true_eq, decide_eq_false_iff_not, Int.toNat_natCast, beq_iff_eq, bne_iff_ne, ne_eq, Int.not_lt, Int.not_le, ge_iff_le, gt_iff_lt, beq_eq_false_iff_ne, Nat.zero_add]; omega)) (Rl.at (getD_some 0 (by first | omega | (simp only [decide_eq_true_eq, decide_eq_false_iff_not, Int.toNat_natCast, beq_iff_eq, bne_iff_ne, ne_eq, Int.not_lt, Int.not_le, ge_iff_le, gt_iff_lt, beq_eq_false_iff_ne, Nat.zero_add]; omega))) ?_))
    rw [Int.toNat_natCast, wrap_i64 (x := (i : Int) + 1) (by omega)]
    refine Rl.t (by first | omega | (simp only [decide_eq_true_eq, decide_eq_false_iff_not, Int.toNat_natCast, beq_iff_eq, bne_iff_ne, ne_eq, Int.not_lt, Int.not_le, ge_iff_le, gt_iff_lt, beq_eq_false_iff_ne, Nat.zero_add]; omega)) (Rl.t (by first | omega | (simp only [decide_eq_true_eq, decide_eq_false_iff_not, Int.toNat_natCast, beq_iff_eq, bne_iff_ne, ne_eq, Int.not_lt, Int.not_le, ge_iff_le, gt_iff_lt, beq_eq_false_iff_ne, Nat.zero_add]; omega)) ?_)
    by_cases h0 : 0 < i
    · have e1 : (IntKind.i64.wrap ((i : Int) - 1)) = ((i - 1 : Nat) : Int) := by rw [wrap_i64 (by omega)]; omega
      rw [e1]
      refine Rl.t (by first | omega | (simp only [decide_eq_true_eq, decide_eq_false_iff_not, Int.toNat_natCast, beq_iff_eq, bne_iff_ne, ne_eq, Int.not_lt, Int.not_le, ge_iff_le, gt_iff_lt, beq_eq_false_iff_ne, Nat.zero_add]; omega)) (Rl.t (by first | omega | (simp only [decide_eq_true_eq, decide_eq_false_iff_not, Int.toNat_natCast, beq_iff_eq, bne_iff_ne, ne_eq, Int.not_lt, Int.not_le, ge_iff_le, gt_iff_lt, beq_eq_false_iff_ne, Nat.zero_add]; omega)) (Rl.at (getD_some 0 (by first | omega | (simp only [decide_eq_true_eq, decide_eq_false_iff_not, Int.toNat_natCast, beq_iff_eq, bne_iff_ne, ne_eq, Int.not_lt, Int.not_le, ge_iff_le, gt_iff_lt, beq_eq_false_iff_ne, Nat.zero_add]; omega))) ?_))
      rw [Int.toNat_natCast]
      have := h2 h0
      exact Rl.f (by first | omega | (simp only [decide_eq_true_eq, decide_eq_false_iff_not, Int.toNat_natCast, beq_iff_eq, bne_iff_ne, ne_eq, Int.not_lt, Int.not_le, ge_iff_le, gt_iff_lt, beq_eq_false_iff_ne, Nat.zero_add]; omega)) ho
    · exact Rl.f (by first | omega | (simp only [decide_eq_true_eq, decide_eq_false_iff_not, Int.toNat_natCast, beq_iff_eq, bne_iff_ne, ne_eq, Int.not_lt, Int.not_le, ge_iff_le, gt_iff_lt, beq_eq_false_iff_ne, Nat.zero_add]; omega)) ho
  · intro i hs hi hok
    refine ⟨130, rfl, Rl.up (f := fun k n => Lsparse_Check_2 k n p q x x1 x2 q q.length i) ?_⟩
    show Rl (fun k n => Lsparse_Check_2s k (Lsparse_Check_2 k n) _ _ _ _ _ _ _ _) _
    unfold Lsparse_Check_2s
    refine Rl.t (by first | omega | (simp only [decide_eq_true_eq, decide_eq_false_iff_not, Int.toNat_natCast, beq_iff_eq, bne_iff_ne, ne_eq, Int.not_lt, Int.not_le, ge_iff_le, gt_iff_lt, beq_eq_false_iff_ne, Nat.zero_add]; omega)) (Rl.t (by first | omega | (simp only [decide_eq_true_eq, decide_eq_false_iff_not, Int.toNat_natCast, beq_iff_eq, bne_iff_ne, ne_eq, Int.not_lt, Int.not_le, ge_iff_le, gt_iff_lt, beq_eq_false_iff_ne, Nat.zero_add]; omega)) (Rl.at (getD_some 0 (by first | omega | (simp only [decide_eq_true_eq, decide_eq_false_iff_not, Int.toNat_natCast, beq_iff_eq, bne_iff_ne, ne_eq, Int.not_lt, Int.not_le, ge_iff_le, gt_iff_lt, beq_eq_false_iff_ne, Nat.zero_add]; omega))) ?_))
    rw [Int.toNat_natCast]
    by_cases h1 : q.getD i 0 < 0
    · exact Rl.f (by first | omega | (simp only [decide_eq_true_eq, decide_eq_false_iff_not, Int.toNat_natCast, beq_iff_eq, bne_iff_ne, ne_eq, Int.not_lt, Int.not_le, ge_iff_le, gt_iff_lt, beq_eq_false_iff_ne, Nat.zero_add]; omega)) (Rl.pure _)
    refine Rl.t (by first | omega | (simp only [decide_eq_true_eq, decide_eq_false_iff_not, Int.toNat_natCast, beq_iff_eq, bne_iff_ne, ne_eq, Int.not_lt, Int.not_le, ge_iff_le, gt_iff_lt, beq_eq_false_iff_ne, Nat.zero_add]; omega)) ?_
    by_cases h2 : q.getD i 0 ≥ (p.length : Int)
    · exact Rl.f (by first | omega | (simp only [decide_eq_true_eq, decide_eq_false_iff_not, Int.toNat_natCast, beq_iff_eq, bne_iff_ne, ne_eq, Int.not_lt, Int.not_le, ge_iff_le, gt_iff_lt, beq_eq_false_iff_ne, Nat.zero_add]; omega)) (Rl.pure _)
    refine Rl.t (by first | omega | (simp only [decide_eq_true_eq, decide_eq_false_iff_not, Int.toNat_natCast, beq_iff_eq, bne_iff_ne, ne_eq, Int.not_lt, Int.not_le, ge_iff_le, gt_iff_lt, beq_eq_false_iff_ne, Nat.zero_add]; omega)) ?_
    have h0 : 0 < i ∧ q.getD i 0 ≤ q.getD (i - 1) 0 := by
      by_cases h0 : 0 < i
      · exact ⟨h0, by by_cases h3 : q.getD (i - 1) 0 < q.getD i 0; exact absurd ⟨⟨by omega, by omega⟩, fun _ => h3⟩ hok; omega⟩
      · exact absurd ⟨⟨by omega, by omega⟩, fun h => absurd h h0⟩ hok
    have e1 : (IntKind.i64.wrap ((i : Int) - 1)) = ((i - 1 : Nat) : Int) := by rw [wrap_i64 (by omega)]; omega
    rw [e1]
    refine Rl.t (by first | omega | (simp only [decide_eq_true_eq, decide_eq_false_iff_not, Int.toNat_natCast, beq_iff_eq, bne_iff_ne, ne_eq, Int.not_lt, Int.not_le, ge_iff_le, gt_iff_lt, beq_eq_false_iff_ne, Nat.zero_add]; omega)) (Rl.t (by first | omega | (simp only [decide_eq_true_eq, decide_eq_false_iff_not, Int.toNat_natCast, beq_iff_eq, bne_iff_ne, ne_eq, Int.not_lt, Int.not_le, ge_iff_le, gt_iff_lt, beq_eq_false_iff_ne, Nat.zero_add]; omega)) (Rl.at (getD_some 0 (by first | omega | (simp only [decide_eq_true_eq, decide_eq_false_iff_not, Int.toNat_natCast, beq_iff_eq, bne_iff_ne, ne_eq, Int.not_lt, Int.not_le, ge_iff_le, gt_iff_lt, beq_eq_false_iff_ne, Nat.zero_add]; omega))) ?_))
    rw [Int.toNat_natCast]
    exact Rl.t (by first | omega | (simp only [decide_eq_true_eq, decide_eq_false_iff_not, Int.toNat_natCast, beq_iff_eq, bne_iff_ne, ne_eq, Int.not_lt, Int.not_le, ge_iff_le, gt_iff_lt, beq_eq_false_iff_ne, Nat.zero_add]; omega)) (Rl.pure _)
theorem check0 : ∃ o, Rl (fun k n => Lsparse_Check_0 k n p p p.length (0 : Nat)) o ∧
    ((∀ r ∈ p, OkR p.length r) ∧ o = .inr () ∨ (¬ ∀ r ∈ p, OkR p.length r) ∧ ∃ a : Int, a = 130 ∧ o = .inl a) := by
  rw [mem_getDL]
  refine scan p.length 0 (fun k n i => Lsparse_Check_0 k n p p p.length i) () (fun a => a = 130) _ ?_ ?_ ?_ p.length 0 (by omega) (by omega)
  · refine Rl.up (f := fun k n => Lsparse_Check_0 k n p p p.length p.length) (Rl.of 0 fun k n _ => ?_)
    show Lsparse_Check_0s k (Lsparse_Check_0 k n) _ _ _ _ = _
    unfold Lsparse_Check_0s
    exact if_neg (by first | omega | (simp only [decide_eq_true_eq, decide_eq_false_iff_not, Int.toNat_natCast, beq_iff_eq, bne_iff_ne, ne_eq, Int.not_lt, Int.not_le, ge_iff_le, gt_iff_lt, beq_eq_false_iff_ne, Nat.zero_add]; omega))
  · intro i hs hi hok o ho
    have hl := hb.1
    have hg := getD_some (l := p) ([] : List Int) hi
    obtain ⟨o2, a1, a2⟩ := check2 p hb p p (p.getD i []) p.length i (hb.2 _ (List.mem_of_getElem? hg))
    rcases a2 with ⟨a2, rfl⟩ | ⟨a2, _⟩
    rotate_left
    · exact absurd hok a2
    refine Rl.up (f := fun k n => Lsparse_Check_0 k n p p p.length i) ?_
    show Rl (fun k n => Lsparse_Check_0s k (Lsparse_Check_0 k n) _ _ _ _) _
    unfold Lsparse_Check_0s
    refine Rl.t (by first | omega | (simp only [decide_eq_true_eq, decide_eq_false_iff_not, Int.toNat_natCast, beq_iff_eq, bne_iff_ne, ne_eq, Int.not_lt, Int.not_le, ge_iff_le, gt_iff_lt, beq_eq_false_iff_ne, Nat.zero_add]; omega)) (Rl.t (by first | omega | (simp only [decide_eq_true_eq, decide_eq_false_iff_not, Int.toNat_natCast, beq_iff_eq, bne_iff_ne, ne_eq, Int.not_lt, Int.not_le, ge_iff_le, gt_iff_lt, beq_eq_false_iff_ne, Nat.zero_add]; omega)) (Rl.at (by rw [Int.toNat_natCast]; exact hg) (Rl.bind a1.diag ?_)))
    show Rl (fun k n => Lsparse_Check_0 k n p p p.length (IntKind.i64.wrap ((i : Int) + 1))) o
    rw [wrap_i64 (by omega)]
    exact ho
  · intro i hs hi hok
    have hg := getD_some (l := p) ([] : List Int) hi
    obtain ⟨o2, a1, a2⟩ := check2 p hb p p (p.getD i []) p.length i (hb.2 _ (List.mem_of_getElem? hg))
    rcases a2 with ⟨a2, _⟩ | ⟨a2, a, rfl, rfl⟩
    · exact absurd a2 hok
    refine ⟨130, rfl, Rl.up (f := fun k n => Lsparse_Check_0 k n p p p.length i) ?_⟩
    show Rl (fun k n => Lsparse_Check_0s k (Lsparse_Check_0 k n) _ _ _ _) _
    unfold Lsparse_Check_0s
    exact Rl.t (by first | omega | (simp only [decide_eq_true_eq, decide_eq_false_iff_not, Int.toNat_natCast, beq_iff_eq, bne_iff_ne, ne_eq, Int.not_lt, Int.not_le, ge_iff_le, gt_iff_lt, beq_eq_false_iff_ne, Nat.zero_add]; omega)) (Rl.t (by first | omega | (simp only [decide_eq_true_eq, decide_eq_false_iff_not, Int.toNat_natCast, beq_iff_eq, bne_iff_ne, ne_eq, Int.not_lt, Int.not_le, ge_iff_le, gt_iff_lt, beq_eq_false_iff_ne, Nat.zero_add]; omega)) (Rl.at (by rw [Int.toNat_natCast]; exact hg) (Rl.bind a1.diag (Rl.pure _))))
theorem Check_ev : Rn (fun k => Fsparse_Check k p) (if OkP p then 0 else 130) := by
  refine Rn.up (f := fun k => Fsparse_Check k p) ?_
  show Rn (fun k => bsparse_Check k p) _
  unfold bsparse_Check
  by_cases hl : 48 < p.length
  · rw [if_neg (fun h => by have := h.1; omega)]
    exact Rn.t (by first | omega | (simp only [decide_eq_true_eq, decide_eq_false_iff_not, Int.toNat_natCast, beq_iff_eq, bne_iff_ne, ne_eq, Int.not_lt, Int.not_le, ge_iff_le, gt_iff_lt, beq_eq_false_iff_ne, Nat.zero_add]; omega)) (Rn.pure _)
  refine Rn.f (by first | omega | (simp only [decide_eq_true_eq, decide_eq_false_iff_not, Int.toNat_natCast, beq_iff_eq, bne_iff_ne, ne_eq, Int.not_lt, Int.not_le, ge_iff_le, gt_iff_lt, beq_eq_false_iff_ne, Nat.zero_add]; omega)) ?_
  obtain ⟨o, a1, a2⟩ := check0 p hb
  refine Rn.bind a1.diag ?_
  rcases a2 with ⟨a2, rfl⟩ | ⟨a2, a, rfl, rfl⟩
  · rw [if_pos ⟨by omega, a2⟩]
    exact Rn.pure _
  · rw [if_neg fun h => a2 h.2]
    exact Rn.pure _
theorem rcheck2 (q : Nat) (hq : q < p.length) : ∃ o, Rl (fun k n => Lshuntref13_Check_2 k n p q (lastR (p.getD q []) 0) (0 : Nat)) o ∧
    (OkR p.length (p.getD q []) ∧ o = .inr (p, (q : Int)) ∨ ¬ OkR p.length (p.getD q []) ∧ ∃ a : Int, a = 130 ∧ o = .inl a) := by
  have hg := getD_some (l := p) ([] : List Int) hq
  have hr := hb.2 _ (List.mem_of_getElem? hg)
  rw [okR_iff2]
  generalize p.getD q [] = r at hg hr
  have hG : ∀ (i : Nat), (fun k n => Lshuntref13_Check_2 k n p q (lastR r i) (i : Nat)) = (fun k n => (fun k n (i : Int) => Lshuntref13_Check_2 k n p q (lastR r i.toNat) i) k n (i : Int)) := by
    intro i; funext k n; simp only [Int.toNat_natCast]
  have hp : p[Int.toNat (q : Int)]? = some r := by rw [Int.toNat_natCast]; exact hg
  rw [hG 0]
  refine scan r.length 0 (fun k n i => Lshuntref13_Check_2 k n p q (lastR r i.toNat) i) (p, (q : Int)) (fun a => a = 130) _ ?_ ?_ ?_ r.length 0 (by omega) (by omega)
  · rw [← hG]
    refine Rl.up (f := fun k n => Lshuntref13_Check_2 k n p q (lastR r r.length) r.length) ?_
    show Rl (fun k n => Lshuntref13_Check_2s k (Lshuntref13_Check_2 k n) _ _ _ _) _
    unfold Lshuntref13_Check_2s
    exact Rl.t (by first | omega | (simp only [decide_eq_true_eq, decide_eq_false_iff_not, Int.toNat_natCast, beq_iff_eq, bne_iff_ne, ne_eq, Int.not_lt, Int.not_le, ge_iff_le, gt_iff_lt, beq_eq_false_iff_ne, Nat.zero_add]; omega)) (Rl.at hp (Rl.f (by first | omega | (simp only [decide_eq_true_eq, decide_eq_false_iff_not, Int.toNat_natCast, beq_iff_eq, bne_iff_ne, ne_eq, Int.not_lt, Int.not_le, ge_iff_le, gt_iff_lt, beq_eq_false_iff_ne, Nat.zero_add]; omega)) (Rl.pure _)))
  · intro i hs hi hok o ho
    rw [← hG]
    have ho : Rl (fun k n => Lshuntref13_Check_2 k n p q (lastR r (i + 1)) ((i + 1 : Nat) : Int)) o := by rw [hG (i + 1)]; exact ho
    have hl : lastR r (i + 1) = r.getD i 0 := by unfold lastR; rw [if_neg (by omega), Nat.add_sub_cancel]
    rw [hl] at ho
    refine Rl.up (f := fun k n => Lshuntref13_Check_2 k n p q (lastR r i) i) ?_
    show Rl (fun k n => Lshuntref13_Check_2s k (Lshuntref13_Check_2 k n) _ _ _ _) _
    unfold Lshuntref13_Check_2s
    have hgi : r[Int.toNat (i : Int)]? = some (r.getD i 0) := by rw [Int.toNat_natCast]; exact getD_some 0 hi
    obtain ⟨h1, h2⟩ := hok
    refine Rl.t (by first | omega | (simp only [decide_eq_true_eq, decide_eq_false_iff_not, Int.toNat_natCast, beq_iff_eq, bne_iff_ne, ne_eq, Int.not_lt, Int.not_le, ge_iff_le, gt_iff_lt, beq_eq_false_iff_ne, Nat.zero_add]; omega)) (Rl.at hp (Rl.t (by first | omega | (simp only [decide_eq_true_eq, decide_eq_false_iff_not, Int.toNat_natCast, beq_iff_eq, bne_iff_ne, ne_eq, Int.not_lt, Int.not_le, ge_iff_le, gt_iff_lt, beq_eq_false_iff_ne, Nat.zero_add]; omega)) (Rl.t (by first | omega | (simp only [decide_eq_true_eq, decide_eq_false_iff_not, Int.toNat_natCast, beq_iff_eq, bne_iff_ne, ne_eq, Int.not_lt, Int.not_le, ge_iff_le, gt_iff_lt, beq_eq_false_iff_ne, Nat.zero_add]; omega)) (Rl.at hp (Rl.t (by first | omega | (simp only [decide_eq_true_eq, decide_eq_false_iff_not, Int.toNat_natCast, beq_iff_eq, bne_iff_ne, ne_eq, Int.not_lt, Int.not_le, ge_iff_le, gt_iff_lt, beq_eq_false_iff_ne, Nat.zero_add]; omega)) (Rl.at hgi (Rl.t (by first | omega | (simp only [decide_eq_true_eq, decide_eq_false_iff_not, Int.toNat_natCast, beq_iff_eq, bne_iff_ne, ne_eq, Int.not_lt, Int.not_le, ge_iff_le, gt_iff_lt, beq_eq_false_iff_ne, Nat.zero_add]; omega)) (Rl.t (by first | omega | (simp only [decide_eq_true_eq, decide_eq_false_iff_not, Int.toNat_natCast, beq_iff_eq, bne_iff_ne, ne_eq, Int.not_lt, Int.not_le, ge_iff_le, gt_iff_lt, beq_eq_false_iff_ne, Nat.zero_add]; omega)) (Rl.at hp (Rl.t (by first | omega | (simp only [decide_eq_true_eq, decide_eq_false_iff_not, Int.toNat_natCast, beq_iff_eq, bne_iff_ne, ne_eq, Int.not_lt, Int.not_le, ge_iff_le, gt_iff_lt, beq_eq_false_iff_ne, Nat.zero_add]; omega)) (Rl.at hgi (Rl.f (by first | omega | (simp only [decide_eq_true_eq, decide_eq_false_iff_not, Int.toNat_natCast, beq_iff_eq, bne_iff_ne, ne_eq, Int.not_lt, Int.not_le, ge_iff_le, gt_iff_lt, beq_eq_false_iff_ne, Nat.zero_add]; omega)) (Rl.t (by first | omega | (simp only [decide_eq_true_eq, decide_eq_false_iff_not, Int.toNat_natCast, beq_iff_eq, bne_iff_ne, ne_eq, Int.not_lt, Int.not_le, ge_iff_le, gt_iff_lt, beq_eq_false_iff_ne, Nat.zero_add]; omega)) (Rl.at hp (Rl.t (by first | omega | (simp only [decide_eq_true_eq, decide_eq_false_iff_not, Int.toNat_natCast, beq_iff_eq, bne_iff_ne, ne_eq, Int.not_lt, Int.not_le, ge_iff_le, gt_iff_lt, beq_eq_false_iff_ne, Nat.zero_add]; omega)) (Rl.at hgi ?_))))))))))))))))
    rw [wrap_i64 (by omega)]
    exact ho
  · intro i hs hi hok
    refine ⟨130, rfl, ?_⟩
    rw [← hG]
    refine Rl.up (f := fun k n => Lshuntref13_Check_2 k n p q (lastR r i) i) ?_
    show Rl (fun k n => Lshuntref13_Check_2s k (Lshuntref13_Check_2 k n) _ _ _ _) _
    unfold Lshuntref13_Check_2s
    have hgi : r[Int.toNat (i : Int)]? = some (r.getD i 0) := by rw [Int.toNat_natCast]; exact getD_some 0 hi
    refine Rl.t (by first | omega | (simp only [decide_eq_true_eq, decide_eq_false_iff_not, Int.toNat_natCast, beq_iff_eq, bne_iff_ne, ne_eq, Int.not_lt, Int.not_le, ge_iff_le, gt_iff_lt, beq_eq_false_iff_ne, Nat.zero_add]; omega)) (Rl.at hp (Rl.t (by first | omega | (simp only [decide_eq_true_eq, decide_eq_false_iff_not, Int.toNat_natCast, beq_iff_eq, bne_iff_ne, ne_eq, Int.not_lt, Int.not_le, ge_iff_le, gt_iff_lt, beq_eq_false_iff_ne, Nat.zero_add]; omega)) (Rl.t (by first | omega | (simp only [decide_eq_true_eq, decide_eq_false_iff_not, Int.toNat_natCast, beq_iff_eq, bne_iff_ne, ne_eq, Int.not_lt, Int.not_le, ge_iff_le, gt_iff_lt, beq_eq_false_iff_ne, Nat.zero_add]; omega)) (Rl.at hp (Rl.t (by first | omega | (simp only [decide_eq_true_eq, decide_eq_false_iff_not, Int.toNat_natCast, beq_iff_eq, bne_iff_ne, ne_eq, Int.not_lt, Int.not_le, ge_iff_le, gt_iff_lt, beq_eq_false_iff_ne, Nat.zero_add]; omega)) (Rl.at hgi ?_))))))
    by_cases h1 : r.getD i 0 ≤ lastR r i
    · exact Rl.f (by first | omega | (simp only [decide_eq_true_eq, decide_eq_false_iff_not, Int.toNat_natCast, beq_iff_eq, bne_iff_ne, ne_eq, Int.not_lt, Int.not_le, ge_iff_le, gt_iff_lt, beq_eq_false_iff_ne, Nat.zero_add]; omega)) (Rl.pure _)
    have h2 : r.getD i 0 ≥ (p.length : Int) := by by_cases h2 : r.getD i 0 < (p.length : Int); exact absurd ⟨by omega, h2⟩ hok; omega
    exact Rl.t (by first | omega | (simp only [decide_eq_true_eq, decide_eq_false_iff_not, Int.toNat_natCast, beq_iff_eq, bne_iff_ne, ne_eq, Int.not_lt, Int.not_le, ge_iff_le, gt_iff_lt, beq_eq_false_iff_ne, Nat.zero_add]; omega)) (Rl.t (by first | omega | (simp only [decide_eq_true_eq, decide_eq_false_iff_not, Int.toNat_natCast, beq_iff_eq, bne_iff_ne, ne_eq, Int.not_lt, Int.not_le, ge_iff_le, gt_iff_lt, beq_eq_false_iff_ne, Nat.zero_add]; omega)) (Rl.at hp (Rl.t (by first | omega | (simp only [decide_eq_true_eq, decide_eq_false_iff_not, Int.toNat_natCast, beq_iff_eq, bne_iff_ne, ne_eq, Int.not_lt, Int.not_le, ge_iff_le, gt_iff_lt, beq_eq_false_iff_ne, Nat.zero_add]; omega)) (Rl.at hgi (Rl.t (by first | omega | (simp only [decide_eq_true_eq, decide_eq_false_iff_not, Int.toNat_natCast, beq_iff_eq, bne_iff_ne, ne_eq, Int.not_lt, Int.not_le, ge_iff_le, gt_iff_lt, beq_eq_false_iff_ne, Nat.zero_add]; omega)) (Rl.pure _))))))
theorem rcheck0 : ∃ o, Rl (fun k n => Lshuntref13_Check_0 k n p (0 : Nat)) o ∧
    ((∀ r ∈ p, OkR p.length r) ∧ o = .inr () ∨ (¬ ∀ r ∈ p, OkR p.length r) ∧ ∃ a : Int, a = 130 ∧ o = .inl a) := by
  rw [mem_getDL]
  refine scan p.length 0 (fun k n i => Lshuntref13_Check_0 k n p i) () (fun a => a = 130) _ ?_ ?_ ?_ p.length 0 (by omega) (by omega)
  · refine Rl.up (f := fun k n => Lshuntref13_Check_0 k n p p.length) (Rl.of 0 fun k n _ => ?_)
    show Lshuntref13_Check_0s k (Lshuntref13_Check_0 k n) _ _ = _
    unfold Lshuntref13_Check_0s
    exact if_neg (by first | omega | (simp only [decide_eq_true_eq, decide_eq_false_iff_not, Int.toNat_natCast, beq_iff_eq, bne_iff_ne, ne_eq, Int.not_lt, Int.not_le, ge_iff_le, gt_iff_lt, beq_eq_false_iff_ne, Nat.zero_add]; omega))
  · intro i hs hi hok o ho
    have hl := hb.1
    obtain ⟨o2, a1, a2⟩ := rcheck2 p hb i hi
    rcases a2 with ⟨a2, rfl⟩ | ⟨a2, _⟩
    rotate_left
    · exact absurd hok a2
    refine Rl.up (f := fun k n => Lshuntref13_Check_0 k n p i) ?_
    show Rl (fun k n => Lshuntref13_Check_0s k (Lshuntref13_Check_0 k n) _ _) _
    unfold Lshuntref13_Check_0s
    refine Rl.t (by first | omega | (simp only [decide_eq_true_eq, decide_eq_false_iff_not, Int.toNat_natCast, beq_iff_eq, bne_iff_ne, ne_eq, Int.not_lt, Int.not_le, ge_iff_le, gt_iff_lt, beq_eq_false_iff_ne, Nat.zero_add]; omega)) (Rl.bind a1.diag ?_)
    show Rl (fun k n => Lshuntref13_Check_0 k n p (IntKind.i64.wrap ((i : Int) + 1))) o
    rw [wrap_i64 (by omega)]
    exact ho
  · intro i hs hi hok
    obtain ⟨o2, a1, a2⟩ := rcheck2 p hb i hi
    rcases a2 with ⟨a2, _⟩ | ⟨a2, a, rfl, rfl⟩
    · exact absurd a2 hok
    refine ⟨130, rfl, Rl.up (f := fun k n => Lshuntref13_Check_0 k n p i) ?_⟩
    show Rl (fun k n => Lshuntref13_Check_0s k (Lshuntref13_Check_0 k n) _ _) _
    unfold Lshuntref13_Check_0s
    exact Rl.t (by first | omega | (simp only [decide_eq_true_eq, decide_eq_false_iff_not, Int.toNat_natCast, beq_iff_eq, bne_iff_ne, ne_eq, Int.not_lt, Int.not_le, ge_iff_le, gt_iff_lt, beq_eq_false_iff_ne, Nat.zero_add]; omega)) (Rl.bind a1.diag (Rl.pure _))
theorem rCheck_ev : Rn (fun k => Fshuntref13_Check k p) (if OkP p then 0 else 130) := by
  refine Rn.up (f := fun k => Fshuntref13_Check k p) ?_
  show Rn (fun k => bshuntref13_Check k p) _
  unfold bshuntref13_Check
  by_cases hl : 48 < p.length
  · rw [if_neg (fun h => by have := h.1; omega)]
    exact Rn.t (by first | omega | (simp only [decide_eq_true_eq, decide_eq_false_iff_not, Int.toNat_natCast, beq_iff_eq, bne_iff_ne, ne_eq, Int.not_lt, Int.not_le, ge_iff_le, gt_iff_lt, beq_eq_false_iff_ne, Nat.zero_add]; omega)) (Rn.pure _)
  refine Rn.f (by first | omega | (simp only [decide_eq_true_eq, decide_eq_false_iff_not, Int.toNat_natCast, beq_iff_eq, bne_iff_ne, ne_eq, Int.not_lt, Int.not_le, ge_iff_le, gt_iff_lt, beq_eq_false_iff_ne, Nat.zero_add]; omega)) ?_
  obtain ⟨o, a1, a2⟩ := rcheck0 p hb
  refine Rn.bind a1.diag ?_
  rcases a2 with ⟨a2, rfl⟩ | ⟨a2, a, rfl, rfl⟩
  · rw [if_pos ⟨by omega, a2⟩]
    exact Rn.pure _
  · rw [if_neg fun h => a2 h.2]
    exact Rn.pure _
end
/-- A right pattern as places. -/
def mp (p : List (List Int)) (i k : Nat) : Bool := (p.getD i []).contains (k : Int)
theorem okP_pat {p : List (List Int)} (h : OkP p) : p = pat p.length (mp p) := by
  apply List.ext_getElem?
  intro i
  by_cases hi : i < p.length
  · rw [pat_get _ _ hi, getD_some ([] : List Int) hi]
    have hg := getD_some (l := p) ([] : List Int) hi
    have hr := h.2 _ (List.mem_of_getElem? hg)
    exact congrArg some (inc_thin hr.1 hr.2)
  · rw [List.getElem?_eq_none (by omega), List.getElem?_eq_none (by rw [pat_len]; omega)]
theorem pat_ok {n : Nat} (m : Nat → Nat → Bool) (h : n ≤ 48) : OkP (pat n m) := by
  refine ⟨by rw [pat_len]; exact h, fun r hr => ?_⟩
  obtain ⟨i, _, rfl⟩ := List.mem_map.1 hr
  exact ⟨thin_inc _ _, fun x hx => by have := thin_mem.1 hx; rw [pat_len]; exact ⟨this.1, this.2.1⟩⟩
theorem pat_sm {n : Nat} (m : Nat → Nat → Bool) (h : n ≤ 48) : Sm (pat n m) := by
  refine ⟨by rw [pat_len]; omega, fun r hr => ?_⟩
  obtain ⟨i, _, rfl⟩ := List.mem_map.1 hr
  have := thin_le n (m i); omega
theorem contains_snoc (l : List Int) (x y : Int) : (l ++ [x]).contains y = (l.contains y || decide (y = x)) := by
  rw [Bool.eq_iff_iff, Bool.or_eq_true, List.contains_iff_mem, List.contains_iff_mem, List.mem_append, List.mem_singleton, decide_eq_true_eq]
theorem toNat_c (i : Nat) : Int.toNat (i : Int) = i := Int.toNat_natCast i
theorem contains_ev (s : List Int) (v : Int) (h : s.length ≤ 1000000000000000000) : Rn (fun k => Fslices_Contains_int_int_ k s v) (s.contains v) := by
  obtain ⟨o, a1, a2⟩ : ∃ o, Rl (fun k n => Lslices_Index_int_int__0 k n s v s.length (0 : Nat)) o ∧
      ((∀ j, 0 ≤ j → j < s.length → s.getD j 0 ≠ v) ∧ o = .inr () ∨ (¬ ∀ j, 0 ≤ j → j < s.length → s.getD j 0 ≠ v) ∧ ∃ a : Int, 0 ≤ a ∧ o = .inl a) := by
    refine scan s.length 0 (fun k n i => Lslices_Index_int_int__0 k n s v s.length i) () (fun a => 0 ≤ a) _ ?_ ?_ ?_ s.length 0 (by omega) (by omega)
    · refine Rl.up (f := fun k n => Lslices_Index_int_int__0 k n s v s.length s.length) (Rl.of 0 fun k n _ => ?_)
      show Lslices_Index_int_int__0s k (Lslices_Index_int_int__0 k n) _ _ _ _ = _
      unfold Lslices_Index_int_int__0s
      exact if_neg (by first | omega | (simp only [decide_eq_true_eq, decide_eq_false_iff_not, Int.toNat_natCast, beq_iff_eq, bne_iff_ne, ne_eq, Int.not_lt, Int.not_le, ge_iff_le, gt_iff_lt, beq_eq_false_iff_ne, Nat.zero_add]; omega))
    · intro i hs hi hok o ho
      refine Rl.up (f := fun k n => Lslices_Index_int_int__0 k n s v s.length i) ?_
      show Rl (fun k n => Lslices_Index_int_int__0s k (Lslices_Index_int_int__0 k n) _ _ _ _) _
      unfold Lslices_Index_int_int__0s
      refine Rl.t (by first | omega | (simp only [decide_eq_true_eq, decide_eq_false_iff_not, Int.toNat_natCast, beq_iff_eq, bne_iff_ne, ne_eq, Int.not_lt, Int.not_le, ge_iff_le, gt_iff_lt, beq_eq_false_iff_ne, Nat.zero_add]; omega)) (Rl.t (by first | omega | (simp only [decide_eq_true_eq, decide_eq_false_iff_not, Int.toNat_natCast, beq_iff_eq, bne_iff_ne, ne_eq, Int.not_lt, Int.not_le, ge_iff_le, gt_iff_lt, beq_eq_false_iff_ne, Nat.zero_add]; omega)) (Rl.at (by rw [toNat_c]; exact getD_some 0 hi) (Rl.f (by rw [beq_iff_eq]; exact fun h => hok h.symm) ?_)))
      rw [wrap_i64 (by omega)]
      exact ho
    · intro i hs hi hok
      refine ⟨(i : Int), by omega, Rl.up (f := fun k n => Lslices_Index_int_int__0 k n s v s.length i) ?_⟩
      show Rl (fun k n => Lslices_Index_int_int__0s k (Lslices_Index_int_int__0 k n) _ _ _ _) _
      unfold Lslices_Index_int_int__0s
      exact Rl.t (by first | omega | (simp only [decide_eq_true_eq, decide_eq_false_iff_not, Int.toNat_natCast, beq_iff_eq, bne_iff_ne, ne_eq, Int.not_lt, Int.not_le, ge_iff_le, gt_iff_lt, beq_eq_false_iff_ne, Nat.zero_add]; omega)) (Rl.t (by first | omega | (simp only [decide_eq_true_eq, decide_eq_false_iff_not, Int.toNat_natCast, beq_iff_eq, bne_iff_ne, ne_eq, Int.not_lt, Int.not_le, ge_iff_le, gt_iff_lt, beq_eq_false_iff_ne, Nat.zero_add]; omega)) (Rl.at (by rw [toNat_c]; exact getD_some 0 hi) (Rl.t (by rw [beq_iff_eq]; exact (Decidable.not_not.1 hok).symm) (Rl.pure _))))
  have hc : (∀ j, 0 ≤ j → j < s.length → s.getD j 0 ≠ v) ↔ s.contains v = false := by
    have := mem_getD (l := s) (P := fun x => x ≠ v)
    rw [← Bool.not_eq_true, List.contains_iff_mem]
    constructor
    · intro h hm; exact (this.2 fun j hj => h j (Nat.zero_le _) hj) v hm rfl
    · intro h j _ hj; exact this.1 (fun x hx e => h (e ▸ hx)) j hj
  refine Rn.up (f := fun k => Fslices_Contains_int_int_ k s v) ?_
  show Rn (fun k => bslices_Contains_int_int_ k s v) _
  unfold bslices_Contains_int_int_
  have ix : ∀ r, Rn (fun k => bslices_Index_int_int_ k s v) r → Rn (fun k => Fslices_Index_int_int_ k s v) r := fun r h => Rn.up (f := fun k => Fslices_Index_int_int_ k s v) h
  unfold bslices_Index_int_int_ at ix
  rcases a2 with ⟨a2, rfl⟩ | ⟨a2, a, h0, rfl⟩
  · refine Rn.bind (ix (-1) (Rn.bind a1.diag (Rn.pure _))) ?_
    rw [hc.1 a2]
    exact Rn.pure _
  · refine Rn.bind (ix a (Rn.bind a1.diag (Rn.pure _))) ?_
    rw [hc, Bool.not_eq_false] at a2
    rw [a2]
    exact Rn.const (by rw [decide_eq_true (by omega)])
theorem clone_ev (s : List Int) (h : s.length ≤ 1000000000) : Rn (fun k => Fslices_Clone_int_int_ k s) (s.length, s) := by
  refine Rn.up (f := fun k => Fslices_Clone_int_int_ k s) ?_
  show Rn (fun k => bslices_Clone_int_int_ k s) _
  unfold bslices_Clone_int_int_
  exact Rn.t (g := fun _ => none) (by omega) (Rn.pure _)
theorem sort_ev (s : List Int) (h : s.length ≤ 1000000000) (n : Nat) (hn : n = s.length) : Rn (fun k => Fslices_Sort_int_int__mfi k n s) (sortI s) := by
  subst hn
  refine Rn.up (f := fun k => Fslices_Sort_int_int__mfi k s.length s) ?_
  show Rn (fun k => bslices_Sort_int_int__mfi k s.length s) _
  unfold bslices_Sort_int_int__mfi
  refine Rn.t (g := fun _ => none) (by omega) (Rn.const ?_)
  simp
theorem take_get {α : Type} {l m : List α} {k : Nat} (h : l.drop k = m.drop k) {j : Nat} (hj : k ≤ j) : l[j]? = m[j]? := by
  have := congrArg (fun x : List α => x[j - k]?) h
  simp only [List.getElem?_drop] at this
  rwa [show k + (j - k) = j by omega] at this
theorem take_set_snoc {l : List Int} {k : Nat} {x : Int} (h : k < l.length) : (l.set k x).take (k + 1) = l.take k ++ [x] := by
  apply List.ext_getElem?
  intro i
  rw [List.getElem?_take, List.getElem?_append, List.length_take, List.getElem?_set, List.getElem?_take]
  by_cases h1 : i < k
  · rw [if_pos (by omega), if_neg (by omega), if_pos (by omega), if_pos h1]
  · by_cases h2 : i = k
    · subst h2; rw [if_pos (by omega), if_pos rfl, if_pos h, if_neg (by omega)]; simp [show min i l.length = i by omega]
    · rw [if_neg (by omega), if_neg (by omega), show min k l.length = k by omega, List.getElem?_eq_none (by simp; omega)]
theorem drop_set (l : List Int) (k : Nat) (x : Int) : (l.set k x).drop (k + 1) = l.drop (k + 1) := by
  rw [List.drop_set, if_pos (by omega)]
theorem drop_next {l m : List Int} {k : Nat} (h : l.drop k = m.drop k) : l.drop (k + 1) = m.drop (k + 1) := by
  rw [← List.drop_drop, ← List.drop_drop, h]
theorem last_take {l : List Int} {i : Nat} (h0 : 0 < i) (hi : i ≤ l.length) : (l.take i).getLast? = some (l.getD (i - 1) 0) := by
  rw [List.getLast?_eq_getElem?, List.length_take, List.getElem?_take, if_pos (by omega), show min i l.length - 1 = i - 1 by omega]
  exact getD_some 0 (by omega)
theorem take_snoc (l : List Int) {i : Nat} (hi : i < l.length) : l.take (i + 1) = l.take i ++ [l.getD i 0] := by
  rw [List.take_add_one, getD_some (0 : Int) hi]; rfl
theorem compact2 (ss : List Int) (a : Nat) (ha : 0 < a) (hl : ss.length ≤ 1000000000) (has : a < ss.length) (h0 : dd (ss.take (a + 1)) = ss.take a) :
    ∃ o : Nat × Int × List Int, (∃ kk : Nat, o.1 = ss.length ∧ o.2.1 = kk ∧ kk < ss.length ∧ a ≤ kk ∧ o.2.2.length = ss.length ∧ o.2.2.take kk = dd ss) ∧
      Rl (fun k n => Lslices_Compact_int_int__mfi_2 k n ss.length a a (ss.length - a) (1 : Nat) ss) o := by
  refine loopI (σ := Int × List Int) (ss.length - a) (fun k n i s => Lslices_Compact_int_int__mfi_2 k n ss.length s.1 a (ss.length - a) i s.2)
    (fun i s => ∃ kk : Nat, s.1 = kk ∧ a ≤ kk ∧ kk + 1 ≤ a + i ∧ s.2.length = ss.length ∧ s.2.take kk = dd (ss.take (a + i)) ∧ s.2.drop kk = ss.drop kk ∧ 1 ≤ i) _ ?_ ?_ (ss.length - a - 1) 1 ((a : Int), ss) (by omega) ⟨a, rfl, by omega, by omega, rfl, h0.symm, rfl, by omega⟩
  · rintro ⟨k1, l⟩ ⟨kk, rfl, h1, h2, h3, h4, h5, h6⟩
    refine ⟨(ss.length, (kk : Int), l), ⟨kk, rfl, rfl, by omega, h1, h3, ?_⟩, ?_⟩
    · rw [show a + (ss.length - a) = ss.length by omega, List.take_length] at h4; exact h4
    · refine Rl.up (f := fun k n => Lslices_Compact_int_int__mfi_2 k n ss.length kk a (ss.length - a) ((ss.length - a : Nat) : Int) l) (Rl.of 0 fun k n _ => ?_)
      show Lslices_Compact_int_int__mfi_2s k (Lslices_Compact_int_int__mfi_2 k n) _ _ _ _ _ _ = _
      unfold Lslices_Compact_int_int__mfi_2s
      exact if_neg (by first | omega | (simp only [decide_eq_true_eq, decide_eq_false_iff_not, Int.toNat_natCast, beq_iff_eq, bne_iff_ne, ne_eq, Int.not_lt, Int.not_le, ge_iff_le, gt_iff_lt, beq_eq_false_iff_ne, Nat.zero_add]; omega))
  · rintro i ⟨k1, l⟩ hi ⟨kk, rfl, h1, h2, h3, h4, h5, h6⟩
    right
    simp only at h3 h4 h5
    have e1 : (IntKind.i64.wrap ((i : Int) - 1)) = ((i - 1 : Nat) : Int) := by rw [wrap_i64 (by omega)]; omega
    have g1 : l[a + i]? = some (ss.getD (a + i) 0) := by rw [take_get h5 (by omega)]; exact getD_some 0 (by omega)
    have g2 : l[a + (i - 1)]? = some (ss.getD (a + i - 1) 0) := by rw [take_get h5 (by omega), show a + (i - 1) = a + i - 1 by omega]; exact getD_some 0 (by omega)
    have hlast := dd_last (ss.take (a + i))
    rw [last_take (by omega) (by omega)] at hlast
    have hsn : dd (ss.take (a + (i + 1))) = if (some (ss.getD (a + i - 1) 0)) = some (ss.getD (a + i) 0) then dd (ss.take (a + i)) else dd (ss.take (a + i)) ++ [ss.getD (a + i) 0] := by
      rw [show a + (i + 1) = a + i + 1 by omega, take_snoc ss (by omega), dd_snoc, hlast]
    have step : ∀ o s', (if (ss.getD (a + i) 0 != ss.getD (a + i - 1) 0) = true then s' = ((kk : Int) + 1, l.set kk (ss.getD (a + i) 0)) else s' = ((kk : Int), l)) → Rl (fun k n => Lslices_Compact_int_int__mfi_2 k n ss.length s'.1 a (ss.length - a) ((i + 1 : Nat) : Int) s'.2) o →
        Rl (fun k n => Lslices_Compact_int_int__mfi_2 k n ss.length kk a (ss.length - a) i l) o := by
      intro o s' hs' ho
      refine Rl.up (f := fun k n => Lslices_Compact_int_int__mfi_2 k n ss.length kk a (ss.length - a) i l) ?_
      show Rl (fun k n => Lslices_Compact_int_int__mfi_2s k (Lslices_Compact_int_int__mfi_2 k n) _ _ _ _ _ _) _
      unfold Lslices_Compact_int_int__mfi_2s
      rw [e1, toNat_c, toNat_c]
      refine Rl.t (by first | omega | (simp only [decide_eq_true_eq, decide_eq_false_iff_not, Int.toNat_natCast, beq_iff_eq, bne_iff_ne, ne_eq, Int.not_lt, Int.not_le, ge_iff_le, gt_iff_lt, beq_eq_false_iff_ne, Nat.zero_add]; omega)) (Rl.t (by first | omega | (simp only [decide_eq_true_eq, decide_eq_false_iff_not, Int.toNat_natCast, beq_iff_eq, bne_iff_ne, ne_eq, Int.not_lt, Int.not_le, ge_iff_le, gt_iff_lt, beq_eq_false_iff_ne, Nat.zero_add]; omega)) (Rl.at g1 (Rl.t (by first | omega | (simp only [decide_eq_true_eq, decide_eq_false_iff_not, Int.toNat_natCast, beq_iff_eq, bne_iff_ne, ne_eq, Int.not_lt, Int.not_le, ge_iff_le, gt_iff_lt, beq_eq_false_iff_ne, Nat.zero_add]; omega)) (Rl.at g2 ?_))))
      rw [wrap_i64 (x := (i : Int) + 1) (by omega)]
      split at hs'
      · rename_i hne
        subst hs'
        refine Rl.t hne (Rl.t (by first | omega | (simp only [decide_eq_true_eq, decide_eq_false_iff_not, Int.toNat_natCast, beq_iff_eq, bne_iff_ne, ne_eq, Int.not_lt, Int.not_le, ge_iff_le, gt_iff_lt, beq_eq_false_iff_ne, Nat.zero_add]; omega)) (Rl.at g1 (Rl.t (by first | omega | (simp only [decide_eq_true_eq, decide_eq_false_iff_not, Int.toNat_natCast, beq_iff_eq, bne_iff_ne, ne_eq, Int.not_lt, Int.not_le, ge_iff_le, gt_iff_lt, beq_eq_false_iff_ne, Nat.zero_add]; omega)) (Rl.at (getD_some (0 : Int) (by rw [Int.toNat_natCast]; omega)) ?_))))
        rw [wrap_i64 (x := (kk : Int) + 1) (by omega), Int.toNat_natCast, Nat.zero_add]
        exact ho
      · rename_i hne
        subst hs'
        exact Rl.f hne ho
    by_cases hne : (ss.getD (a + i) 0 != ss.getD (a + i - 1) 0) = true
    · refine ⟨((kk : Int) + 1, l.set kk (ss.getD (a + i) 0)), ⟨kk + 1, rfl, by omega, by omega, by rw [List.length_set]; exact h3, ?_, ?_, by omega⟩, fun o ho => step o _ (by rw [if_pos hne]) ho⟩
      · rw [bne_iff_ne, ne_eq] at hne
        rw [hsn, if_neg (fun h => hne (by injection h with h; exact h.symm)), ← h4]
        exact take_set_snoc (by omega)
      · exact (drop_set l kk _).trans (drop_next h5)
    · refine ⟨((kk : Int), l), ⟨kk, rfl, h1, by omega, h3, ?_, h5, by omega⟩, fun o ho => step o _ (by rw [if_neg hne]) ho⟩
      rw [Bool.not_eq_true, bne_eq_false_iff_eq] at hne
      rw [hsn, if_pos (by rw [hne])]
      exact h4
theorem compact_ev (ss : List Int) (hl : ss.length ≤ 1000000000) (n : Nat) (hn : n = ss.length) : ∃ m r, Rn (fun k => Fslices_Compact_int_int__mfi k n ss) (m, r) ∧ r.length = ss.length ∧ m ≤ ss.length ∧ r.take m = dd ss := by
  subst hn
  have up : ∀ r, Rn (fun k => bslices_Compact_int_int__mfi k ss.length ss) r → Rn (fun k => Fslices_Compact_int_int__mfi k ss.length ss) r := fun r h => Rn.up (f := fun k => Fslices_Compact_int_int__mfi k ss.length ss) h
  unfold bslices_Compact_int_int__mfi at up
  by_cases h2 : ss.length < 2
  · refine ⟨ss.length, ss, up _ (Rn.t (by first | omega | (simp only [decide_eq_true_eq, decide_eq_false_iff_not, Int.toNat_natCast, beq_iff_eq, bne_iff_ne, ne_eq, Int.not_lt, Int.not_le, ge_iff_le, gt_iff_lt, beq_eq_false_iff_ne, Nat.zero_add]; omega)) (Rn.pure _)), rfl, Nat.le_refl _, ?_⟩
    rw [List.take_length]
    match ss, h2 with
    | [], _ => rfl
    | [x], _ => rfl
  obtain ⟨o, h, a1⟩ : ∃ o : (Nat × List Int) ⊕ (Nat × List Int), (∃ m r, (o = .inl (m, r) ∨ o = .inr (m, r)) ∧ r.length = ss.length ∧ m ≤ ss.length ∧ r.take m = dd ss) ∧ Rl (fun k n => Lslices_Compact_int_int__mfi_0 k n ss.length (1 : Nat) ss) o := by
    refine loopI (σ := Unit) ss.length (fun k n i s => Lslices_Compact_int_int__mfi_0 k n ss.length i ss) (fun i _ => 1 ≤ i ∧ dd (ss.take i) = ss.take i) _ ?_ ?_ (ss.length - 1) 1 () (by omega) ⟨Nat.le_refl _, ?_⟩
    · rintro _ ⟨h1, h2⟩
      refine ⟨.inr (ss.length, ss), ⟨ss.length, ss, .inr rfl, rfl, Nat.le_refl _, ?_⟩, Rl.up (f := fun k n => Lslices_Compact_int_int__mfi_0 k n ss.length ss.length ss) (Rl.of 0 fun k n _ => ?_)⟩
      · rw [List.take_length] at h2 ⊢; exact h2.symm
      · show Lslices_Compact_int_int__mfi_0s k (Lslices_Compact_int_int__mfi_0 k n) _ _ _ = _
        unfold Lslices_Compact_int_int__mfi_0s
        exact if_neg (by first | omega | (simp only [decide_eq_true_eq, decide_eq_false_iff_not, Int.toNat_natCast, beq_iff_eq, bne_iff_ne, ne_eq, Int.not_lt, Int.not_le, ge_iff_le, gt_iff_lt, beq_eq_false_iff_ne, Nat.zero_add]; omega))
    · rintro i _ hi ⟨h1, h2⟩
      have e1 : (IntKind.i64.wrap ((i : Int) - 1)) = ((i - 1 : Nat) : Int) := by rw [wrap_i64 (by omega)]; omega
      have hlast := dd_last (ss.take i)
      rw [last_take (by omega) (by omega)] at hlast
      have hsn : dd (ss.take (i + 1)) = if (some (ss.getD (i - 1) 0)) = some (ss.getD i 0) then dd (ss.take i) else dd (ss.take i) ++ [ss.getD i 0] := by
        rw [take_snoc ss (by omega), dd_snoc, hlast]
      have g1 : ss[0 + i]? = some (ss.getD i 0) := by rw [Nat.zero_add]; exact getD_some 0 hi
      have g2 : ss[0 + (i - 1)]? = some (ss.getD (i - 1) 0) := by rw [Nat.zero_add]; exact getD_some 0 (by omega)
      have step : ∀ o, Rl (fun k n => Lslices_Compact_int_int__mfi_0s k (Lslices_Compact_int_int__mfi_0 k n) ss.length i ss) o → Rl (fun k n => Lslices_Compact_int_int__mfi_0 k n ss.length i ss) o :=
        fun o ho => Rl.up (f := fun k n => Lslices_Compact_int_int__mfi_0 k n ss.length i ss) ho
      unfold Lslices_Compact_int_int__mfi_0s at step
      rw [e1, toNat_c, toNat_c, toNat_c, wrap_i64 (x := (i : Int) + 1) (by omega)] at step
      by_cases he : (ss.getD i 0 == ss.getD (i - 1) 0) = true
      · left
        have he' : ss.getD i 0 = ss.getD (i - 1) 0 := by simpa using he
        obtain ⟨⟨q1, q2, q3⟩, ⟨kk, rfl, rfl, b3, b4, b5, b6⟩, a2⟩ := compact2 ss i (by omega) hl hi (by rw [hsn, if_pos (by rw [he']), h2])
        simp only at b5 b6
        refine ⟨.inl (kk, (q3.take kk ++ List.replicate (ss.length - kk) 0) ++ q3.drop (kk + (ss.length - kk))), ⟨kk, _, .inl rfl, by simp [b5]; omega, by omega, ?_⟩, step _ (Rl.t (by first | omega | (simp only [decide_eq_true_eq, decide_eq_false_iff_not, Int.toNat_natCast, beq_iff_eq, bne_iff_ne, ne_eq, Int.not_lt, Int.not_le, ge_iff_le, gt_iff_lt, beq_eq_false_iff_ne, Nat.zero_add]; omega)) (Rl.t (by first | omega | (simp only [decide_eq_true_eq, decide_eq_false_iff_not, Int.toNat_natCast, beq_iff_eq, bne_iff_ne, ne_eq, Int.not_lt, Int.not_le, ge_iff_le, gt_iff_lt, beq_eq_false_iff_ne, Nat.zero_add]; omega)) (Rl.at g1 (Rl.t (by first | omega | (simp only [decide_eq_true_eq, decide_eq_false_iff_not, Int.toNat_natCast, beq_iff_eq, bne_iff_ne, ne_eq, Int.not_lt, Int.not_le, ge_iff_le, gt_iff_lt, beq_eq_false_iff_ne, Nat.zero_add]; omega)) (Rl.at g2 (Rl.t he ?_))))))⟩
        · rw [List.append_assoc, List.take_append_of_le_length (by simp [b5]; omega), List.take_take, Nat.min_self]
          exact b6
        · refine Rl.t (g := fun _ _ => none) ⟨by omega, by omega, by omega, .inl (by omega)⟩ (Rl.bind (x := (ss.length, (kk : Int), q3)) ?_ ?_)
          · have := a2.diag
            rw [Nat.zero_add]
            exact this
          · simp only [toNat_c, Nat.zero_add]
            exact Rl.t (g := fun _ _ => none) ⟨by omega, by omega, by omega, .inl (by omega)⟩ (Rl.t (g := fun _ _ => none) (by omega) (Rl.t (g := fun _ _ => none) ⟨by omega, by omega, by simp [b5]; omega, .inr (by trivial)⟩ (Rl.pure _)))
      · right
        refine ⟨(), ⟨by omega, ?_⟩, fun o ho => step o (Rl.t (by first | omega | (simp only [decide_eq_true_eq, decide_eq_false_iff_not, Int.toNat_natCast, beq_iff_eq, bne_iff_ne, ne_eq, Int.not_lt, Int.not_le, ge_iff_le, gt_iff_lt, beq_eq_false_iff_ne, Nat.zero_add]; omega)) (Rl.t (by first | omega | (simp only [decide_eq_true_eq, decide_eq_false_iff_not, Int.toNat_natCast, beq_iff_eq, bne_iff_ne, ne_eq, Int.not_lt, Int.not_le, ge_iff_le, gt_iff_lt, beq_eq_false_iff_ne, Nat.zero_add]; omega)) (Rl.at g1 (Rl.t (by first | omega | (simp only [decide_eq_true_eq, decide_eq_false_iff_not, Int.toNat_natCast, beq_iff_eq, bne_iff_ne, ne_eq, Int.not_lt, Int.not_le, ge_iff_le, gt_iff_lt, beq_eq_false_iff_ne, Nat.zero_add]; omega)) (Rl.at g2 (Rl.f he ho))))))⟩
        rw [hsn, if_neg, h2, take_snoc ss hi]
        intro h
        injection h with h
        exact he (by rw [h]; simp)
    · match ss, h2 with
      | x :: y :: r, _ => rfl
      | [x], h2 => simp at h2
      | [], h2 => simp at h2
  obtain ⟨m, r, ho, h1, h3, h4⟩ := h
  refine ⟨m, r, up _ (Rn.f (by first | omega | (simp only [decide_eq_true_eq, decide_eq_false_iff_not, Int.toNat_natCast, beq_iff_eq, bne_iff_ne, ne_eq, Int.not_lt, Int.not_le, ge_iff_le, gt_iff_lt, beq_eq_false_iff_ne, Nat.zero_add]; omega)) (Rn.bind a1.diag ?_)), h1, h3, h4⟩
  rcases ho with rfl | rfl
  · exact Rn.pure _
  · exact Rn.pure _
theorem clos_ev (x c : Int) : Rn (fun k => Fsparse_eliminate_1 k x c) (x == c) := Rn.up (f := fun k => Fsparse_eliminate_1 k x c) (Rn.pure _)
theorem indexF_ev (ss : List Int) (s : Nat) (c : Int) (hs : s ≤ ss.length) (hl : ss.length ≤ 1000000000) :
    (∀ x ∈ ss.take s, x ≠ c) ∧ Rn (fun k => Fslices_IndexFunc_int_int__tfn k s c ss) (-1, ss) ∨
    ∃ i : Nat, i < s ∧ (∀ x ∈ ss.take i, x ≠ c) ∧ ss.getD i 0 = c ∧ Rn (fun k => Fslices_IndexFunc_int_int__tfn k s c ss) ((i : Int), ss) := by
  obtain ⟨o, h, a1⟩ : ∃ o : (Int × List Int) ⊕ (List Int), ((∀ x ∈ ss.take s, x ≠ c) ∧ o = .inr ss ∨ ∃ i : Nat, i < s ∧ (∀ x ∈ ss.take i, x ≠ c) ∧ ss.getD i 0 = c ∧ o = .inl ((i : Int), ss)) ∧ Rl (fun k n => Lslices_IndexFunc_int_int__tfn_0 k n s c s (0 : Nat) ss) o := by
    refine loopI (σ := Unit) s (fun k n i _ => Lslices_IndexFunc_int_int__tfn_0 k n s c s i ss) (fun i _ => ∀ x ∈ ss.take i, x ≠ c) _ ?_ ?_ s 0 () (by omega) (by simp)
    · rintro _ h
      refine ⟨.inr ss, .inl ⟨h, rfl⟩, Rl.up (f := fun k n => Lslices_IndexFunc_int_int__tfn_0 k n s c s s ss) (Rl.of 0 fun k n _ => ?_)⟩
      show Lslices_IndexFunc_int_int__tfn_0s k (Lslices_IndexFunc_int_int__tfn_0 k n) _ _ _ _ _ = _
      unfold Lslices_IndexFunc_int_int__tfn_0s
      exact if_neg (by first | omega | (simp only [decide_eq_true_eq, decide_eq_false_iff_not, Int.toNat_natCast, beq_iff_eq, bne_iff_ne, ne_eq, Int.not_lt, Int.not_le, ge_iff_le, gt_iff_lt, beq_eq_false_iff_ne, Nat.zero_add]; omega))
    · rintro i _ hi h
      have step : ∀ o, Rl (fun k n => Lslices_IndexFunc_int_int__tfn_0s k (Lslices_IndexFunc_int_int__tfn_0 k n) s c s i ss) o → Rl (fun k n => Lslices_IndexFunc_int_int__tfn_0 k n s c s i ss) o :=
        fun o ho => Rl.up (f := fun k n => Lslices_IndexFunc_int_int__tfn_0 k n s c s i ss) ho
      unfold Lslices_IndexFunc_int_int__tfn_0s at step
      rw [toNat_c, wrap_i64 (x := (i : Int) + 1) (by omega), Nat.zero_add] at step
      have g := getD_some (l := ss) (0 : Int) (show i < ss.length by omega)
      by_cases he : ss.getD i 0 = c
      · exact .inl ⟨.inl ((i : Int), ss), .inr ⟨i, hi, h, he, rfl⟩, step _ (Rl.t (by first | omega | (simp only [decide_eq_true_eq, decide_eq_false_iff_not, Int.toNat_natCast, beq_iff_eq, bne_iff_ne, ne_eq, Int.not_lt, Int.not_le, ge_iff_le, gt_iff_lt, beq_eq_false_iff_ne, Nat.zero_add]; omega)) (Rl.t (by first | omega | (simp only [decide_eq_true_eq, decide_eq_false_iff_not, Int.toNat_natCast, beq_iff_eq, bne_iff_ne, ne_eq, Int.not_lt, Int.not_le, ge_iff_le, gt_iff_lt, beq_eq_false_iff_ne, Nat.zero_add]; omega)) (Rl.at g (Rl.bind (clos_ev _ _) (Rl.t (by rw [beq_iff_eq]; exact he) (Rl.pure _))))))⟩
      · refine .inr ⟨(), ?_, fun o ho => step _ (Rl.t (by first | omega | (simp only [decide_eq_true_eq, decide_eq_false_iff_not, Int.toNat_natCast, beq_iff_eq, bne_iff_ne, ne_eq, Int.not_lt, Int.not_le, ge_iff_le, gt_iff_lt, beq_eq_false_iff_ne, Nat.zero_add]; omega)) (Rl.t (by first | omega | (simp only [decide_eq_true_eq, decide_eq_false_iff_not, Int.toNat_natCast, beq_iff_eq, bne_iff_ne, ne_eq, Int.not_lt, Int.not_le, ge_iff_le, gt_iff_lt, beq_eq_false_iff_ne, Nat.zero_add]; omega)) (Rl.at g (Rl.bind (clos_ev _ _) (Rl.f (by rw [beq_iff_eq]; exact he) ho)))))⟩
        rw [take_snoc ss (by omega)]
        intro x hx
        rcases List.mem_append.1 hx with hx | hx
        · exact h x hx
        · rw [List.mem_singleton] at hx; subst hx; exact he
  have up : ∀ r, Rn (fun k => bslices_IndexFunc_int_int__tfn k s c ss) r → Rn (fun k => Fslices_IndexFunc_int_int__tfn k s c ss) r := fun r h => Rn.up (f := fun k => Fslices_IndexFunc_int_int__tfn k s c ss) h
  unfold bslices_IndexFunc_int_int__tfn at up
  rcases h with ⟨h, rfl⟩ | ⟨i, h1, h2, h3, rfl⟩
  · exact .inl ⟨h, up _ (Rn.bind a1.diag (Rn.pure _))⟩
  · exact .inr ⟨i, h1, h2, h3, up _ (Rn.bind a1.diag (Rn.pure _))⟩
theorem filt_id {l : List Int} {c : Int} (h : ∀ x ∈ l, x ≠ c) : l.filter (fun x => x != c) = l := List.filter_eq_self.2 fun x hx => by rw [bne_iff_ne]; exact h x hx
theorem deleteF_ev (ss : List Int) (s : Nat) (c : Int) (hs : s ≤ ss.length) (hl : ss.length ≤ 1000000000) :
    ∃ m r, Rn (fun k => Fslices_DeleteFunc_int_int__tfn k s c ss) (m, r) ∧ r.length = ss.length ∧ m ≤ ss.length ∧ r.take m = (ss.take s).filter fun x => x != c := by
  have up : ∀ r, Rn (fun k => bslices_DeleteFunc_int_int__tfn k s c ss) r → Rn (fun k => Fslices_DeleteFunc_int_int__tfn k s c ss) r := fun r h => Rn.up (f := fun k => Fslices_DeleteFunc_int_int__tfn k s c ss) h
  unfold bslices_DeleteFunc_int_int__tfn at up
  rcases indexF_ev ss s c hs hl with ⟨h1, h2⟩ | ⟨i, h0, h1, h3, h2⟩
  · exact ⟨s, ss, up _ (Rn.bind h2 (Rn.t (by rfl) (Rn.pure _))), rfl, hs, (filt_id h1).symm⟩
  · obtain ⟨o, ⟨ii, q1, q2, q3, q4, q5⟩, a1⟩ : ∃ o : Nat × Int × List Int, (∃ ii : Nat, o.1 = s ∧ o.2.1 = ii ∧ ii < s ∧ o.2.2.length = ss.length ∧ o.2.2.take ii = (ss.take s).filter fun x => x != c) ∧
        Rl (fun k n => Lslices_DeleteFunc_int_int__tfn_0 k n s c i ((i + 1 : Nat) : Int) ss) o := by
      refine loopI (σ := Int × List Int) s (fun k n j t => Lslices_DeleteFunc_int_int__tfn_0 k n s c t.1 j t.2) (fun j t => ∃ ii : Nat, t.1 = ii ∧ ii < j ∧ t.2.length = ss.length ∧ t.2.take ii = ((ss.take j).filter fun x => x != c) ∧ t.2.drop ii = ss.drop ii) _ ?_ ?_ (s - (i + 1)) (i + 1) ((i : Int), ss) (by omega) ⟨i, rfl, by omega, rfl, ?_, rfl⟩
      · rintro ⟨i1, l⟩ ⟨ii, rfl, h1, h2, h3, h4⟩
        refine ⟨(s, (ii : Int), l), ⟨ii, rfl, rfl, h1, h2, h3⟩, Rl.up (f := fun k n => Lslices_DeleteFunc_int_int__tfn_0 k n s c ii s l) (Rl.of 0 fun k n _ => ?_)⟩
        show Lslices_DeleteFunc_int_int__tfn_0s k (Lslices_DeleteFunc_int_int__tfn_0 k n) _ _ _ _ _ = _
        unfold Lslices_DeleteFunc_int_int__tfn_0s
        exact if_neg (by first | omega | (simp only [decide_eq_true_eq, decide_eq_false_iff_not, Int.toNat_natCast, beq_iff_eq, bne_iff_ne, ne_eq, Int.not_lt, Int.not_le, ge_iff_le, gt_iff_lt, beq_eq_false_iff_ne, Nat.zero_add]; omega))
      · rintro j ⟨i1, l⟩ hj ⟨ii, rfl, h1, h2, h3, h4⟩
        right
        simp only at h2 h3 h4
        have step : ∀ o, Rl (fun k n => Lslices_DeleteFunc_int_int__tfn_0s k (Lslices_DeleteFunc_int_int__tfn_0 k n) s c ii j l) o → Rl (fun k n => Lslices_DeleteFunc_int_int__tfn_0 k n s c ii j l) o :=
          fun o ho => Rl.up (f := fun k n => Lslices_DeleteFunc_int_int__tfn_0 k n s c ii j l) ho
        unfold Lslices_DeleteFunc_int_int__tfn_0s at step
        rw [toNat_c, toNat_c, wrap_i64 (x := (j : Int) + 1) (by omega), wrap_i64 (x := (ii : Int) + 1) (by omega), Nat.zero_add, Nat.zero_add] at step
        have g : l[j]? = some (ss.getD j 0) := by rw [take_get h4 (by omega)]; exact getD_some 0 (by omega)
        have htk : (ss.take (j + 1)).filter (fun x => x != c) = ((ss.take j).filter fun x => x != c) ++ if ss.getD j 0 = c then [] else [ss.getD j 0] := by
          rw [take_snoc ss (by omega), List.filter_append]
          congr 1
          split
          · rename_i e; rw [e]; simp
          · rename_i e; rw [List.filter_cons, if_pos (by rw [bne_iff_ne]; exact e)]; rfl
        by_cases he : ss.getD j 0 = c
        · refine ⟨((ii : Int), l), ⟨ii, rfl, by omega, h2, ?_, h4⟩, fun o ho => step _ (Rl.t (by first | omega | (simp only [decide_eq_true_eq, decide_eq_false_iff_not, Int.toNat_natCast, beq_iff_eq, bne_iff_ne, ne_eq, Int.not_lt, Int.not_le, ge_iff_le, gt_iff_lt, beq_eq_false_iff_ne, Nat.zero_add]; omega)) (Rl.t (by first | omega | (simp only [decide_eq_true_eq, decide_eq_false_iff_not, Int.toNat_natCast, beq_iff_eq, bne_iff_ne, ne_eq, Int.not_lt, Int.not_le, ge_iff_le, gt_iff_lt, beq_eq_false_iff_ne, Nat.zero_add]; omega)) (Rl.at g (Rl.bind (clos_ev _ _) (Rl.f (by rw [he]; simp) ho)))))⟩
          rw [htk, if_pos he, List.append_nil]; exact h3
        · refine ⟨((ii : Int) + 1, l.set ii (ss.getD j 0)), ⟨ii + 1, rfl, by omega, by rw [List.length_set]; exact h2, ?_, (drop_set l ii _).trans (drop_next h4)⟩, fun o ho => step _ (Rl.t (by first | omega | (simp only [decide_eq_true_eq, decide_eq_false_iff_not, Int.toNat_natCast, beq_iff_eq, bne_iff_ne, ne_eq, Int.not_lt, Int.not_le, ge_iff_le, gt_iff_lt, beq_eq_false_iff_ne, Nat.zero_add]; omega)) (Rl.t (by first | omega | (simp only [decide_eq_true_eq, decide_eq_false_iff_not, Int.toNat_natCast, beq_iff_eq, bne_iff_ne, ne_eq, Int.not_lt, Int.not_le, ge_iff_le, gt_iff_lt, beq_eq_false_iff_ne, Nat.zero_add]; omega)) (Rl.at g (Rl.bind (clos_ev _ _) (Rl.t (by rw [beq_eq_false_iff_ne.2 he]; rfl) (Rl.t (by first | omega | (simp only [decide_eq_true_eq, decide_eq_false_iff_not, Int.toNat_natCast, beq_iff_eq, bne_iff_ne, ne_eq, Int.not_lt, Int.not_le, ge_iff_le, gt_iff_lt, beq_eq_false_iff_ne, Nat.zero_add]; omega)) (Rl.at (getD_some (0 : Int) (by omega)) ho)))))))⟩
          rw [htk, if_neg he, ← h3]
          exact take_set_snoc (by omega)
      · rw [take_snoc ss (by omega), List.filter_append, filt_id h1, h3]
        simp
    obtain ⟨o1, o2, l⟩ := o
    simp only at q1 q2 q4 q5
    have q1 := q1.symm
    subst q1 q2
    refine ⟨ii, (l.take ii ++ List.replicate (s - ii) 0) ++ l.drop (ii + (s - ii)), up _ (Rn.bind h2 (Rn.f (by rw [beq_iff_eq]; simp only; omega) (Rn.bind (x := (s, (ii : Int), l)) ?_ ?_))), by simp [q4]; omega, by omega, ?_⟩
    · simp only
      rw [wrap_i64 (by omega)]
      exact a1.diag
    · simp only [toNat_c, Nat.zero_add]
      exact Rn.t (g := fun _ => none) ⟨by omega, by omega, by omega, .inl (by omega)⟩ (Rn.t (g := fun _ => none) (by omega) (Rn.t (g := fun _ => none) ⟨by omega, by omega, by simp [q4]; omega, .inr (by trivial)⟩ (Rn.pure _)))
    · rw [List.append_assoc, List.take_append_of_le_length (by simp [q4]; omega), List.take_take, Nat.min_self]
      exact q5
theorem map_set {α : Type} (n : Nat) (f : Nat → α) (c : Nat) (b : α) : ((List.range n).map f).set c b = (List.range n).map fun k => if k = c then b else f k := by
  apply List.ext_getElem?
  intro i
  rw [List.getElem?_set]
  simp only [List.length_map, List.length_range, List.getElem?_map]
  by_cases hi : c = i
  · subst hi
    by_cases hc : c < n
    · simp [hc]
    · simp [hc]
  · rw [if_neg hi]
    by_cases hc : i < n
    · simp [hc, Ne.symm hi]
    · simp [hc]
/-- The rows that are done. -/
def outR (n : Nat) (m : Nat → Nat → Bool) (r c i : Nat) : List (List Int) := (List.range n).map fun a => if a < i then thin n (el m r c a) else []
theorem outR_next (n : Nat) (m : Nat → Nat → Bool) (r c i : Nat) : (outR n m r c i).set i (thin n (el m r c i)) = outR n m r c (i + 1) := by
  unfold outR
  rw [map_set]
  refine List.map_congr_left fun a _ => ?_
  by_cases h : a = i
  · subst h; rw [if_pos rfl, if_pos (by omega)]
  · rw [if_neg h]
    by_cases h2 : a < i
    · rw [if_pos h2, if_pos (by omega)]
    · rw [if_neg h2, if_neg (by omega)]
theorem el_row (n : Nat) (m : Nat → Nat → Bool) (r c : Nat) : thin n (el m r c r) = [] := by
  unfold thin el
  simp
theorem outR_len (n : Nat) (m : Nat → Nat → Bool) (r c i : Nat) : (outR n m r c i).length = n := by simp [outR]
theorem outR_get (n : Nat) (m : Nat → Nat → Bool) (r c i : Nat) (h : i < n) : (outR n m r c i)[i]? = some [] := by simp [outR, h]
abbrev ElT := List (List Int) × Int × Nat × Int × List (List Int) × Int × Int × Int × List (List Int)
section
variable {n r c : Nat} (m : Nat → Nat → Bool) (hn : n ≤ 48) (hr : r < n) (hc : c < n)
include hn hr hc
theorem thin_has (f : Nat → Bool) : (thin n f).contains (c : Int) = f c := by
  rw [Bool.eq_iff_iff, List.contains_iff_mem, thin_mem, toNat_c]
  exact ⟨fun h => h.2.2, fun h => ⟨by omega, by omega, h⟩⟩
theorem elim_step (i : Nat) (hi : i < n) (hd : ElT → ElT ⊕ ElT) (hh : hd = Sum.inl ∨ hd = Sum.inr) (F : Int) (hF : 0 ≤ F ∧ F ≤ 1000000) :
    ∃ hd' : ElT → ElT ⊕ ElT, (hd' = Sum.inl ∨ hd' = Sum.inr) ∧ ∀ o, Rl (fun k q => Lsparse_eliminate_0 k q (hd' (pat n m, (r : Int), n, F + rowF n m r c i, pat n m, (n : Int), ((i + 1 : Nat) : Int), (c : Int), outR n m r c (i + 1)))) o →
      Rl (fun k q => Lsparse_eliminate_0 k q (hd (pat n m, (r : Int), n, F, pat n m, (n : Int), (i : Int), (c : Int), outR n m r c i))) o := by
  have hrl := rowF_le n m r c i
  by_cases hir : i = r
  · subst hir
    refine ⟨hd, hh, fun o ho => ?_⟩
    have e0 : rowF n m i c i = 0 := by unfold rowF; rw [if_pos rfl]
    have e1 : outR n m i c (i + 1) = outR n m i c i := by
      rw [← outR_next, el_row]
      have := outR_get n m i c i hi
      obtain ⟨h1, h2⟩ := List.getElem?_eq_some_iff.1 this
      conv => lhs; arg 3; rw [← h2]
      rw [List.set_getElem_self]
    rw [e0, e1, Int.natCast_zero, Int.add_zero] at ho
    have hw := wrap_i64 (x := (i : Int) + 1) (by omega)
    refine Rl.up (f := fun k q => Lsparse_eliminate_0 k q (hd (pat n m, (i : Int), n, F, pat n m, (n : Int), (i : Int), (c : Int), outR n m i c i))) ?_
    show Rl (fun k q => Lsparse_eliminate_0s k (Lsparse_eliminate_0 k q) _) _
    unfold Lsparse_eliminate_0s
    rcases hh with rfl | rfl
    · simp only [eitherK]
      refine Rl.t (by first | omega | (simp only [decide_eq_true_eq, decide_eq_false_iff_not, Int.toNat_natCast, beq_iff_eq, bne_iff_ne, ne_eq, Int.not_lt, Int.not_le, ge_iff_le, gt_iff_lt, beq_eq_false_iff_ne, Nat.zero_add]; omega)) (Rl.t (by first | omega | (simp only [decide_eq_true_eq, decide_eq_false_iff_not, Int.toNat_natCast, beq_iff_eq, bne_iff_ne, ne_eq, Int.not_lt, Int.not_le, ge_iff_le, gt_iff_lt, beq_eq_false_iff_ne, Nat.zero_add]; omega)) (Rl.at (by rw [toNat_c]; exact pat_get n m hi) (Rl.t (by simp) ?_)))
      rw [hw]; exact ho
    · simp only [eitherK]
      refine Rl.t (by first | omega | (simp only [decide_eq_true_eq, decide_eq_false_iff_not, Int.toNat_natCast, beq_iff_eq, bne_iff_ne, ne_eq, Int.not_lt, Int.not_le, ge_iff_le, gt_iff_lt, beq_eq_false_iff_ne, Nat.zero_add]; omega)) (Rl.t (by first | omega | (simp only [decide_eq_true_eq, decide_eq_false_iff_not, Int.toNat_natCast, beq_iff_eq, bne_iff_ne, ne_eq, Int.not_lt, Int.not_le, ge_iff_le, gt_iff_lt, beq_eq_false_iff_ne, Nat.zero_add]; omega)) (Rl.at (by rw [toNat_c]; exact pat_get n m hi) (Rl.t (by simp) ?_)))
      rw [hw]; exact ho
  · refine ⟨Sum.inr, .inr rfl, fun o ho => ?_⟩
    have hw := wrap_i64 (x := (i : Int) + 1) (by omega)
    have hlen := thin_le n (m i)
    have hlenr := thin_le n (m r)
    have hin := contains_ev (thin n (m i)) (c : Int) (by omega)
    rw [thin_has hn hr hc] at hin
    have hcl := clone_ev (thin n (m i)) (by omega)
    have hne : ¬ ((i : Int) == (r : Int)) = true := by rw [beq_iff_eq]; omega
    have go : ∀ hd : ElT → ElT ⊕ ElT, hd = Sum.inl ∨ hd = Sum.inr → ∀ o, Rl (fun k q => Lsparse_eliminate_0s k (Lsparse_eliminate_0 k q) (hd (pat n m, (r : Int), n, F, pat n m, (n : Int), (i : Int), (c : Int), outR n m r c i))) o →
        Rl (fun k q => Lsparse_eliminate_0 k q (hd (pat n m, (r : Int), n, F, pat n m, (n : Int), (i : Int), (c : Int), outR n m r c i))) o :=
      fun hd _ o h => Rl.up (f := fun k q => Lsparse_eliminate_0 k q (hd (pat n m, (r : Int), n, F, pat n m, (n : Int), (i : Int), (c : Int), outR n m r c i))) h
    refine go hd hh o ?_
    unfold Lsparse_eliminate_0s
    by_cases hm : m i c = true
    · rw [hm] at hin
      obtain ⟨m1, l1, b1, b2, b3, b4⟩ := compact_ev (sortI (thin n (m i) ++ thin n (m r))) (by rw [sortI_len, List.length_append]; omega) ((thin n (m i)).length + (thin n (m r)).length) (by rw [sortI_len, List.length_append])
      rw [dd_two] at b4
      rw [sortI_len, List.length_append] at b2 b3
      obtain ⟨m2, l2, c1, c2, c3, c4⟩ := deleteF_ev l1 m1 (c : Int) (by omega) (by omega)
      rw [b4, thin_del] at c4
      have hm1 : m1 = (List.range n).countP (m i) + rowF n m r c i := by
        have := congrArg List.length b4
        rw [List.length_take, thin_len, countP_or] at this
        unfold rowF
        rw [if_neg hir]
        have e : (fun k => !m i k && (m i c && m r k)) = fun k => !m i k && m r k := by funext k; rw [hm, Bool.true_and]
        rw [e]
        omega
      have hel : thin n (fun k => (k != c) && (m i k || m r k)) = thin n (el m r c i) := thin_congr fun k _ => by
        unfold el
        have : (i != r) = true := by rw [bne_iff_ne]; exact hir
        rw [this, hm, Bool.true_and, Bool.true_and]
      rw [hel] at c4
      have hll := thin_len n (m i)
      have hfill : IntKind.i64.wrap (F + IntKind.i64.wrap ((m1 : Int) - ((thin n (m i)).length : Nat))) = F + rowF n m r c i := by
        rw [wrap_i64 (x := (m1 : Int) - _) (by omega), wrap_i64 (by omega)]
        omega
      have hso := sort_ev (thin n (m i) ++ thin n (m r)) (by rw [List.length_append]; omega) ((thin n (m i)).length + (thin n (m r)).length) (by rw [List.length_append])
      have ho' : Rl (fun k q => Lsparse_eliminate_0 k q (Sum.inr (pat n m, (r : Int), n, IntKind.i64.wrap (F + IntKind.i64.wrap ((m1 : Int) - ((thin n (m i)).length : Nat))), pat n m, (n : Int), IntKind.i64.wrap ((i : Int) + 1), (c : Int), tset (outR n m r c i) (Int.toNat (i : Int)) (l2.take m2)))) o := by
        rw [hfill, hw, c4, toNat_c, tset_eq (by rw [outR_len]; exact hi), outR_next]; exact ho
      rcases hh with rfl | rfl
      · simp only [eitherK]
        refine Rl.t (by first | omega | (simp only [decide_eq_true_eq, decide_eq_false_iff_not, Int.toNat_natCast, beq_iff_eq, bne_iff_ne, ne_eq, Int.not_lt, Int.not_le, ge_iff_le, gt_iff_lt, beq_eq_false_iff_ne, Nat.zero_add]; omega)) (Rl.t (by first | omega | (simp only [decide_eq_true_eq, decide_eq_false_iff_not, Int.toNat_natCast, beq_iff_eq, bne_iff_ne, ne_eq, Int.not_lt, Int.not_le, ge_iff_le, gt_iff_lt, beq_eq_false_iff_ne, Nat.zero_add]; omega)) (Rl.at (by rw [toNat_c]; exact pat_get n m hi) (Rl.f hne (Rl.bind hcl (Rl.bind hin (Rl.t rfl (Rl.t (by first | omega | (simp only [decide_eq_true_eq, decide_eq_false_iff_not, Int.toNat_natCast, beq_iff_eq, bne_iff_ne, ne_eq, Int.not_lt, Int.not_le, ge_iff_le, gt_iff_lt, beq_eq_false_iff_ne, Nat.zero_add]; omega)) (Rl.at (by rw [toNat_c]; exact pat_get n m hr) (Rl.t (g := fun _ _ => none) (by simp) (Rl.t (g := fun _ _ => none) (by simp only; omega) ?_))))))))))
        simp only [List.take_length]
        exact Rl.bind hso (Rl.bind b1 (Rl.bind c1 (Rl.t (g := fun _ _ => none) (by first | omega | (simp only [decide_eq_true_eq, decide_eq_false_iff_not, Int.toNat_natCast, beq_iff_eq, bne_iff_ne, ne_eq, Int.not_lt, Int.not_le, ge_iff_le, gt_iff_lt, beq_eq_false_iff_ne, Nat.zero_add]; omega)) (Rl.t (g := fun _ _ => none) (by rw [toNat_c, outR_len]; exact hi) (Rl.t (g := fun _ _ => none) (by simp only; omega) ho')))))
      · simp only [eitherK]
        refine Rl.t (by first | omega | (simp only [decide_eq_true_eq, decide_eq_false_iff_not, Int.toNat_natCast, beq_iff_eq, bne_iff_ne, ne_eq, Int.not_lt, Int.not_le, ge_iff_le, gt_iff_lt, beq_eq_false_iff_ne, Nat.zero_add]; omega)) (Rl.t (by first | omega | (simp only [decide_eq_true_eq, decide_eq_false_iff_not, Int.toNat_natCast, beq_iff_eq, bne_iff_ne, ne_eq, Int.not_lt, Int.not_le, ge_iff_le, gt_iff_lt, beq_eq_false_iff_ne, Nat.zero_add]; omega)) (Rl.at (by rw [toNat_c]; exact pat_get n m hi) (Rl.f hne (Rl.bind hcl (Rl.bind hin (Rl.t rfl (Rl.t (by first | omega | (simp only [decide_eq_true_eq, decide_eq_false_iff_not, Int.toNat_natCast, beq_iff_eq, bne_iff_ne, ne_eq, Int.not_lt, Int.not_le, ge_iff_le, gt_iff_lt, beq_eq_false_iff_ne, Nat.zero_add]; omega)) (Rl.at (by rw [toNat_c]; exact pat_get n m hr) (Rl.t (g := fun _ _ => none) (by simp) (Rl.t (g := fun _ _ => none) (by simp only; omega) ?_))))))))))
        simp only [List.take_length]
        exact Rl.bind hso (Rl.bind b1 (Rl.bind c1 (Rl.t (g := fun _ _ => none) (by first | omega | (simp only [decide_eq_true_eq, decide_eq_false_iff_not, Int.toNat_natCast, beq_iff_eq, bne_iff_ne, ne_eq, Int.not_lt, Int.not_le, ge_iff_le, gt_iff_lt, beq_eq_false_iff_ne, Nat.zero_add]; omega)) (Rl.t (g := fun _ _ => none) (by rw [toNat_c, outR_len]; exact hi) (Rl.t (g := fun _ _ => none) (by simp only; omega) ho')))))
    · have hm' : m i c = false := by simpa using hm
      rw [hm'] at hin
      obtain ⟨m2, l2, c1, c2, c3, c4⟩ := deleteF_ev (thin n (m i)) (thin n (m i)).length (c : Int) (by omega) (by omega)
      rw [List.take_length, thin_del] at c4
      have hel : thin n (fun k => (k != c) && m i k) = thin n (el m r c i) := thin_congr fun k _ => by
        unfold el
        have : (i != r) = true := by rw [bne_iff_ne]; exact hir
        rw [this, hm', Bool.true_and, Bool.false_and, Bool.or_false]
      rw [hel] at c4
      have hz : rowF n m r c i = 0 := by
        unfold rowF
        rw [if_neg hir, List.countP_eq_zero]
        intro k _
        rw [hm']; simp
      rw [hz, Int.natCast_zero, Int.add_zero] at ho
      have ho' : Rl (fun k q => Lsparse_eliminate_0 k q (Sum.inr (pat n m, (r : Int), n, F, pat n m, (n : Int), IntKind.i64.wrap ((i : Int) + 1), (c : Int), tset (outR n m r c i) (Int.toNat (i : Int)) (l2.take m2)))) o := by
        rw [hw, c4, toNat_c, tset_eq (by rw [outR_len]; exact hi), outR_next]; exact ho
      rcases hh with rfl | rfl
      · simp only [eitherK]
        exact Rl.t (by first | omega | (simp only [decide_eq_true_eq, decide_eq_false_iff_not, Int.toNat_natCast, beq_iff_eq, bne_iff_ne, ne_eq, Int.not_lt, Int.not_le, ge_iff_le, gt_iff_lt, beq_eq_false_iff_ne, Nat.zero_add]; omega)) (Rl.t (by first | omega | (simp only [decide_eq_true_eq, decide_eq_false_iff_not, Int.toNat_natCast, beq_iff_eq, bne_iff_ne, ne_eq, Int.not_lt, Int.not_le, ge_iff_le, gt_iff_lt, beq_eq_false_iff_ne, Nat.zero_add]; omega)) (Rl.at (by rw [toNat_c]; exact pat_get n m hi) (Rl.f hne (Rl.bind hcl (Rl.bind hin (Rl.f (by simp) (Rl.bind c1 (Rl.t (g := fun _ _ => none) (by first | omega | (simp only [decide_eq_true_eq, decide_eq_false_iff_not, Int.toNat_natCast, beq_iff_eq, bne_iff_ne, ne_eq, Int.not_lt, Int.not_le, ge_iff_le, gt_iff_lt, beq_eq_false_iff_ne, Nat.zero_add]; omega)) (Rl.t (g := fun _ _ => none) (by rw [toNat_c, outR_len]; exact hi) (Rl.t (g := fun _ _ => none) (by simp only; omega) ho'))))))))))
      · simp only [eitherK]
        exact Rl.t (by first | omega | (simp only [decide_eq_true_eq, decide_eq_false_iff_not, Int.toNat_natCast, beq_iff_eq, bne_iff_ne, ne_eq, Int.not_lt, Int.not_le, ge_iff_le, gt_iff_lt, beq_eq_false_iff_ne, Nat.zero_add]; omega)) (Rl.t (by first | omega | (simp only [decide_eq_true_eq, decide_eq_false_iff_not, Int.toNat_natCast, beq_iff_eq, bne_iff_ne, ne_eq, Int.not_lt, Int.not_le, ge_iff_le, gt_iff_lt, beq_eq_false_iff_ne, Nat.zero_add]; omega)) (Rl.at (by rw [toNat_c]; exact pat_get n m hi) (Rl.f hne (Rl.bind hcl (Rl.bind hin (Rl.f (by simp) (Rl.bind c1 (Rl.t (g := fun _ _ => none) (by first | omega | (simp only [decide_eq_true_eq, decide_eq_false_iff_not, Int.toNat_natCast, beq_iff_eq, bne_iff_ne, ne_eq, Int.not_lt, Int.not_le, ge_iff_le, gt_iff_lt, beq_eq_false_iff_ne, Nat.zero_add]; omega)) (Rl.t (g := fun _ _ => none) (by rw [toNat_c, outR_len]; exact hi) (Rl.t (g := fun _ _ => none) (by simp only; omega) ho'))))))))))
end
theorem set_self {α : Type} (l : List α) (i : Nat) (v : α) (h : i < l.length) : (l.set i v)[i]? = some v := by rw [List.getElem?_set_self h]
section
variable {n : Nat} (m : Nat → Nat → Bool) (hn : n ≤ 48)
include hn
theorem thin_bits (f : Nat → Bool) : ((List.range n).map fun k : Nat => (thin n f).contains (k : Int)) = (List.range n).map f := by
  refine List.map_congr_left fun k hk => ?_
  have := List.mem_range.1 hk
  exact thin_has hn this this f
theorem full2 (p : List (List Int)) (f : Nat → Bool) (i : Nat) (hp : p[i]? = some (thin n f)) (mm : Nat) (ms : List (List Bool)) :
    ∃ o, o = (p, mm, (i : Int), n, ms, (List.range n).map f) ∧ Rl (fun k q => Lshuntref13_Full_2 k q p mm i n ((0 : Nat) : Int) ms (List.replicate n false)) o := by
  have hlen := thin_le n f
  have hp' : p[Int.toNat (i : Int)]? = some (thin n f) := by rw [toNat_c]; exact hp
  have h0 : List.replicate n false = (List.range n).map fun k : Nat => ((thin n f).take 0).contains (k : Int) := by
    apply List.ext_getElem?
    intro i
    by_cases h : i < n <;> simp [h]
  rw [h0]
  refine loopI (σ := List Bool) (thin n f).length (fun k q j rs => Lshuntref13_Full_2 k q p mm i n j ms rs) (fun j rs => rs = (List.range n).map fun k : Nat => ((thin n f).take j).contains (k : Int)) _ ?_ ?_ (thin n f).length 0 _ (by omega) rfl
  · rintro rs rfl
    refine ⟨_, rfl, Rl.up (f := fun k q => Lshuntref13_Full_2 k q p mm i n ((thin n f).length : Nat) ms _) ?_⟩
    show Rl (fun k q => Lshuntref13_Full_2s k (Lshuntref13_Full_2 k q) _ _ _ _ _ _ _) _
    unfold Lshuntref13_Full_2s
    refine Rl.t (by first | omega | (simp only [decide_eq_true_eq, decide_eq_false_iff_not, Int.toNat_natCast, beq_iff_eq, bne_iff_ne, ne_eq, Int.not_lt, Int.not_le, ge_iff_le, gt_iff_lt, beq_eq_false_iff_ne, Nat.zero_add]; omega)) (Rl.at hp' (Rl.f (by first | omega | (simp only [decide_eq_true_eq, decide_eq_false_iff_not, Int.toNat_natCast, beq_iff_eq, bne_iff_ne, ne_eq, Int.not_lt, Int.not_le, ge_iff_le, gt_iff_lt, beq_eq_false_iff_ne, Nat.zero_add]; omega)) ?_))
    rw [List.take_length, thin_bits hn]
    exact Rl.pure _
  · rintro j rs hj rfl
    have g := getD_some (l := thin n f) (0 : Int) hj
    have hm := thin_mem.1 (List.mem_of_getElem? g)
    have e : ((List.range n).map fun k : Nat => ((thin n f).take j).contains (k : Int)).set ((thin n f).getD j 0).toNat true = (List.range n).map fun k : Nat => ((thin n f).take (j + 1)).contains (k : Int) := by
      rw [map_set]
      refine List.map_congr_left fun k hk => ?_
      rw [take_snoc _ hj, contains_snoc]
      by_cases h : k = ((thin n f).getD j 0).toNat
      · rw [if_pos h, decide_eq_true (by omega), Bool.or_true]
      · rw [if_neg h, decide_eq_false (by omega), Bool.or_false]
    refine .inr ⟨(List.range n).map fun k : Nat => ((thin n f).take (j + 1)).contains (k : Int), rfl, fun o ho => Rl.up (f := fun k q => Lshuntref13_Full_2 k q p mm i n j ms ((List.range n).map fun k : Nat => ((thin n f).take j).contains (k : Int))) ?_⟩
    show Rl (fun k q => Lshuntref13_Full_2s k (Lshuntref13_Full_2 k q) _ _ _ _ _ _ _) _
    unfold Lshuntref13_Full_2s
    rw [toNat_c, toNat_c, wrap_i64 (x := (j : Int) + 1) (by omega)]
    refine Rl.t (by first | omega | (simp only [decide_eq_true_eq, decide_eq_false_iff_not, Int.toNat_natCast, beq_iff_eq, bne_iff_ne, ne_eq, Int.not_lt, Int.not_le, ge_iff_le, gt_iff_lt, beq_eq_false_iff_ne, Nat.zero_add]; omega)) (Rl.at hp (Rl.t (by first | omega | (simp only [decide_eq_true_eq, decide_eq_false_iff_not, Int.toNat_natCast, beq_iff_eq, bne_iff_ne, ne_eq, Int.not_lt, Int.not_le, ge_iff_le, gt_iff_lt, beq_eq_false_iff_ne, Nat.zero_add]; omega)) (Rl.t (by first | omega | (simp only [decide_eq_true_eq, decide_eq_false_iff_not, Int.toNat_natCast, beq_iff_eq, bne_iff_ne, ne_eq, Int.not_lt, Int.not_le, ge_iff_le, gt_iff_lt, beq_eq_false_iff_ne, Nat.zero_add]; omega)) (Rl.at hp (Rl.t (by first | omega | (simp only [decide_eq_true_eq, decide_eq_false_iff_not, Int.toNat_natCast, beq_iff_eq, bne_iff_ne, ne_eq, Int.not_lt, Int.not_le, ge_iff_le, gt_iff_lt, beq_eq_false_iff_ne, Nat.zero_add]; omega)) (Rl.at g (Rl.t (g := fun _ _ => none) ⟨hm.1, hm.2.1⟩ (Rl.at (sqr_get n _ (by omega)) ?_))))))))
    rw [Nat.zero_add, e]
    exact ho
theorem full_ev : Rn (fun k => Fshuntref13_Full k (pat n m)) (sq n m) := by
  obtain ⟨o, ho, a1⟩ : ∃ o : Nat × List (List Bool), o = (n, sq n m) ∧ Rl (fun k q => Lshuntref13_Full_0 k q (pat n m) 0 ((0 : Nat) : Int) []) o := by
    refine loopI (σ := Nat × List (List Bool)) n (fun k q i s => Lshuntref13_Full_0 k q (pat n m) s.1 i s.2) (fun i s => s = (i, (List.range i).map fun a => (List.range n).map (m a))) _ ?_ ?_ n 0 (0, []) (by omega) rfl
    · rintro _ rfl
      refine ⟨_, rfl, Rl.up (f := fun k q => Lshuntref13_Full_0 k q (pat n m) n n (sq n m)) (Rl.of 0 fun k q _ => ?_)⟩
      show Lshuntref13_Full_0s k (Lshuntref13_Full_0 k q) _ _ _ _ = _
      unfold Lshuntref13_Full_0s
      rw [pat_len]
      exact if_neg (by first | omega | (simp only [decide_eq_true_eq, decide_eq_false_iff_not, Int.toNat_natCast, beq_iff_eq, bne_iff_ne, ne_eq, Int.not_lt, Int.not_le, ge_iff_le, gt_iff_lt, beq_eq_false_iff_ne, Nat.zero_add]; omega))
    · rintro i _ hi rfl
      simp only
      obtain ⟨o2, rfl, b1⟩ := full2 hn (pat n m) (m i) i (pat_get n m hi) i ((List.range i).map fun a => (List.range n).map (m a))
      refine .inr ⟨(i + 1, (List.range (i + 1)).map fun a => (List.range n).map (m a)), rfl, fun o ho => Rl.up (f := fun k q => Lshuntref13_Full_0 k q (pat n m) i i ((List.range i).map fun a => (List.range n).map (m a))) ?_⟩
      show Rl (fun k q => Lshuntref13_Full_0s k (Lshuntref13_Full_0 k q) _ _ _ _) _
      unfold Lshuntref13_Full_0s
      rw [pat_len, toNat_c]
      refine Rl.t (by first | omega | (simp only [decide_eq_true_eq, decide_eq_false_iff_not, Int.toNat_natCast, beq_iff_eq, bne_iff_ne, ne_eq, Int.not_lt, Int.not_le, ge_iff_le, gt_iff_lt, beq_eq_false_iff_ne, Nat.zero_add]; omega)) (Rl.t (g := fun _ _ => none) ⟨by omega, by omega, by omega⟩ (Rl.bind b1.diag ?_))
      simp only
      refine Rl.t (g := fun _ _ => none) (by simp) (Rl.t (g := fun _ _ => none) (by simp) (Rl.t (g := fun _ _ => none) (by simp; omega) ?_))
      rw [wrap_i64 (x := (i : Int) + 1) (by omega)]
      have e1 : List.take n ((List.range n).map (m i)) = (List.range n).map (m i) := by rw [List.take_of_length_le (by simp)]
      have e2 : List.take i ((List.range i).map fun a => (List.range n).map (m a)) = (List.range i).map fun a => (List.range n).map (m a) := by rw [List.take_of_length_le (by simp)]
      rw [e1, e2]
      have e3 : (List.range (i + 1)).map (fun a => (List.range n).map (m a)) = (List.range i).map (fun a => (List.range n).map (m a)) ++ List.take 1 [(List.range n).map (m i)] := by rw [List.range_succ, List.map_append]; rfl
      rw [e3] at ho
      exact ho
  subst ho
  refine Rn.up (f := fun k => Fshuntref13_Full k (pat n m)) ?_
  show Rn (fun k => bshuntref13_Full k (pat n m)) _
  unfold bshuntref13_Full
  refine Rn.bind a1.diag (Rn.t (g := fun _ => none) (by simp only; rw [sq_len]; omega) (Rn.const ?_))
  simp only
  rw [List.take_of_length_le (by rw [sq_len]; omega)]
/-- Is the place in? -/
def inB (n : Nat) (m : Nat → Nat → Bool) (row col : Int) : Bool := decide (0 ≤ row ∧ row < n ∧ 0 ≤ col ∧ col < n) && m row.toNat col.toNat
theorem in_ev (row col : Int) : Rn (fun k => Fsparse_in k (pat n m) row col) (inB n m row col) := by
  refine Rn.up (f := fun k => Fsparse_in k (pat n m) row col) ?_
  show Rn (fun k => bsparse_in k (pat n m) row col) _
  unfold bsparse_in
  rw [pat_len]
  by_cases h1 : 0 ≤ row
  rotate_left
  · rw [show inB n m row col = false by unfold inB; rw [decide_eq_false (by omega)]; rfl]
    exact Rn.f (by first | omega | (simp only [decide_eq_true_eq, decide_eq_false_iff_not, Int.toNat_natCast, beq_iff_eq, bne_iff_ne, ne_eq, Int.not_lt, Int.not_le, ge_iff_le, gt_iff_lt, beq_eq_false_iff_ne, Nat.zero_add]; omega)) (Rn.pure _)
  refine Rn.t (by first | omega | (simp only [decide_eq_true_eq, decide_eq_false_iff_not, Int.toNat_natCast, beq_iff_eq, bne_iff_ne, ne_eq, Int.not_lt, Int.not_le, ge_iff_le, gt_iff_lt, beq_eq_false_iff_ne, Nat.zero_add]; omega)) ?_
  by_cases h2 : row < n
  rotate_left
  · rw [show inB n m row col = false by unfold inB; rw [decide_eq_false (by omega)]; rfl]
    exact Rn.f (by first | omega | (simp only [decide_eq_true_eq, decide_eq_false_iff_not, Int.toNat_natCast, beq_iff_eq, bne_iff_ne, ne_eq, Int.not_lt, Int.not_le, ge_iff_le, gt_iff_lt, beq_eq_false_iff_ne, Nat.zero_add]; omega)) (Rn.pure _)
  have hl := thin_le n (m row.toNat)
  have hc := contains_ev (thin n (m row.toNat)) col (by omega)
  have e : (thin n (m row.toNat)).contains col = inB n m row col := by
    unfold inB
    rw [Bool.eq_iff_iff, List.contains_iff_mem, thin_mem, Bool.and_eq_true, decide_eq_true_eq]
    constructor
    · rintro ⟨a, b, c⟩; exact ⟨⟨h1, h2, a, b⟩, c⟩
    · rintro ⟨⟨_, _, a, b⟩, c⟩; exact ⟨a, b, c⟩
  rw [e] at hc
  exact Rn.t (by first | omega | (simp only [decide_eq_true_eq, decide_eq_false_iff_not, Int.toNat_natCast, beq_iff_eq, bne_iff_ne, ne_eq, Int.not_lt, Int.not_le, ge_iff_le, gt_iff_lt, beq_eq_false_iff_ne, Nat.zero_add]; omega)) (Rn.t (by first | omega | (simp only [decide_eq_true_eq, decide_eq_false_iff_not, Int.toNat_natCast, beq_iff_eq, bne_iff_ne, ne_eq, Int.not_lt, Int.not_le, ge_iff_le, gt_iff_lt, beq_eq_false_iff_ne, Nat.zero_add]; omega)) (Rn.at (pat_get n m (by omega)) (Rn.bind hc (Rn.pure _))))
theorem has_ev (row col : Int) : Rn (fun k => Fshuntref13_has k (sq n m) row col) (inB n m row col) := by
  refine Rn.up (f := fun k => Fshuntref13_has k (sq n m) row col) ?_
  show Rn (fun k => bshuntref13_has k (sq n m) row col) _
  unfold bshuntref13_has
  rw [sq_len]
  by_cases h1 : 0 ≤ row
  rotate_left
  · rw [show inB n m row col = false by unfold inB; rw [decide_eq_false (by omega)]; rfl]
    exact Rn.f (by first | omega | (simp only [decide_eq_true_eq, decide_eq_false_iff_not, Int.toNat_natCast, beq_iff_eq, bne_iff_ne, ne_eq, Int.not_lt, Int.not_le, ge_iff_le, gt_iff_lt, beq_eq_false_iff_ne, Nat.zero_add]; omega)) (Rn.pure _)
  refine Rn.t (by first | omega | (simp only [decide_eq_true_eq, decide_eq_false_iff_not, Int.toNat_natCast, beq_iff_eq, bne_iff_ne, ne_eq, Int.not_lt, Int.not_le, ge_iff_le, gt_iff_lt, beq_eq_false_iff_ne, Nat.zero_add]; omega)) ?_
  by_cases h2 : row < n
  rotate_left
  · rw [show inB n m row col = false by unfold inB; rw [decide_eq_false (by omega)]; rfl]
    exact Rn.f (by first | omega | (simp only [decide_eq_true_eq, decide_eq_false_iff_not, Int.toNat_natCast, beq_iff_eq, bne_iff_ne, ne_eq, Int.not_lt, Int.not_le, ge_iff_le, gt_iff_lt, beq_eq_false_iff_ne, Nat.zero_add]; omega)) (Rn.pure _)
  refine Rn.t (by first | omega | (simp only [decide_eq_true_eq, decide_eq_false_iff_not, Int.toNat_natCast, beq_iff_eq, bne_iff_ne, ne_eq, Int.not_lt, Int.not_le, ge_iff_le, gt_iff_lt, beq_eq_false_iff_ne, Nat.zero_add]; omega)) ?_
  by_cases h3 : 0 ≤ col
  rotate_left
  · rw [show inB n m row col = false by unfold inB; rw [decide_eq_false (by omega)]; rfl]
    exact Rn.f (by first | omega | (simp only [decide_eq_true_eq, decide_eq_false_iff_not, Int.toNat_natCast, beq_iff_eq, bne_iff_ne, ne_eq, Int.not_lt, Int.not_le, ge_iff_le, gt_iff_lt, beq_eq_false_iff_ne, Nat.zero_add]; omega)) (Rn.pure _)
  refine Rn.t (by first | omega | (simp only [decide_eq_true_eq, decide_eq_false_iff_not, Int.toNat_natCast, beq_iff_eq, bne_iff_ne, ne_eq, Int.not_lt, Int.not_le, ge_iff_le, gt_iff_lt, beq_eq_false_iff_ne, Nat.zero_add]; omega)) ?_
  by_cases h4 : col < n
  rotate_left
  · rw [show inB n m row col = false by unfold inB; rw [decide_eq_false (by omega)]; rfl]
    exact Rn.f (by first | omega | (simp only [decide_eq_true_eq, decide_eq_false_iff_not, Int.toNat_natCast, beq_iff_eq, bne_iff_ne, ne_eq, Int.not_lt, Int.not_le, ge_iff_le, gt_iff_lt, beq_eq_false_iff_ne, Nat.zero_add]; omega)) (Rn.pure _)
  refine Rn.t (by first | omega | (simp only [decide_eq_true_eq, decide_eq_false_iff_not, Int.toNat_natCast, beq_iff_eq, bne_iff_ne, ne_eq, Int.not_lt, Int.not_le, ge_iff_le, gt_iff_lt, beq_eq_false_iff_ne, Nat.zero_add]; omega)) (Rn.t (by first | omega | (simp only [decide_eq_true_eq, decide_eq_false_iff_not, Int.toNat_natCast, beq_iff_eq, bne_iff_ne, ne_eq, Int.not_lt, Int.not_le, ge_iff_le, gt_iff_lt, beq_eq_false_iff_ne, Nat.zero_add]; omega)) (Rn.at (sq_get n m (by omega)) (Rn.t (by first | omega | (simp only [decide_eq_true_eq, decide_eq_false_iff_not, Int.toNat_natCast, beq_iff_eq, bne_iff_ne, ne_eq, Int.not_lt, Int.not_le, ge_iff_le, gt_iff_lt, beq_eq_false_iff_ne, Nat.zero_add]; omega)) (Rn.at (sqr_get n _ (by omega)) (Rn.const ?_)))))
  unfold inB
  rw [decide_eq_true ⟨h1, h2, h3, h4⟩, Bool.true_and]
variable {r c : Nat} (hr : r < n) (hc : c < n)
include hr hc
/-- What a row holds in its first places. -/
def rsR (n : Nat) (m : Nat → Nat → Bool) (r c i j : Nat) : List Bool := (List.range n).map fun k => if k < j then (m i k || m i c && m r k) else false
theorem rsR_next (i j : Nat) : (rsR n m r c i j).set j (m i j || m i c && m r j) = rsR n m r c i (j + 1) := by
  unfold rsR
  rw [map_set]
  refine List.map_congr_left fun k _ => ?_
  by_cases h : k = j
  · subst h; rw [if_pos rfl, if_pos (by omega)]
  · rw [if_neg h]
    by_cases h2 : k < j
    · rw [if_pos h2, if_pos (by omega)]
    · rw [if_neg h2, if_neg (by omega)]
def cntR (m : Nat → Nat → Bool) (r c i j : Nat) : Nat := (List.range j).countP fun k => !m i k && (m i c && m r k)
theorem cntR_next (i j : Nat) : cntR m r c i (j + 1) = cntR m r c i j + if (!m i j && (m i c && m r j)) = true then 1 else 0 := by
  unfold cntR
  rw [List.range_succ, List.countP_append, List.countP_singleton]
theorem cntR_le (i j : Nat) : cntR m r c i j ≤ j := by
  have := List.countP_le_length (p := fun k => !m i k && (m i c && m r k)) (l := List.range j)
  unfold cntR
  simpa using this
theorem rest2 (i : Nat) (hi : i < n) (hir : i ≠ r) (F : Int) (hF : 0 ≤ F ∧ F ≤ 1000000) (o1 : Nat) (outs : List (List Bool)) :
    ∃ o, o = (sq n m, (r : Int), (c : Int), o1, F + cntR m r c i n, (i : Int), n, outs, rsR n m r c i n) ∧ Rl (fun k q => Lshuntref13_Rest_2 k q (sq n m) r c o1 F i n ((0 : Nat) : Int) outs (rsR n m r c i 0)) o := by
  refine loopI (σ := Int × List Bool) n (fun k q j s => Lshuntref13_Rest_2 k q (sq n m) r c o1 s.1 i n j outs s.2) (fun j s => s = (F + cntR m r c i j, rsR n m r c i j)) _ ?_ ?_ n 0 (F, rsR n m r c i 0) (by omega) (by simp [cntR])
  · rintro _ rfl
    refine ⟨_, rfl, Rl.up (f := fun k q => Lshuntref13_Rest_2 k q (sq n m) r c o1 (F + cntR m r c i n) i n n outs (rsR n m r c i n)) (Rl.of 0 fun k q _ => ?_)⟩
    show Lshuntref13_Rest_2s k (Lshuntref13_Rest_2 k q) _ _ _ _ _ _ _ _ _ _ = _
    unfold Lshuntref13_Rest_2s
    rw [sq_len]
    exact if_neg (by first | omega | (simp only [decide_eq_true_eq, decide_eq_false_iff_not, Int.toNat_natCast, beq_iff_eq, bne_iff_ne, ne_eq, Int.not_lt, Int.not_le, ge_iff_le, gt_iff_lt, beq_eq_false_iff_ne, Nat.zero_add]; omega))
  · rintro j _ hj rfl
    simp only
    have hcl := cntR_le m hn hr hc i j
    refine .inr ⟨_, rfl, fun o ho => Rl.up (f := fun k q => Lshuntref13_Rest_2 k q (sq n m) r c o1 (F + cntR m r c i j) i n j outs (rsR n m r c i j)) ?_⟩
    simp only at ho
    rw [← rsR_next m hn hr hc, cntR_next m hn hr hc] at ho
    have hlen : (rsR n m r c i j).length = n := by simp [rsR]
    have g : (rsR n m r c i j)[0 + Int.toNat (j : Int)]? = some false := by rw [toNat_c, Nat.zero_add]; simp [rsR, hj]
    have gs : ∀ v, ((rsR n m r c i j).set (0 + Int.toNat (j : Int)) v)[0 + Int.toNat (j : Int)]? = some v := fun v => set_self _ _ _ (by rw [toNat_c]; omega)
    have gm : ∀ a, a < n → (sq n m)[Int.toNat (a : Int)]? = some ((List.range n).map (m a)) := fun a ha => by rw [toNat_c]; exact sq_get n m ha
    have gr : ∀ a b, b < n → ((List.range n).map (m a))[Int.toNat (b : Int)]? = some (m a b) := fun a b hb => by rw [toNat_c]; exact sqr_get n _ hb
    have hw := wrap_i64 (x := (j : Int) + 1) (by omega)
    have hw2 := wrap_i64 (x := F + cntR m r c i j + 1) (by omega)
    have hne : ((i : Int) != (r : Int)) = true := by rw [bne_iff_ne]; omega
    have ht : ∀ v, (rsR n m r c i j).set (0 + Int.toNat (j : Int)) v = (rsR n m r c i j).set j v := fun v => by rw [toNat_c, Nat.zero_add]
    show Rl (fun k q => Lshuntref13_Rest_2s k (Lshuntref13_Rest_2 k q) _ _ _ _ _ _ _ _ _ _) _
    unfold Lshuntref13_Rest_2s
    rw [sq_len]
    refine Rl.t (by first | omega | (simp only [decide_eq_true_eq, decide_eq_false_iff_not, Int.toNat_natCast, beq_iff_eq, bne_iff_ne, ne_eq, Int.not_lt, Int.not_le, ge_iff_le, gt_iff_lt, beq_eq_false_iff_ne, Nat.zero_add]; omega)) (Rl.t hne (Rl.t (by first | omega | (simp only [decide_eq_true_eq, decide_eq_false_iff_not, Int.toNat_natCast, beq_iff_eq, bne_iff_ne, ne_eq, Int.not_lt, Int.not_le, ge_iff_le, gt_iff_lt, beq_eq_false_iff_ne, Nat.zero_add]; omega)) (Rl.at (gm i hi) (Rl.t (by first | omega | (simp only [decide_eq_true_eq, decide_eq_false_iff_not, Int.toNat_natCast, beq_iff_eq, bne_iff_ne, ne_eq, Int.not_lt, Int.not_le, ge_iff_le, gt_iff_lt, beq_eq_false_iff_ne, Nat.zero_add]; omega)) (Rl.at (gr i j hj) ?_)))))
    by_cases h1 : m i j = true
    · rw [h1] at ho ⊢
      refine Rl.f (by simp) (Rl.t (by first | omega | (simp only [decide_eq_true_eq, decide_eq_false_iff_not, Int.toNat_natCast, beq_iff_eq, bne_iff_ne, ne_eq, Int.not_lt, Int.not_le, ge_iff_le, gt_iff_lt, beq_eq_false_iff_ne, Nat.zero_add]; omega)) (Rl.at g (Rl.t (by first | omega | (simp only [decide_eq_true_eq, decide_eq_false_iff_not, Int.toNat_natCast, beq_iff_eq, bne_iff_ne, ne_eq, Int.not_lt, Int.not_le, ge_iff_le, gt_iff_lt, beq_eq_false_iff_ne, Nat.zero_add]; omega)) (Rl.at (gs true) (Rl.t rfl (Rl.t (by first | omega | (simp only [decide_eq_true_eq, decide_eq_false_iff_not, Int.toNat_natCast, beq_iff_eq, bne_iff_ne, ne_eq, Int.not_lt, Int.not_le, ge_iff_le, gt_iff_lt, beq_eq_false_iff_ne, Nat.zero_add]; omega)) (Rl.at (gm i hi) (Rl.t (by first | omega | (simp only [decide_eq_true_eq, decide_eq_false_iff_not, Int.toNat_natCast, beq_iff_eq, bne_iff_ne, ne_eq, Int.not_lt, Int.not_le, ge_iff_le, gt_iff_lt, beq_eq_false_iff_ne, Nat.zero_add]; omega)) (Rl.at (gr i j hj) (Rl.f (by rw [h1]; simp) ?_))))))))))
      rw [hw, ht]
      simpa using ho
    · have h1' : m i j = false := by simpa using h1
      rw [h1'] at ho ⊢
      refine Rl.t rfl (Rl.t (by first | omega | (simp only [decide_eq_true_eq, decide_eq_false_iff_not, Int.toNat_natCast, beq_iff_eq, bne_iff_ne, ne_eq, Int.not_lt, Int.not_le, ge_iff_le, gt_iff_lt, beq_eq_false_iff_ne, Nat.zero_add]; omega)) (Rl.at (gm i hi) (Rl.t (by first | omega | (simp only [decide_eq_true_eq, decide_eq_false_iff_not, Int.toNat_natCast, beq_iff_eq, bne_iff_ne, ne_eq, Int.not_lt, Int.not_le, ge_iff_le, gt_iff_lt, beq_eq_false_iff_ne, Nat.zero_add]; omega)) (Rl.at (gr i c hc) ?_))))
      by_cases h2 : m i c = true
      · rw [h2] at ho ⊢
        refine Rl.t rfl (Rl.t (by first | omega | (simp only [decide_eq_true_eq, decide_eq_false_iff_not, Int.toNat_natCast, beq_iff_eq, bne_iff_ne, ne_eq, Int.not_lt, Int.not_le, ge_iff_le, gt_iff_lt, beq_eq_false_iff_ne, Nat.zero_add]; omega)) (Rl.at (gm r hr) (Rl.t (by first | omega | (simp only [decide_eq_true_eq, decide_eq_false_iff_not, Int.toNat_natCast, beq_iff_eq, bne_iff_ne, ne_eq, Int.not_lt, Int.not_le, ge_iff_le, gt_iff_lt, beq_eq_false_iff_ne, Nat.zero_add]; omega)) (Rl.at (gr r j hj) (Rl.t (by first | omega | (simp only [decide_eq_true_eq, decide_eq_false_iff_not, Int.toNat_natCast, beq_iff_eq, bne_iff_ne, ne_eq, Int.not_lt, Int.not_le, ge_iff_le, gt_iff_lt, beq_eq_false_iff_ne, Nat.zero_add]; omega)) (Rl.at g (Rl.t (by first | omega | (simp only [decide_eq_true_eq, decide_eq_false_iff_not, Int.toNat_natCast, beq_iff_eq, bne_iff_ne, ne_eq, Int.not_lt, Int.not_le, ge_iff_le, gt_iff_lt, beq_eq_false_iff_ne, Nat.zero_add]; omega)) (Rl.at (gs (m r j)) ?_))))))))
        by_cases h3 : m r j = true
        · rw [h3] at ho ⊢
          refine Rl.t rfl (Rl.t (by first | omega | (simp only [decide_eq_true_eq, decide_eq_false_iff_not, Int.toNat_natCast, beq_iff_eq, bne_iff_ne, ne_eq, Int.not_lt, Int.not_le, ge_iff_le, gt_iff_lt, beq_eq_false_iff_ne, Nat.zero_add]; omega)) (Rl.at (gm i hi) (Rl.t (by first | omega | (simp only [decide_eq_true_eq, decide_eq_false_iff_not, Int.toNat_natCast, beq_iff_eq, bne_iff_ne, ne_eq, Int.not_lt, Int.not_le, ge_iff_le, gt_iff_lt, beq_eq_false_iff_ne, Nat.zero_add]; omega)) (Rl.at (gr i j hj) (Rl.t (by rw [h1']; rfl) ?_)))))
          rw [hw, hw2, ht]
          simp only [Bool.not_false, Bool.and_self, if_true, Bool.or_true] at ho
          rw [show F + (cntR m r c i j : Int) + 1 = F + ((cntR m r c i j + 1 : Nat) : Int) by omega]
          exact ho
        · have h3' : m r j = false := by simpa using h3
          rw [h3'] at ho ⊢
          refine Rl.f (by simp) ?_
          rw [hw, ht]
          simpa using ho
      · have h2' : m i c = false := by simpa using h2
        rw [h2'] at ho ⊢
        refine Rl.f (by simp) (Rl.t (by first | omega | (simp only [decide_eq_true_eq, decide_eq_false_iff_not, Int.toNat_natCast, beq_iff_eq, bne_iff_ne, ne_eq, Int.not_lt, Int.not_le, ge_iff_le, gt_iff_lt, beq_eq_false_iff_ne, Nat.zero_add]; omega)) (Rl.at g (Rl.t (by first | omega | (simp only [decide_eq_true_eq, decide_eq_false_iff_not, Int.toNat_natCast, beq_iff_eq, bne_iff_ne, ne_eq, Int.not_lt, Int.not_le, ge_iff_le, gt_iff_lt, beq_eq_false_iff_ne, Nat.zero_add]; omega)) (Rl.at (gs false) (Rl.f (by simp) ?_)))))
        rw [hw, ht]
        simpa using ho
theorem rest2r (F : Int) (o1 : Nat) (outs : List (List Bool)) (rs : List Bool) :
    Rl (fun k q => Lshuntref13_Rest_2 k q (sq n m) r c o1 F r n ((0 : Nat) : Int) outs rs) (sq n m, (r : Int), (c : Int), o1, F, (r : Int), n, outs, rs) := by
  refine Rl.up (f := fun k q => Lshuntref13_Rest_2 k q (sq n m) r c o1 F r n ((0 : Nat) : Int) outs rs) ?_
  show Rl (fun k q => Lshuntref13_Rest_2s k (Lshuntref13_Rest_2 k q) _ _ _ _ _ _ _ _ _ _) _
  unfold Lshuntref13_Rest_2s
  rw [sq_len]
  exact Rl.t (by first | omega | (simp only [decide_eq_true_eq, decide_eq_false_iff_not, Int.toNat_natCast, beq_iff_eq, bne_iff_ne, ne_eq, Int.not_lt, Int.not_le, ge_iff_le, gt_iff_lt, beq_eq_false_iff_ne, Nat.zero_add]; omega)) (Rl.f (by simp) (Rl.pure _))
theorem rest_row (i : Nat) (hi : i < n) (F : Int) (hF : 0 ≤ F ∧ F ≤ 1000000) (o1 : Nat) (outs : List (List Bool)) :
    ∃ rs : List Bool, rs.length = n ∧ rs.set c false = (List.range n).map (el m r c i) ∧ Rl (fun k q => Lshuntref13_Rest_2 k q (sq n m) r c o1 F i n ((0 : Nat) : Int) outs (List.replicate n false)) (sq n m, (r : Int), (c : Int), o1, F + rowF n m r c i, (i : Int), n, outs, rs) := by
  have h0 : List.replicate n false = rsR n m r c i 0 := by
    unfold rsR
    apply List.ext_getElem?
    intro i
    by_cases h : i < n <;> simp [h]
  by_cases hir : i = r
  · subst hir
    refine ⟨List.replicate n false, by simp, ?_, ?_⟩
    · rw [h0]
      unfold rsR
      rw [map_set]
      refine List.map_congr_left fun k _ => ?_
      unfold el
      simp
    · have := rest2r m hn hr hc F o1 outs (List.replicate n false)
      unfold rowF
      rw [if_pos rfl, Int.natCast_zero, Int.add_zero]
      exact this
  · obtain ⟨o, rfl, h⟩ := rest2 m hn hr hc i hi hir F hF o1 outs
    refine ⟨rsR n m r c i n, by simp [rsR], ?_, ?_⟩
    · unfold rsR
      rw [map_set]
      refine List.map_congr_left fun k hk => ?_
      have hk := List.mem_range.1 hk
      unfold el
      have e : (i != r) = true := by rw [bne_iff_ne]; exact hir
      rw [e, if_pos hk, Bool.true_and]
      by_cases h : k = c
      · rw [if_pos h, h]; simp
      · rw [if_neg h]; simp [h]
    · rw [h0]
      unfold rowF
      rw [if_neg hir]
      exact h
theorem rest_ev : Rn (fun k => Fshuntref13_Rest k (sq n m) r c) (sq n (el m r c), ((flS n m r c n : Nat) : Int)) := by
  obtain ⟨o, ho, a1⟩ : ∃ o : Nat × Int × List (List Bool), o = (n, ((flS n m r c n : Nat) : Int), sq n (el m r c)) ∧ Rl (fun k q => Lshuntref13_Rest_0 k q (sq n m) r c 0 0 ((0 : Nat) : Int) []) o := by
    refine loopI (σ := Nat × Int × List (List Bool)) n (fun k q i s => Lshuntref13_Rest_0 k q (sq n m) r c s.1 s.2.1 i s.2.2) (fun i s => s = (i, ((flS n m r c i : Nat) : Int), (List.range i).map fun a => (List.range n).map (el m r c a))) _ ?_ ?_ n 0 (0, 0, []) (by omega) rfl
    · rintro _ rfl
      refine ⟨_, rfl, Rl.up (f := fun k q => Lshuntref13_Rest_0 k q (sq n m) r c n ((flS n m r c n : Nat) : Int) n (sq n (el m r c))) (Rl.of 0 fun k q _ => ?_)⟩
      show Lshuntref13_Rest_0s k (Lshuntref13_Rest_0 k q) _ _ _ _ _ _ _ = _
      unfold Lshuntref13_Rest_0s
      rw [sq_len]
      exact if_neg (by first | omega | (simp only [decide_eq_true_eq, decide_eq_false_iff_not, Int.toNat_natCast, beq_iff_eq, bne_iff_ne, ne_eq, Int.not_lt, Int.not_le, ge_iff_le, gt_iff_lt, beq_eq_false_iff_ne, Nat.zero_add]; omega))
    · rintro i _ hi rfl
      simp only
      have hb := flS_le n m r c i
      have hb2 : i * n ≤ 48 * 48 := Nat.mul_le_mul (by omega) hn
      obtain ⟨rs, q1, q2, b1⟩ := rest_row m hn hr hc i hi ((flS n m r c i : Nat) : Int) ⟨by omega, by omega⟩ i ((List.range i).map fun a => (List.range n).map (el m r c a))
      refine .inr ⟨_, rfl, fun o ho => Rl.up (f := fun k q => Lshuntref13_Rest_0 k q (sq n m) r c i ((flS n m r c i : Nat) : Int) i ((List.range i).map fun a => (List.range n).map (el m r c a))) ?_⟩
      simp only at ho
      show Rl (fun k q => Lshuntref13_Rest_0s k (Lshuntref13_Rest_0 k q) _ _ _ _ _ _ _) _
      unfold Lshuntref13_Rest_0s
      rw [sq_len, toNat_c]
      refine Rl.t (by first | omega | (simp only [decide_eq_true_eq, decide_eq_false_iff_not, Int.toNat_natCast, beq_iff_eq, bne_iff_ne, ne_eq, Int.not_lt, Int.not_le, ge_iff_le, gt_iff_lt, beq_eq_false_iff_ne, Nat.zero_add]; omega)) (Rl.t (g := fun _ _ => none) ⟨by omega, by omega, by omega⟩ (Rl.bind b1.diag ?_))
      simp only [toNat_c, Nat.zero_add]
      refine Rl.t (g := fun _ _ => none) ⟨by omega, by omega⟩ (Rl.at (getD_some false (by omega)) (Rl.t (g := fun _ _ => none) (by simp [q1]) (Rl.t (g := fun _ _ => none) (by simp) (Rl.t (g := fun _ _ => none) (by simp; omega) ?_))))
      rw [wrap_i64 (x := (i : Int) + 1) (by omega), q2]
      have e1 : List.take n ((List.range n).map (el m r c i)) = (List.range n).map (el m r c i) := by rw [List.take_of_length_le (by simp)]
      have e2 : List.take i ((List.range i).map fun a => (List.range n).map (el m r c a)) = (List.range i).map fun a => (List.range n).map (el m r c a) := by rw [List.take_of_length_le (by simp)]
      rw [e1, e2]
      have e3 : (List.range (i + 1)).map (fun a => (List.range n).map (el m r c a)) = (List.range i).map (fun a => (List.range n).map (el m r c a)) ++ List.take 1 [(List.range n).map (el m r c i)] := by rw [List.range_succ, List.map_append]; rfl
      rw [e3] at ho
      exact ho
  subst ho
  refine Rn.up (f := fun k => Fshuntref13_Rest k (sq n m) r c) ?_
  show Rn (fun k => bshuntref13_Rest k (sq n m) r c) _
  unfold bshuntref13_Rest
  refine Rn.bind a1.diag (Rn.t (g := fun _ => none) (by simp only; rw [sq_len]; omega) (Rn.const ?_))
  simp only
  rw [List.take_of_length_le (by rw [sq_len]; omega)]
end
/-- How many of the first rows hold the column. -/
def colC (m : Nat → Nat → Bool) (i c : Nat) : Nat := (List.range i).countP fun a => m a c
def lenC (n : Nat) (m : Nat → Nat → Bool) (i : Nat) : Nat := (List.range n).countP (m i)
theorem colC_le (m : Nat → Nat → Bool) (i c : Nat) : colC m i c ≤ i := by
  have := List.countP_le_length (p := fun a => m a c) (l := List.range i)
  unfold colC
  simpa using this
theorem lenC_le (n : Nat) (m : Nat → Nat → Bool) (i : Nat) : lenC n m i ≤ n := by
  have := List.countP_le_length (p := m i) (l := List.range n)
  unfold lenC
  simpa using this
theorem colC_pos {n : Nat} {m : Nat → Nat → Bool} {i c : Nat} (hi : i < n) (h : m i c = true) : 1 ≤ colC m n c := List.countP_pos_iff.2 ⟨i, List.mem_range.2 hi, h⟩
theorem lenC_pos {n : Nat} {m : Nat → Nat → Bool} {i c : Nat} (hc : c < n) (h : m i c = true) : 1 ≤ lenC n m i := List.countP_pos_iff.2 ⟨c, List.mem_range.2 hc, h⟩
/-- What a place costs. -/
def cst (n : Nat) (m : Nat → Nat → Bool) (a c : Nat) : Nat := (lenC n m a - 1) * (colC m n c - 1)
theorem inc_before {l : List Int} (h : Inc l) {j : Nat} (hj : j < l.length) : ∀ y ∈ l.take j, y < l.getD j 0 := by
  intro y hy
  obtain ⟨k, hk, rfl⟩ := List.getElem_of_mem hy
  rw [List.length_take] at hk
  have := (List.pairwise_iff_getElem.1 h) k j (by omega) hj (by omega)
  rw [List.getElem_take, List.getD_eq_getElem?_getD, List.getElem?_eq_getElem hj]
  exact this
section
variable {n : Nat} (m : Nat → Nat → Bool) (hn : n ≤ 48)
include hn
/-- The counts, part of a row done. -/
def nsR (n : Nat) (m : Nat → Nat → Bool) (i j : Nat) : List Int := (List.range n).map fun c => ((colC m i c + if ((thin n (m i)).take j).contains (c : Int) then 1 else 0 : Nat) : Int)
theorem nsR_next (i j : Nat) (hj : j < (thin n (m i)).length) : (nsR n m i j).set ((thin n (m i)).getD j 0).toNat ((colC m i ((thin n (m i)).getD j 0).toNat : Int) + 1) = nsR n m i (j + 1) := by
  unfold nsR
  rw [map_set]
  have g := getD_some (l := thin n (m i)) (0 : Int) hj
  have hm := thin_mem.1 (List.mem_of_getElem? g)
  refine List.map_congr_left fun k hk => ?_
  rw [take_snoc _ hj, contains_snoc]
  by_cases h : k = ((thin n (m i)).getD j 0).toNat
  · rw [if_pos h, decide_eq_true (by omega), Bool.or_true, if_pos rfl, h]; rfl
  · rw [if_neg h, decide_eq_false (by omega), Bool.or_false]
theorem nsR_end (i : Nat) (hi : i < n) : nsR n m i (thin n (m i)).length = nsR n m (i + 1) 0 := by
  unfold nsR
  refine List.map_congr_left fun k hk => ?_
  have := List.mem_range.1 hk
  rw [List.take_length, thin_has hn this this]
  have e : colC m (i + 1) k = colC m i k + if m i k = true then 1 else 0 := by
    unfold colC
    rw [List.range_succ, List.countP_append, List.countP_singleton]
  rw [e]
  simp
theorem counts2 (i : Nat) (hi : i < n) : Rl (fun k q => Lsparse_counts_2 k q n (pat n m) n i (thin n (m i)) (thin n (m i)).length ((0 : Nat) : Int) (nsR n m i 0)) (n, pat n m, (n : Int), (i : Int), nsR n m (i + 1) 0) := by
  have hlen := thin_le n (m i)
  obtain ⟨o, rfl, h⟩ : ∃ o, o = (n, pat n m, (n : Int), (i : Int), nsR n m (i + 1) 0) ∧ Rl (fun k q => Lsparse_counts_2 k q n (pat n m) n i (thin n (m i)) (thin n (m i)).length ((0 : Nat) : Int) (nsR n m i 0)) o := by
    refine loopI (σ := List Int) (thin n (m i)).length (fun k q j ns => Lsparse_counts_2 k q n (pat n m) n i (thin n (m i)) (thin n (m i)).length j ns) (fun j ns => ns = nsR n m i j) _ ?_ ?_ (thin n (m i)).length 0 _ (by omega) rfl
    · rintro _ rfl
      refine ⟨_, rfl, Rl.up (f := fun k q => Lsparse_counts_2 k q n (pat n m) n i (thin n (m i)) (thin n (m i)).length ((thin n (m i)).length : Nat) (nsR n m i (thin n (m i)).length)) (Rl.of 0 fun k q _ => ?_)⟩
      show Lsparse_counts_2s k (Lsparse_counts_2 k q) _ _ _ _ _ _ _ _ = _
      unfold Lsparse_counts_2s
      rw [nsR_end m hn i hi]
      exact if_neg (by first | omega | (simp only [decide_eq_true_eq, decide_eq_false_iff_not, Int.toNat_natCast, beq_iff_eq, bne_iff_ne, ne_eq, Int.not_lt, Int.not_le, ge_iff_le, gt_iff_lt, beq_eq_false_iff_ne, Nat.zero_add]; omega))
    · rintro j _ hj rfl
      have g := getD_some (l := thin n (m i)) (0 : Int) hj
      have hm := thin_mem.1 (List.mem_of_getElem? g)
      have hcl := colC_le m i ((thin n (m i)).getD j 0).toNat
      refine .inr ⟨_, rfl, fun o ho => Rl.up (f := fun k q => Lsparse_counts_2 k q n (pat n m) n i (thin n (m i)) (thin n (m i)).length j (nsR n m i j)) ?_⟩
      rw [← nsR_next m hn i j hj] at ho
      have g2 : (nsR n m i j)[0 + ((thin n (m i)).getD j 0).toNat]? = some ((colC m i ((thin n (m i)).getD j 0).toNat : Nat) : Int) := by
        unfold nsR
        rw [Nat.zero_add, sqr_get' _ _ (by omega)]
        have hno : ((thin n (m i)).take j).contains (((thin n (m i)).getD j 0).toNat : Int) = false := by
          rw [← Bool.not_eq_true, List.contains_iff_mem, Int.toNat_of_nonneg hm.1]
          intro h
          have := inc_before (thin_inc n (m i)) hj _ h
          omega
        rw [hno]; rfl
      show Rl (fun k q => Lsparse_counts_2s k (Lsparse_counts_2 k q) _ _ _ _ _ _ _ _) _
      unfold Lsparse_counts_2s
      rw [toNat_c, wrap_i64 (x := (j : Int) + 1) (by omega)]
      refine Rl.t (by first | omega | (simp only [decide_eq_true_eq, decide_eq_false_iff_not, Int.toNat_natCast, beq_iff_eq, bne_iff_ne, ne_eq, Int.not_lt, Int.not_le, ge_iff_le, gt_iff_lt, beq_eq_false_iff_ne, Nat.zero_add]; omega)) (Rl.t (by first | omega | (simp only [decide_eq_true_eq, decide_eq_false_iff_not, Int.toNat_natCast, beq_iff_eq, bne_iff_ne, ne_eq, Int.not_lt, Int.not_le, ge_iff_le, gt_iff_lt, beq_eq_false_iff_ne, Nat.zero_add]; omega)) (Rl.at g (Rl.t (g := fun _ _ => none) ⟨hm.1, hm.2.1⟩ (Rl.at g2 (Rl.t (g := fun _ _ => none) ⟨hm.1, hm.2.1⟩ (Rl.at g2 ?_))))))
      rw [wrap_i64 (by omega), Nat.zero_add]
      exact ho
  exact h
theorem counts_ev : Rn (fun k => Fsparse_counts k (pat n m)) (n, (List.range n).map fun c => ((colC m n c : Nat) : Int)) := by
  have e : ∀ i, nsR n m i 0 = (List.range n).map fun c => ((colC m i c : Nat) : Int) := fun i => by
    unfold nsR; simp
  have h0 : List.replicate n (0 : Int) = nsR n m 0 0 := by
    rw [e]
    apply List.ext_getElem?
    intro i
    by_cases h : i < n <;> simp [h, colC]
  obtain ⟨o, rfl, h⟩ : ∃ o, o = (n, nsR n m n 0) ∧ Rl (fun k q => Lsparse_counts_0 k q n (pat n m) n ((0 : Nat) : Int) (nsR n m 0 0)) o := by
    refine loopI (σ := List Int) n (fun k q i ns => Lsparse_counts_0 k q n (pat n m) n i ns) (fun i ns => ns = nsR n m i 0) _ ?_ ?_ n 0 _ (by omega) rfl
    · rintro _ rfl
      refine ⟨_, rfl, Rl.up (f := fun k q => Lsparse_counts_0 k q n (pat n m) n n (nsR n m n 0)) (Rl.of 0 fun k q _ => ?_)⟩
      show Lsparse_counts_0s k (Lsparse_counts_0 k q) _ _ _ _ _ = _
      unfold Lsparse_counts_0s
      exact if_neg (by first | omega | (simp only [decide_eq_true_eq, decide_eq_false_iff_not, Int.toNat_natCast, beq_iff_eq, bne_iff_ne, ne_eq, Int.not_lt, Int.not_le, ge_iff_le, gt_iff_lt, beq_eq_false_iff_ne, Nat.zero_add]; omega))
    · rintro i _ hi rfl
      refine .inr ⟨_, rfl, fun o ho => Rl.up (f := fun k q => Lsparse_counts_0 k q n (pat n m) n i (nsR n m i 0)) ?_⟩
      show Rl (fun k q => Lsparse_counts_0s k (Lsparse_counts_0 k q) _ _ _ _ _) _
      unfold Lsparse_counts_0s
      rw [toNat_c]
      refine Rl.t (by first | omega | (simp only [decide_eq_true_eq, decide_eq_false_iff_not, Int.toNat_natCast, beq_iff_eq, bne_iff_ne, ne_eq, Int.not_lt, Int.not_le, ge_iff_le, gt_iff_lt, beq_eq_false_iff_ne, Nat.zero_add]; omega)) (Rl.t (by first | omega | (simp only [decide_eq_true_eq, decide_eq_false_iff_not, Int.toNat_natCast, beq_iff_eq, bne_iff_ne, ne_eq, Int.not_lt, Int.not_le, ge_iff_le, gt_iff_lt, beq_eq_false_iff_ne, Nat.zero_add]; omega)) (Rl.at (pat_get n m hi) (Rl.bind (counts2 m hn i hi).diag ?_)))
      simp only
      rw [wrap_i64 (by omega)]
      exact ho
  refine Rn.up (f := fun k => Fsparse_counts k (pat n m)) ?_
  show Rn (fun k => bsparse_counts k (pat n m)) _
  unfold bsparse_counts
  rw [pat_len, toNat_c, h0, ← e]
  exact Rn.t (g := fun _ => none) ⟨by omega, by omega, by omega⟩ (Rn.bind h.diag (Rn.pure _))
/-- Places that were looked at. -/
def Sn (n : Nat) (m : Nat → Nat → Bool) (i j a c : Nat) : Prop := a < n ∧ c < n ∧ m a c = true ∧ (a < i ∨ a = i ∧ ((thin n (m i)).take j).contains (c : Int) = true)
/-- The best of them. -/
def Bst (n : Nat) (m : Nat → Nat → Bool) (S : Nat → Nat → Prop) (row col least : Int) : Prop :=
  (least = -1 ∧ row = 0 ∧ col = 0 ∧ ∀ a c, ¬ S a c) ∨ ∃ a c : Nat, row = a ∧ col = c ∧ least = ((cst n m a c : Nat) : Int) ∧ S a c ∧ ∀ a' c', S a' c' → cst n m a c ≤ cst n m a' c' ∧ (cst n m a c = cst n m a' c' → a < a' ∨ a = a' ∧ c ≤ c')
theorem Bst.congr {S T : Nat → Nat → Prop} (h : ∀ a c, S a c ↔ T a c) {row col least : Int} (hb : Bst n m S row col least) : Bst n m T row col least := by
  rcases hb with ⟨h1, h2, h3, h4⟩ | ⟨a, c, h1, h2, h3, h4, h5⟩
  · exact .inl ⟨h1, h2, h3, fun a c => fun hT => h4 a c ((h a c).2 hT)⟩
  · exact .inr ⟨a, c, h1, h2, h3, (h a c).1 h4, fun a' c' hT => h5 a' c' ((h a' c').2 hT)⟩
theorem Sn_next (i j : Nat) (hi : i < n) (hj : j < (thin n (m i)).length) (a c : Nat) : Sn n m i (j + 1) a c ↔ Sn n m i j a c ∨ a = i ∧ c = ((thin n (m i)).getD j 0).toNat := by
  have g := getD_some (l := thin n (m i)) (0 : Int) hj
  have hm := thin_mem.1 (List.mem_of_getElem? g)
  unfold Sn
  rw [take_snoc _ hj, contains_snoc, Bool.or_eq_true, decide_eq_true_eq]
  constructor
  · rintro ⟨h1, h2, h3, h4 | ⟨h4, h5 | h5⟩⟩
    · exact .inl ⟨h1, h2, h3, .inl h4⟩
    · exact .inl ⟨h1, h2, h3, .inr ⟨h4, h5⟩⟩
    · exact .inr ⟨h4, by omega⟩
  · rintro (⟨h1, h2, h3, h4 | ⟨h4, h5⟩⟩ | ⟨rfl, rfl⟩)
    · exact ⟨h1, h2, h3, .inl h4⟩
    · exact ⟨h1, h2, h3, .inr ⟨h4, .inl h5⟩⟩
    · exact ⟨hi, by omega, hm.2.2, .inr ⟨rfl, .inr (by omega)⟩⟩
theorem Sn_end (i : Nat) (a c : Nat) : Sn n m i (thin n (m i)).length a c ↔ Sn n m (i + 1) 0 a c := by
  unfold Sn
  rw [List.take_length]
  constructor
  · rintro ⟨h1, h2, h3, h4 | ⟨h4, h5⟩⟩
    · exact ⟨h1, h2, h3, .inl (by omega)⟩
    · exact ⟨h1, h2, h3, .inl (by omega)⟩
  · rintro ⟨h1, h2, h3, h4 | ⟨h4, h5⟩⟩
    · by_cases h : a < i
      · exact ⟨h1, h2, h3, .inl h⟩
      · obtain rfl : a = i := by omega
        exact ⟨h1, h2, h3, .inr ⟨rfl, by rw [thin_has hn h2 h2]; exact h3⟩⟩
    · simp at h5
theorem Sn_before (i j : Nat) (hj : j < (thin n (m i)).length) {a c : Nat} (h : Sn n m i j a c) : a < i ∨ a = i ∧ c < ((thin n (m i)).getD j 0).toNat := by
  obtain ⟨_, _, _, h | ⟨h, h5⟩⟩ := h
  · exact .inl h
  · have := inc_before (thin_inc n (m i)) hj _ (List.contains_iff_mem.1 h5)
    exact .inr ⟨h, by omega⟩
theorem best2 (i : Nat) (hi : i < n) (ns : List Int) (hns : ns = (List.range n).map fun c => ((colC m n c : Nat) : Int)) (row col least : Int) (hb : Bst n m (Sn n m i 0) row col least) :
    ∃ row' col' least', Bst n m (Sn n m (i + 1) 0) row' col' least' ∧ Rl (fun k q => Lsparse_best_2 k q n row col least i (thin n (m i)) (pat n m) n i (thin n (m i)) (thin n (m i)).length ((0 : Nat) : Int) ns) (n, row', col', least', pat n m, (n : Int), (i : Int), ns) := by
  have hlen := thin_le n (m i)
  obtain ⟨o, ⟨row', col', least', h1, rfl⟩, h⟩ : ∃ o : Nat × Int × Int × Int × List (List Int) × Int × Int × List Int, (∃ row' col' least', Bst n m (Sn n m (i + 1) 0) row' col' least' ∧ o = (n, row', col', least', pat n m, (n : Int), (i : Int), ns)) ∧ Rl (fun k q => Lsparse_best_2 k q n row col least i (thin n (m i)) (pat n m) n i (thin n (m i)) (thin n (m i)).length ((0 : Nat) : Int) ns) o := by
    refine loopI (σ := Int × Int × Int) (thin n (m i)).length (fun k q j s => Lsparse_best_2 k q n s.1 s.2.1 s.2.2 i (thin n (m i)) (pat n m) n i (thin n (m i)) (thin n (m i)).length j ns) (fun j s => Bst n m (Sn n m i j) s.1 s.2.1 s.2.2) _ ?_ ?_ (thin n (m i)).length 0 (row, col, least) (by omega) hb
    · rintro ⟨row, col, least⟩ hb
      refine ⟨_, ⟨row, col, least, hb.congr m hn (Sn_end m hn i), rfl⟩, Rl.up (f := fun k q => Lsparse_best_2 k q n row col least i (thin n (m i)) (pat n m) n i (thin n (m i)) (thin n (m i)).length ((thin n (m i)).length : Nat) ns) (Rl.of 0 fun k q _ => ?_)⟩
      show Lsparse_best_2s k (Lsparse_best_2 k q) _ _ _ _ _ _ _ _ _ _ _ _ _ = _
      unfold Lsparse_best_2s
      exact if_neg (by first | omega | (simp only [decide_eq_true_eq, decide_eq_false_iff_not, Int.toNat_natCast, beq_iff_eq, bne_iff_ne, ne_eq, Int.not_lt, Int.not_le, ge_iff_le, gt_iff_lt, beq_eq_false_iff_ne, Nat.zero_add]; omega))
    · rintro j ⟨row, col, least⟩ hj hb
      right
      have g := getD_some (l := thin n (m i)) (0 : Int) hj
      have hm := thin_mem.1 (List.mem_of_getElem? g)
      generalize hx : (thin n (m i)).getD j 0 = x at g hm
      obtain ⟨c, rfl⟩ : ∃ c : Nat, x = c := ⟨x.toNat, by omega⟩
      rw [toNat_c] at hm
      have hcn : c < n := by omega
      have g2 : ns[0 + Int.toNat (c : Int)]? = some ((colC m n c : Nat) : Int) := by
        rw [hns, Nat.zero_add, toNat_c, sqr_get' _ _ hcn]
      have hp1 := colC_pos hi hm.2.2
      have hp2 := lenC_pos hcn hm.2.2
      have hl1 := colC_le m n c
      have hl2 := lenC_le n m i
      have hll : (thin n (m i)).length = lenC n m i := thin_len _ _
      have hcost : IntKind.i64.wrap (IntKind.i64.wrap (((thin n (m i)).length : Nat) - (1 : Int)) * IntKind.i64.wrap (((colC m n c : Nat) : Int) - 1)) = ((cst n m i c : Nat) : Int) := by
        rw [hll, wrap_i64 (x := ((lenC n m i : Nat) : Int) - 1) (by omega), wrap_i64 (x := ((colC m n c : Nat) : Int) - 1) (by omega)]
        have e : (((lenC n m i : Nat) : Int) - 1) * (((colC m n c : Nat) : Int) - 1) = ((cst n m i c : Nat) : Int) := by
          unfold cst
          rw [Int.natCast_mul, Int.natCast_sub hp2, Int.natCast_sub hp1]; rfl
        have hb : cst n m i c ≤ 48 * 48 := Nat.mul_le_mul (by omega) (by omega)
        rw [e, wrap_i64 (by omega)]
      have hnx : ∀ a' c', Sn n m i (j + 1) a' c' ↔ Sn n m i j a' c' ∨ a' = i ∧ c' = c := fun a' c' => by
        rw [Sn_next m hn i j hi hj, hx, toNat_c]
      have hbef : ∀ a' c', Sn n m i j a' c' → a' < i ∨ a' = i ∧ c' < c := fun a' c' h => by
        have := Sn_before m hn i j hj h
        rwa [hx, toNat_c] at this
      have hnew : (∀ a' c', Sn n m i j a' c' → cst n m i c < cst n m a' c') → Bst n m (Sn n m i (j + 1)) (i : Int) (c : Int) ((cst n m i c : Nat) : Int) := fun h =>
        .inr ⟨i, c, rfl, rfl, rfl, (hnx i c).2 (.inr ⟨rfl, rfl⟩), fun a' c' hs => by
          rcases (hnx a' c').1 hs with hs | ⟨rfl, rfl⟩
          · have := h a' c' hs; exact ⟨by omega, fun e => by omega⟩
          · exact ⟨Nat.le_refl _, fun _ => .inr ⟨rfl, Nat.le_refl _⟩⟩⟩
      have step : ∀ o, Rl (fun k q => Lsparse_best_2s k (Lsparse_best_2 k q) n row col least i (thin n (m i)) (pat n m) n i (thin n (m i)) (thin n (m i)).length j ns) o → Rl (fun k q => Lsparse_best_2 k q n row col least i (thin n (m i)) (pat n m) n i (thin n (m i)) (thin n (m i)).length j ns) o :=
        fun o ho => Rl.up (f := fun k q => Lsparse_best_2 k q n row col least i (thin n (m i)) (pat n m) n i (thin n (m i)) (thin n (m i)).length j ns) ho
      unfold Lsparse_best_2s at step
      rw [toNat_c, wrap_i64 (x := (j : Int) + 1) (by omega)] at step
      have step2 : ∀ o s', (if least < 0 ∨ ((cst n m i c : Nat) : Int) < least then s' = ((i : Int), (c : Int), ((cst n m i c : Nat) : Int)) else s' = (row, col, least)) → Rl (fun k q => Lsparse_best_2 k q n s'.1 s'.2.1 s'.2.2 i (thin n (m i)) (pat n m) n i (thin n (m i)) (thin n (m i)).length ((j + 1 : Nat) : Int) ns) o → Rl (fun k q => Lsparse_best_2 k q n row col least i (thin n (m i)) (pat n m) n i (thin n (m i)) (thin n (m i)).length j ns) o := by
        intro o s' hs' ho
        refine step o (Rl.t (by first | omega | (simp only [decide_eq_true_eq, decide_eq_false_iff_not, Int.toNat_natCast, beq_iff_eq, bne_iff_ne, ne_eq, Int.not_lt, Int.not_le, ge_iff_le, gt_iff_lt, beq_eq_false_iff_ne, Nat.zero_add]; omega)) (Rl.t (by first | omega | (simp only [decide_eq_true_eq, decide_eq_false_iff_not, Int.toNat_natCast, beq_iff_eq, bne_iff_ne, ne_eq, Int.not_lt, Int.not_le, ge_iff_le, gt_iff_lt, beq_eq_false_iff_ne, Nat.zero_add]; omega)) (Rl.at g (Rl.t (g := fun _ _ => none) ⟨hm.1, hm.2.1⟩ (Rl.at g2 ?_)))))
        by_cases h1 : least < 0
        · rw [if_pos (.inl h1)] at hs'
          subst hs'
          refine Rl.f (by first | omega | (simp only [decide_eq_true_eq, decide_eq_false_iff_not, Int.toNat_natCast, beq_iff_eq, bne_iff_ne, ne_eq, Int.not_lt, Int.not_le, ge_iff_le, gt_iff_lt, beq_eq_false_iff_ne, Nat.zero_add]; omega)) ?_
          rw [hcost]; exact ho
        · refine Rl.t (by first | omega | (simp only [decide_eq_true_eq, decide_eq_false_iff_not, Int.toNat_natCast, beq_iff_eq, bne_iff_ne, ne_eq, Int.not_lt, Int.not_le, ge_iff_le, gt_iff_lt, beq_eq_false_iff_ne, Nat.zero_add]; omega)) ?_
          by_cases h2 : ((cst n m i c : Nat) : Int) < least
          · rw [if_pos (.inr h2)] at hs'
            subst hs'
            refine Rl.t (by rw [hcost]; exact decide_eq_true h2) ?_
            rw [hcost]; exact ho
          · rw [if_neg (by omega)] at hs'
            subst hs'
            exact Rl.f (by rw [hcost]; exact fun h => h2 (of_decide_eq_true h)) ho
      rcases hb with ⟨b1, b2, b3, b4⟩ | ⟨a0, c0, b1, b2, b3, b4, b5⟩
      · refine ⟨((i : Int), (c : Int), ((cst n m i c : Nat) : Int)), hnew fun a' c' hs => absurd hs (b4 a' c'), fun o ho => step2 o _ (by simp only at b1; rw [if_pos (.inl (by omega))]) ho⟩
      · simp only at b1 b2 b3
        by_cases h2 : ((cst n m i c : Nat) : Int) < least
        · refine ⟨((i : Int), (c : Int), ((cst n m i c : Nat) : Int)), hnew fun a' c' hs => by have := (b5 a' c' hs).1; omega, fun o ho => step2 o _ (by rw [if_pos (.inr h2)]) ho⟩
        · refine ⟨(row, col, least), .inr ⟨a0, c0, b1, b2, b3, (hnx a0 c0).2 (.inl b4), fun a' c' hs => ?_⟩, fun o ho => step2 o _ (by rw [if_neg (by omega)]) ho⟩
          rcases (hnx a' c').1 hs with hs | ⟨rfl, rfl⟩
          · exact b5 a' c' hs
          · have := hbef a0 c0 b4
            exact ⟨by omega, fun _ => by omega⟩
  exact ⟨row', col', least', h1, h⟩
/-- The best of all places. -/
theorem best_ev : ∃ row col least, Bst n m (fun a c => a < n ∧ c < n ∧ m a c = true) row col least ∧ Rn (fun k => Fsparse_best k (pat n m)) (row, col, decide (least ≥ 0)) := by
  have hc := counts_ev m hn
  generalize hns : ((List.range n).map fun c => ((colC m n c : Nat) : Int)) = ns at hc
  obtain ⟨o, ⟨row', col', least', h1, rfl⟩, h⟩ : ∃ o : Int × Int × Int × List Int, (∃ row' col' least', Bst n m (Sn n m n 0) row' col' least' ∧ o = (row', col', least', ns)) ∧ Rl (fun k q => Lsparse_best_0 k q n 0 0 (-1) (pat n m) n ((0 : Nat) : Int) ns) o := by
    refine loopI (σ := Int × Int × Int) n (fun k q i s => Lsparse_best_0 k q n s.1 s.2.1 s.2.2 (pat n m) n i ns) (fun i s => Bst n m (Sn n m i 0) s.1 s.2.1 s.2.2) _ ?_ ?_ n 0 (0, 0, -1) (by omega) (.inl ⟨rfl, rfl, rfl, fun a c h => ?_⟩)
    · rintro ⟨row, col, least⟩ hb
      refine ⟨_, ⟨row, col, least, hb, rfl⟩, Rl.up (f := fun k q => Lsparse_best_0 k q n row col least (pat n m) n n ns) (Rl.of 0 fun k q _ => ?_)⟩
      show Lsparse_best_0s k (Lsparse_best_0 k q) _ _ _ _ _ _ _ _ = _
      unfold Lsparse_best_0s
      exact if_neg (by first | omega | (simp only [decide_eq_true_eq, decide_eq_false_iff_not, Int.toNat_natCast, beq_iff_eq, bne_iff_ne, ne_eq, Int.not_lt, Int.not_le, ge_iff_le, gt_iff_lt, beq_eq_false_iff_ne, Nat.zero_add]; omega))
    · rintro i ⟨row, col, least⟩ hi hb
      obtain ⟨row', col', least', b1, b2⟩ := best2 m hn i hi ns hns.symm row col least hb
      refine .inr ⟨(row', col', least'), b1, fun o ho => Rl.up (f := fun k q => Lsparse_best_0 k q n row col least (pat n m) n i ns) ?_⟩
      show Rl (fun k q => Lsparse_best_0s k (Lsparse_best_0 k q) _ _ _ _ _ _ _ _) _
      unfold Lsparse_best_0s
      rw [toNat_c]
      refine Rl.t (by first | omega | (simp only [decide_eq_true_eq, decide_eq_false_iff_not, Int.toNat_natCast, beq_iff_eq, bne_iff_ne, ne_eq, Int.not_lt, Int.not_le, ge_iff_le, gt_iff_lt, beq_eq_false_iff_ne, Nat.zero_add]; omega)) (Rl.t (by first | omega | (simp only [decide_eq_true_eq, decide_eq_false_iff_not, Int.toNat_natCast, beq_iff_eq, bne_iff_ne, ne_eq, Int.not_lt, Int.not_le, ge_iff_le, gt_iff_lt, beq_eq_false_iff_ne, Nat.zero_add]; omega)) (Rl.at (pat_get n m hi) (Rl.bind b2.diag ?_)))
      simp only
      rw [wrap_i64 (by omega)]
      exact ho
    · obtain ⟨_, _, _, h | ⟨_, h⟩⟩ := h
      · omega
      · simp at h
  refine ⟨row', col', least', h1.congr m hn (fun a c => ?_), ?_⟩
  · unfold Sn
    exact ⟨fun h => ⟨h.1, h.2.1, h.2.2.1⟩, fun h => ⟨h.1, h.2.1, h.2.2, .inl h.1⟩⟩
  · refine Rn.up (f := fun k => Fsparse_best k (pat n m)) ?_
    show Rn (fun k => bsparse_best k (pat n m)) _
    unfold bsparse_best
    refine Rn.bind hc ?_
    simp only
    rw [pat_len]
    exact Rn.bind h.diag (Rn.pure _)
end
/-- Places that can be taken one after the other, and leave nothing. -/
def Chain (n : Nat) : (Nat → Nat → Bool) → List Nat → List Nat → Prop
  | m, [], [] => ∀ i k, i < n → k < n → m i k = false
  | m, r :: rs, c :: cs => r < n ∧ c < n ∧ m r c = true ∧ Chain n (el m r c) rs cs
  | _, _, _ => False
def neR (n : Nat) (m : Nat → Nat → Bool) : Nat := (List.range n).countP fun i => (List.range n).any (m i)
theorem countP_split (f g : Nat → Bool) (l : List Nat) : l.countP f = l.countP (fun k => f k && g k) + l.countP fun k => f k && !g k := by
  induction l with
  | nil => rfl
  | cons x l ih =>
    simp only [List.countP_cons, ih]
    cases f x <;> cases g x <;> simp <;> omega
theorem ne_less {n : Nat} {m : Nat → Nat → Bool} {r c : Nat} (hr : r < n) (hc : c < n) (h : m r c = true) : neR n (el m r c) < neR n m := by
  unfold neR
  rw [countP_split (fun i => (List.range n).any (m i)) (fun i => i != r)]
  have h1 : 0 < (List.range n).countP fun i => (List.range n).any (m i) && !(i != r) :=
    List.countP_pos_iff.2 ⟨r, List.mem_range.2 hr, by simp only [bne_self_eq_false, Bool.not_false, Bool.and_true]; exact List.any_eq_true.2 ⟨c, List.mem_range.2 hc, h⟩⟩
  have h2 : (List.range n).countP (fun i => (List.range n).any (el m r c i)) ≤ (List.range n).countP fun i => (List.range n).any (m i) && (i != r) := by
    refine List.countP_mono_left fun i _ hi => ?_
    obtain ⟨k, hk, he⟩ := List.any_eq_true.1 hi
    unfold el at he
    simp only [Bool.and_eq_true, Bool.or_eq_true] at he
    obtain ⟨⟨e1, _⟩, e2⟩ := he
    rw [Bool.and_eq_true]
    refine ⟨?_, e1⟩
    rcases e2 with e2 | ⟨e2, _⟩
    · exact List.any_eq_true.2 ⟨k, hk, e2⟩
    · exact List.any_eq_true.2 ⟨c, List.mem_range.2 hc, e2⟩
  omega
theorem ne_le (n : Nat) (m : Nat → Nat → Bool) : neR n m ≤ n := by
  have := List.countP_le_length (p := fun i => (List.range n).any (m i)) (l := List.range n)
  unfold neR
  simpa using this
theorem Chain.len {n : Nat} : ∀ {rs cs : List Nat} {m : Nat → Nat → Bool}, Chain n m rs cs → rs.length = cs.length ∧ rs.length ≤ neR n m
  | [], [], m, _ => ⟨rfl, Nat.zero_le _⟩
  | [], _ :: _, _, h => h.elim
  | _ :: _, [], _, h => h.elim
  | r :: rs, c :: cs, m, ⟨h1, h2, h3, h4⟩ => by
    have := h4.len
    have := ne_less h1 h2 h3
    simp only [List.length_cons]
    omega
section
variable {n : Nat} (hn : n ≤ 48)
include hn
theorem pCheck_ev (m : Nat → Nat → Bool) : Rn (fun k => Fsparse_Check k (pat n m)) 0 := by
  have := Check_ev (pat n m) (pat_sm m hn)
  rwa [if_pos (pat_ok m hn)] at this
theorem inB_at (m : Nat → Nat → Bool) {r c : Nat} (hr : r < n) (hc : c < n) : inB n m (r : Int) (c : Int) = m r c := by
  unfold inB
  rw [decide_eq_true ⟨by omega, by omega, by omega, by omega⟩, toNat_c, toNat_c, Bool.true_and]
theorem Cost_ev (m : Nat → Nat → Bool) {r c : Nat} (hr : r < n) (hc : c < n) (h : m r c = true) : Rn (fun k => Fsparse_Cost k (pat n m) (r : Int) (c : Int)) (((cst n m r c : Nat) : Int), 0) := by
  refine Rn.up (f := fun k => Fsparse_Cost k (pat n m) (r : Int) (c : Int)) ?_
  show Rn (fun k => bsparse_Cost k (pat n m) (r : Int) (c : Int)) _
  unfold bsparse_Cost
  have hi := in_ev m hn (r : Int) (c : Int)
  rw [inB_at hn m hr hc, h] at hi
  have hp1 := colC_pos hr h
  have hp2 := lenC_pos hc h
  have hl1 := colC_le m n c
  have hl2 := lenC_le n m r
  have hll : (thin n (m r)).length = lenC n m r := thin_len _ _
  have hcost : IntKind.i64.wrap (IntKind.i64.wrap (((thin n (m r)).length : Nat) - (1 : Int)) * IntKind.i64.wrap (((colC m n c : Nat) : Int) - 1)) = ((cst n m r c : Nat) : Int) := by
    rw [hll, wrap_i64 (x := ((lenC n m r : Nat) : Int) - 1) (by omega), wrap_i64 (x := ((colC m n c : Nat) : Int) - 1) (by omega)]
    have e : (((lenC n m r : Nat) : Int) - 1) * (((colC m n c : Nat) : Int) - 1) = ((cst n m r c : Nat) : Int) := by
      unfold cst
      rw [Int.natCast_mul, Int.natCast_sub hp2, Int.natCast_sub hp1]; rfl
    have hb : cst n m r c ≤ 48 * 48 := Nat.mul_le_mul (by omega) (by omega)
    rw [e, wrap_i64 (by omega)]
  refine Rn.bind (pCheck_ev hn m) (Rn.f (by simp) (Rn.bind hi (Rn.f (by simp) (Rn.t (by first | omega | (simp only [decide_eq_true_eq, decide_eq_false_iff_not, Int.toNat_natCast, beq_iff_eq, bne_iff_ne, ne_eq, Int.not_lt, Int.not_le, ge_iff_le, gt_iff_lt, beq_eq_false_iff_ne, Nat.zero_add]; omega)) (Rn.at (by rw [toNat_c]; exact pat_get n m hr) (Rn.bind (counts_ev m hn) (Rn.t (g := fun _ => none) ⟨by omega, by simp only; omega⟩ (Rn.at (by rw [Nat.zero_add, toNat_c]; exact sqr_get' _ _ hc) (Rn.const ?_)))))))))
  rw [hcost]
end
section
variable {n r c : Nat} (m : Nat → Nat → Bool) (hn : n ≤ 48) (hr : r < n) (hc : c < n)
include hn hr hc
theorem elimT_ev : Rn (fun k => Fsparse_eliminate k (pat n m) (r : Int) (c : Int)) (n, ((flS n m r c n : Nat) : Int), pat n (el m r c)) := by
  have hT : outR n m r c 0 = List.replicate n [] := by
    unfold outR
    apply List.ext_getElem?
    intro i
    by_cases h : i < n
    · simp [h]
    · simp [h]
  have hE : outR n m r c n = pat n (el m r c) := List.map_congr_left fun a ha => if_pos (List.mem_range.1 ha)
  obtain ⟨o, h, a1⟩ : ∃ o : (Nat × Int × Int × List (List Int)) ⊕ (Nat × Int × Int × List (List Int)), (o = .inl (n, ((flS n m r c n : Nat) : Int), (c : Int), pat n (el m r c)) ∨ o = .inr (n, ((flS n m r c n : Nat) : Int), (c : Int), pat n (el m r c))) ∧
      Rl (fun k q => Lsparse_eliminate_0 k q (Sum.inl (pat n m, (r : Int), n, (0 : Int), pat n m, (n : Int), ((0 : Nat) : Int), (c : Int), outR n m r c 0))) o := by
    refine loopI (σ := (ElT → ElT ⊕ ElT) × Int × List (List Int)) n (fun k q i s => Lsparse_eliminate_0 k q (s.1 (pat n m, (r : Int), n, s.2.1, pat n m, (n : Int), i, (c : Int), s.2.2)))
      (fun i s => (s.1 = Sum.inl ∨ s.1 = Sum.inr) ∧ s.2.1 = ((flS n m r c i : Nat) : Int) ∧ s.2.2 = outR n m r c i) _ ?_ ?_ n 0 (Sum.inl, 0, outR n m r c 0) (by omega) ⟨.inl rfl, rfl, rfl⟩
    · rintro ⟨hd, F, outs⟩ ⟨h1, h2, h3⟩
      simp only at h1 h2 h3
      subst h2 h3
      rw [hE]
      rcases h1 with rfl | rfl
      · refine ⟨_, .inl rfl, Rl.up (f := fun k q => Lsparse_eliminate_0 k q (Sum.inl (pat n m, (r : Int), n, ((flS n m r c n : Nat) : Int), pat n m, (n : Int), (n : Int), (c : Int), pat n (el m r c)))) (Rl.of 0 fun k q _ => ?_)⟩
        show Lsparse_eliminate_0s k (Lsparse_eliminate_0 k q) _ = _
        unfold Lsparse_eliminate_0s
        exact if_neg (by first | omega | (simp only [decide_eq_true_eq, decide_eq_false_iff_not, Int.toNat_natCast, beq_iff_eq, bne_iff_ne, ne_eq, Int.not_lt, Int.not_le, ge_iff_le, gt_iff_lt, beq_eq_false_iff_ne, Nat.zero_add]; omega))
      · refine ⟨_, .inr rfl, Rl.up (f := fun k q => Lsparse_eliminate_0 k q (Sum.inr (pat n m, (r : Int), n, ((flS n m r c n : Nat) : Int), pat n m, (n : Int), (n : Int), (c : Int), pat n (el m r c)))) (Rl.of 0 fun k q _ => ?_)⟩
        show Lsparse_eliminate_0s k (Lsparse_eliminate_0 k q) _ = _
        unfold Lsparse_eliminate_0s
        exact if_neg (by first | omega | (simp only [decide_eq_true_eq, decide_eq_false_iff_not, Int.toNat_natCast, beq_iff_eq, bne_iff_ne, ne_eq, Int.not_lt, Int.not_le, ge_iff_le, gt_iff_lt, beq_eq_false_iff_ne, Nat.zero_add]; omega))
    · rintro i ⟨hd, F, outs⟩ hi ⟨h1, h2, h3⟩
      simp only at h1 h2 h3
      subst h2 h3
      have hb := flS_le n m r c i
      have hb2 : i * n ≤ 48 * 48 := Nat.mul_le_mul (by omega) hn
      obtain ⟨hd', q1, q2⟩ := elim_step m hn hr hc i hi hd h1 ((flS n m r c i : Nat) : Int) ⟨by omega, by omega⟩
      exact .inr ⟨(hd', ((flS n m r c i : Nat) : Int) + rowF n m r c i, outR n m r c (i + 1)), ⟨q1, rfl, rfl⟩, q2⟩
  refine Rn.up (f := fun k => Fsparse_eliminate k (pat n m) (r : Int) (c : Int)) ?_
  show Rn (fun k => bsparse_eliminate k (pat n m) (r : Int) (c : Int)) _
  unfold bsparse_eliminate
  rw [pat_len, toNat_c, ← hT]
  refine Rn.t (g := fun _ => none) ⟨by omega, by omega, by omega⟩ (Rn.bind a1.diag ?_)
  rcases h with rfl | rfl
  · exact Rn.pure _
  · exact Rn.pure _
end
theorem lenC_succ (m : Nat → Nat → Bool) (i r : Nat) : lenC (i + 1) m r = lenC i m r + if m r i = true then 1 else 0 := by
  unfold lenC
  rw [List.range_succ, List.countP_append, List.countP_singleton]
theorem colC_succ (m : Nat → Nat → Bool) (i c : Nat) : colC m (i + 1) c = colC m i c + if m i c = true then 1 else 0 := by
  unfold colC
  rw [List.range_succ, List.countP_append, List.countP_singleton]
section
variable {n : Nat} (m : Nat → Nat → Bool) (hn : n ≤ 48)
include hn
theorem price0 {r c : Nat} (hr : r < n) (hc : c < n) : Rl (fun k q => Lshuntref13_Price_0 k q (sq n m) r c 0 0 ((0 : Nat) : Int)) (((lenC n m r : Nat) : Int), ((colC m n c : Nat) : Int)) := by
  obtain ⟨o, rfl, h⟩ : ∃ o, o = (((lenC n m r : Nat) : Int), ((colC m n c : Nat) : Int)) ∧ Rl (fun k q => Lshuntref13_Price_0 k q (sq n m) r c 0 0 ((0 : Nat) : Int)) o := by
    refine loopI (σ := Int × Int) n (fun k q i s => Lshuntref13_Price_0 k q (sq n m) r c s.1 s.2 i) (fun i s => s = (((lenC i m r : Nat) : Int), ((colC m i c : Nat) : Int))) _ ?_ ?_ n 0 (0, 0) (by omega) rfl
    · rintro _ rfl
      refine ⟨_, rfl, Rl.up (f := fun k q => Lshuntref13_Price_0 k q (sq n m) r c ((lenC n m r : Nat) : Int) ((colC m n c : Nat) : Int) n) (Rl.of 0 fun k q _ => ?_)⟩
      show Lshuntref13_Price_0s k (Lshuntref13_Price_0 k q) _ _ _ _ _ _ = _
      unfold Lshuntref13_Price_0s
      exact if_neg (by rw [sq_len]; simp)
    · rintro i _ hi rfl
      have h1 := lenC_le i m r
      have h2 := colC_le m i c
      refine .inr ⟨_, rfl, fun o ho => Rl.up (f := fun k q => Lshuntref13_Price_0 k q (sq n m) r c ((lenC i m r : Nat) : Int) ((colC m i c : Nat) : Int) i) ?_⟩
      have g1 : (sq n m)[Int.toNat (r : Int)]? = some ((List.range n).map (m r)) := by rw [toNat_c]; exact sq_get n m hr
      have g2 : ((List.range n).map (m r))[Int.toNat (i : Int)]? = some (m r i) := by rw [toNat_c]; exact sqr_get n _ hi
      have g3 : (sq n m)[Int.toNat (i : Int)]? = some ((List.range n).map (m i)) := by rw [toNat_c]; exact sq_get n m hi
      have g4 : ((List.range n).map (m i))[Int.toNat (c : Int)]? = some (m i c) := by rw [toNat_c]; exact sqr_get n _ hc
      simp only [lenC_succ, colC_succ] at ho
      show Rl (fun k q => Lshuntref13_Price_0s k (Lshuntref13_Price_0 k q) _ _ _ _ _ _) _
      unfold Lshuntref13_Price_0s
      rw [wrap_i64 (x := (i : Int) + 1) (by omega), wrap_i64 (x := ((lenC i m r : Nat) : Int) + 1) (by omega), wrap_i64 (x := ((colC m i c : Nat) : Int) + 1) (by omega)]
      refine Rl.t (by rw [sq_len]; simp; omega) (Rl.t (by first | omega | (simp only [decide_eq_true_eq, decide_eq_false_iff_not, Int.toNat_natCast, beq_iff_eq, bne_iff_ne, ne_eq, Int.not_lt, Int.not_le, ge_iff_le, gt_iff_lt, beq_eq_false_iff_ne, Nat.zero_add]; omega)) (Rl.at g1 (Rl.t (by first | omega | (simp only [decide_eq_true_eq, decide_eq_false_iff_not, Int.toNat_natCast, beq_iff_eq, bne_iff_ne, ne_eq, Int.not_lt, Int.not_le, ge_iff_le, gt_iff_lt, beq_eq_false_iff_ne, Nat.zero_add]; omega)) (Rl.at g2 ?_))))
      by_cases e1 : m r i = true
      · rw [if_pos e1] at ho
        refine Rl.t e1 (Rl.t (by first | omega | (simp only [decide_eq_true_eq, decide_eq_false_iff_not, Int.toNat_natCast, beq_iff_eq, bne_iff_ne, ne_eq, Int.not_lt, Int.not_le, ge_iff_le, gt_iff_lt, beq_eq_false_iff_ne, Nat.zero_add]; omega)) (Rl.at g3 (Rl.t (by first | omega | (simp only [decide_eq_true_eq, decide_eq_false_iff_not, Int.toNat_natCast, beq_iff_eq, bne_iff_ne, ne_eq, Int.not_lt, Int.not_le, ge_iff_le, gt_iff_lt, beq_eq_false_iff_ne, Nat.zero_add]; omega)) (Rl.at g4 ?_))))
        by_cases e2 : m i c = true
        · rw [if_pos e2] at ho
          exact Rl.t e2 ho
        · rw [if_neg e2] at ho
          exact Rl.f e2 ho
      · rw [if_neg e1] at ho
        refine Rl.f e1 (Rl.t (by first | omega | (simp only [decide_eq_true_eq, decide_eq_false_iff_not, Int.toNat_natCast, beq_iff_eq, bne_iff_ne, ne_eq, Int.not_lt, Int.not_le, ge_iff_le, gt_iff_lt, beq_eq_false_iff_ne, Nat.zero_add]; omega)) (Rl.at g3 (Rl.t (by first | omega | (simp only [decide_eq_true_eq, decide_eq_false_iff_not, Int.toNat_natCast, beq_iff_eq, bne_iff_ne, ne_eq, Int.not_lt, Int.not_le, ge_iff_le, gt_iff_lt, beq_eq_false_iff_ne, Nat.zero_add]; omega)) (Rl.at g4 ?_))))
        by_cases e2 : m i c = true
        · rw [if_pos e2] at ho
          exact Rl.t e2 ho
        · rw [if_neg e2] at ho
          exact Rl.f e2 ho
  exact h
theorem price_ev {r c : Nat} (hr : r < n) (hc : c < n) (h : m r c = true) : Rn (fun k => Fshuntref13_Price k (sq n m) r c) ((cst n m r c : Nat) : Int) := by
  refine Rn.up (f := fun k => Fshuntref13_Price k (sq n m) r c) ?_
  show Rn (fun k => bshuntref13_Price k (sq n m) r c) _
  unfold bshuntref13_Price
  refine Rn.bind (price0 m hn hr hc).diag (Rn.const ?_)
  have hp1 := colC_pos hr h
  have hp2 := lenC_pos hc h
  have hl1 := colC_le m n c
  have hl2 := lenC_le n m r
  have e : (((lenC n m r : Nat) : Int) - 1) * (((colC m n c : Nat) : Int) - 1) = ((cst n m r c : Nat) : Int) := by
    unfold cst
    rw [Int.natCast_mul, Int.natCast_sub hp2, Int.natCast_sub hp1]; rfl
  have hb : cst n m r c ≤ 48 * 48 := Nat.mul_le_mul (by omega) (by omega)
  simp only
  rw [wrap_i64 (x := ((lenC n m r : Nat) : Int) - 1) (by omega), wrap_i64 (x := ((colC m n c : Nat) : Int) - 1) (by omega), e, wrap_i64 (by omega)]
/-- Places that the reference looked at. -/
def Sq (n : Nat) (m : Nat → Nat → Bool) (i j a c : Nat) : Prop := a < n ∧ c < n ∧ m a c = true ∧ (a < i ∨ a = i ∧ c < j)
theorem choose2 (i : Nat) (hi : i < n) (row col least : Int) (hb : Bst n m (Sq n m i 0) row col least) :
    ∃ row' col' least', Bst n m (Sq n m (i + 1) 0) row' col' least' ∧ Rl (fun k q => Lshuntref13_Choose_2 k q (sq n m) row col (decide (least ≥ 0)) i ((0 : Nat) : Int)) (sq n m, row', col', decide (least' ≥ 0), (i : Int)) := by
  obtain ⟨o, ⟨row', col', least', h1, rfl⟩, h⟩ : ∃ o : List (List Bool) × Int × Int × Bool × Int, (∃ row' col' least', Bst n m (Sq n m (i + 1) 0) row' col' least' ∧ o = (sq n m, row', col', decide (least' ≥ 0), (i : Int))) ∧ Rl (fun k q => Lshuntref13_Choose_2 k q (sq n m) row col (decide (least ≥ 0)) i ((0 : Nat) : Int)) o := by
    refine loopI (σ := Int × Int × Int) n (fun k q j s => Lshuntref13_Choose_2 k q (sq n m) s.1 s.2.1 (decide (s.2.2 ≥ 0)) i j) (fun j s => Bst n m (Sq n m i j) s.1 s.2.1 s.2.2) _ ?_ ?_ n 0 (row, col, least) (by omega) hb
    · rintro ⟨row, col, least⟩ hb
      refine ⟨_, ⟨row, col, least, hb.congr m hn (fun a c => ?_), rfl⟩, Rl.up (f := fun k q => Lshuntref13_Choose_2 k q (sq n m) row col (decide (least ≥ 0)) i n) (Rl.of 0 fun k q _ => ?_)⟩
      · unfold Sq
        constructor
        · rintro ⟨h1, h2, h3, h4⟩; exact ⟨h1, h2, h3, by omega⟩
        · rintro ⟨h1, h2, h3, h4⟩; exact ⟨h1, h2, h3, by omega⟩
      · show Lshuntref13_Choose_2s k (Lshuntref13_Choose_2 k q) _ _ _ _ _ _ = _
        unfold Lshuntref13_Choose_2s
        exact if_neg (by rw [sq_len]; simp)
    · rintro j ⟨row, col, least⟩ hj hb
      right
      have g1 : (sq n m)[Int.toNat (i : Int)]? = some ((List.range n).map (m i)) := by rw [toNat_c]; exact sq_get n m hi
      have g2 : ((List.range n).map (m i))[Int.toNat (j : Int)]? = some (m i j) := by rw [toNat_c]; exact sqr_get n _ hj
      have hbef : ∀ a' c', Sq n m i j a' c' → a' < i ∨ a' = i ∧ c' < j := fun a' c' h => h.2.2.2
      have step : ∀ o, Rl (fun k q => Lshuntref13_Choose_2s k (Lshuntref13_Choose_2 k q) (sq n m) row col (decide (least ≥ 0)) i j) o → Rl (fun k q => Lshuntref13_Choose_2 k q (sq n m) row col (decide (least ≥ 0)) i j) o :=
        fun o ho => Rl.up (f := fun k q => Lshuntref13_Choose_2 k q (sq n m) row col (decide (least ≥ 0)) i j) ho
      unfold Lshuntref13_Choose_2s at step
      rw [wrap_i64 (x := (j : Int) + 1) (by omega)] at step
      by_cases e : m i j = true
      rotate_left
      · refine ⟨(row, col, least), hb.congr m hn (fun a c => ?_), fun o ho => step o (Rl.t (by rw [sq_len]; simp; omega) (Rl.t (by first | omega | (simp only [decide_eq_true_eq, decide_eq_false_iff_not, Int.toNat_natCast, beq_iff_eq, bne_iff_ne, ne_eq, Int.not_lt, Int.not_le, ge_iff_le, gt_iff_lt, beq_eq_false_iff_ne, Nat.zero_add]; omega)) (Rl.at g1 (Rl.t (by first | omega | (simp only [decide_eq_true_eq, decide_eq_false_iff_not, Int.toNat_natCast, beq_iff_eq, bne_iff_ne, ne_eq, Int.not_lt, Int.not_le, ge_iff_le, gt_iff_lt, beq_eq_false_iff_ne, Nat.zero_add]; omega)) (Rl.at g2 (Rl.f e ho))))))⟩
        unfold Sq
        constructor
        · rintro ⟨h1, h2, h3, h4⟩; exact ⟨h1, h2, h3, by omega⟩
        · rintro ⟨h1, h2, h3, h4⟩
          refine ⟨h1, h2, h3, ?_⟩
          by_cases hq : a = i ∧ c = j
          · obtain ⟨rfl, rfl⟩ := hq; exact absurd h3 e
          · omega
      · have hnx : ∀ a' c', Sq n m i (j + 1) a' c' ↔ Sq n m i j a' c' ∨ a' = i ∧ c' = j := by
          intro a' c'
          unfold Sq
          constructor
          · rintro ⟨h1, h2, h3, h4⟩
            by_cases hq : a' = i ∧ c' = j
            · exact .inr hq
            · exact .inl ⟨h1, h2, h3, by omega⟩
          · rintro (⟨h1, h2, h3, h4⟩ | ⟨rfl, rfl⟩)
            · exact ⟨h1, h2, h3, by omega⟩
            · exact ⟨hi, hj, e, by omega⟩
        have hnew : (∀ a' c', Sq n m i j a' c' → cst n m i j < cst n m a' c') → Bst n m (Sq n m i (j + 1)) (i : Int) (j : Int) ((cst n m i j : Nat) : Int) := fun h =>
          .inr ⟨i, j, rfl, rfl, rfl, (hnx i j).2 (.inr ⟨rfl, rfl⟩), fun a' c' hs => by
            rcases (hnx a' c').1 hs with hs | ⟨rfl, rfl⟩
            · have := h a' c' hs; exact ⟨by omega, fun e => by omega⟩
            · exact ⟨Nat.le_refl _, fun _ => .inr ⟨rfl, Nat.le_refl _⟩⟩⟩
        have hpr := price_ev m hn hi hj e
        rcases hb with ⟨rfl, rfl, rfl, b4⟩ | ⟨a, c, rfl, rfl, rfl, b4, b5⟩
        · refine ⟨((i : Int), (j : Int), ((cst n m i j : Nat) : Int)), hnew fun a' c' h => absurd h (b4 a' c'), fun o ho => step o (Rl.t (by rw [sq_len]; simp; omega) (Rl.t (by first | omega | (simp only [decide_eq_true_eq, decide_eq_false_iff_not, Int.toNat_natCast, beq_iff_eq, bne_iff_ne, ne_eq, Int.not_lt, Int.not_le, ge_iff_le, gt_iff_lt, beq_eq_false_iff_ne, Nat.zero_add]; omega)) (Rl.at g1 (Rl.t (by first | omega | (simp only [decide_eq_true_eq, decide_eq_false_iff_not, Int.toNat_natCast, beq_iff_eq, bne_iff_ne, ne_eq, Int.not_lt, Int.not_le, ge_iff_le, gt_iff_lt, beq_eq_false_iff_ne, Nat.zero_add]; omega)) (Rl.at g2 (Rl.t e (Rl.f (by simp) ?_)))))))⟩
          simpa using ho
        · have hp2 := price_ev m hn b4.1 b4.2.1 b4.2.2.1
          by_cases hlt : cst n m i j < cst n m a c
          · refine ⟨((i : Int), (j : Int), ((cst n m i j : Nat) : Int)), hnew fun a' c' h => by have := (b5 a' c' h).1; omega, fun o ho => step o (Rl.t (by rw [sq_len]; simp; omega) (Rl.t (by first | omega | (simp only [decide_eq_true_eq, decide_eq_false_iff_not, Int.toNat_natCast, beq_iff_eq, bne_iff_ne, ne_eq, Int.not_lt, Int.not_le, ge_iff_le, gt_iff_lt, beq_eq_false_iff_ne, Nat.zero_add]; omega)) (Rl.at g1 (Rl.t (by first | omega | (simp only [decide_eq_true_eq, decide_eq_false_iff_not, Int.toNat_natCast, beq_iff_eq, bne_iff_ne, ne_eq, Int.not_lt, Int.not_le, ge_iff_le, gt_iff_lt, beq_eq_false_iff_ne, Nat.zero_add]; omega)) (Rl.at g2 (Rl.t e (Rl.t (by simp) (Rl.bind hpr (Rl.bind hp2 (Rl.t (decide_eq_true (by omega)) ?_))))))))))⟩
            simpa using ho
          · refine ⟨((a : Int), (c : Int), ((cst n m a c : Nat) : Int)), .inr ⟨a, c, rfl, rfl, rfl, (hnx a c).2 (.inl b4), fun a' c' hs => ?_⟩, fun o ho => step o (Rl.t (by rw [sq_len]; simp; omega) (Rl.t (by first | omega | (simp only [decide_eq_true_eq, decide_eq_false_iff_not, Int.toNat_natCast, beq_iff_eq, bne_iff_ne, ne_eq, Int.not_lt, Int.not_le, ge_iff_le, gt_iff_lt, beq_eq_false_iff_ne, Nat.zero_add]; omega)) (Rl.at g1 (Rl.t (by first | omega | (simp only [decide_eq_true_eq, decide_eq_false_iff_not, Int.toNat_natCast, beq_iff_eq, bne_iff_ne, ne_eq, Int.not_lt, Int.not_le, ge_iff_le, gt_iff_lt, beq_eq_false_iff_ne, Nat.zero_add]; omega)) (Rl.at g2 (Rl.t e (Rl.t (by simp) (Rl.bind hpr (Rl.bind hp2 (Rl.f (by simp; omega) ho)))))))))) ⟩
            rcases (hnx a' c').1 hs with hs | ⟨rfl, rfl⟩
            · exact b5 a' c' hs
            · exact ⟨by omega, fun _ => by have := hbef a c b4; omega⟩
  exact ⟨row', col', least', h1, h⟩
end
theorem Bst.uniq {n : Nat} {m : Nat → Nat → Bool} {S : Nat → Nat → Prop} {r c l r' c' l' : Int} (h : Bst n m S r c l) (h' : Bst n m S r' c' l') : r = r' ∧ c = c' ∧ l = l' := by
  rcases h with ⟨rfl, rfl, rfl, h4⟩ | ⟨a, b, rfl, rfl, rfl, h4, h5⟩ <;> rcases h' with ⟨rfl, rfl, rfl, k4⟩ | ⟨a', b', rfl, rfl, rfl, k4, k5⟩
  · exact ⟨rfl, rfl, rfl⟩
  · exact absurd k4 (h4 a' b')
  · exact absurd h4 (k4 a b)
  · have e1 := h5 a' b' k4
    have e2 := k5 a b h4
    have e : cst n m a b = cst n m a' b' := by omega
    have e3 := e1.2 e
    have e4 := e2.2 e.symm
    obtain ⟨rfl, rfl⟩ : a = a' ∧ b = b' := by omega
    exact ⟨rfl, rfl, rfl⟩
section
variable {n : Nat} (m : Nat → Nat → Bool) (hn : n ≤ 48)
include hn
theorem choose_ev : ∃ row col least, Bst n m (fun a c => a < n ∧ c < n ∧ m a c = true) row col least ∧ Rn (fun k => Fshuntref13_Choose k (sq n m)) (row, col, decide (least ≥ 0)) := by
  obtain ⟨o, ⟨row', col', least', h1, rfl⟩, h⟩ : ∃ o : Int × Int × Bool, (∃ row' col' least', Bst n m (Sq n m n 0) row' col' least' ∧ o = (row', col', decide (least' ≥ 0))) ∧ Rl (fun k q => Lshuntref13_Choose_0 k q (sq n m) 0 0 (decide ((-1 : Int) ≥ 0)) ((0 : Nat) : Int)) o := by
    refine loopI (σ := Int × Int × Int) n (fun k q i s => Lshuntref13_Choose_0 k q (sq n m) s.1 s.2.1 (decide (s.2.2 ≥ 0)) i) (fun i s => Bst n m (Sq n m i 0) s.1 s.2.1 s.2.2) _ ?_ ?_ n 0 (0, 0, -1) (by omega) (.inl ⟨rfl, rfl, rfl, fun a c h => ?_⟩)
    · rintro ⟨row, col, least⟩ hb
      refine ⟨_, ⟨row, col, least, hb, rfl⟩, Rl.up (f := fun k q => Lshuntref13_Choose_0 k q (sq n m) row col (decide (least ≥ 0)) n) (Rl.of 0 fun k q _ => ?_)⟩
      show Lshuntref13_Choose_0s k (Lshuntref13_Choose_0 k q) _ _ _ _ _ = _
      unfold Lshuntref13_Choose_0s
      exact if_neg (by rw [sq_len]; simp)
    · rintro i ⟨row, col, least⟩ hi hb
      obtain ⟨row', col', least', b1, b2⟩ := choose2 m hn i hi row col least hb
      refine .inr ⟨(row', col', least'), b1, fun o ho => Rl.up (f := fun k q => Lshuntref13_Choose_0 k q (sq n m) row col (decide (least ≥ 0)) i) ?_⟩
      show Rl (fun k q => Lshuntref13_Choose_0s k (Lshuntref13_Choose_0 k q) _ _ _ _ _) _
      unfold Lshuntref13_Choose_0s
      refine Rl.t (by rw [sq_len]; simp; omega) (Rl.bind b2.diag ?_)
      simp only
      rw [wrap_i64 (by omega)]
      exact ho
    · obtain ⟨_, _, _, h | ⟨_, h⟩⟩ := h <;> omega
  refine ⟨row', col', least', h1.congr m hn (fun a c => ?_), ?_⟩
  · unfold Sq
    exact ⟨fun h => ⟨h.1, h.2.1, h.2.2.1⟩, fun h => ⟨h.1, h.2.1, h.2.2, .inl h.1⟩⟩
  · refine Rn.up (f := fun k => Fshuntref13_Choose k (sq n m)) ?_
    show Rn (fun k => bshuntref13_Choose k (sq n m)) _
    unfold bshuntref13_Choose
    exact Rn.bind h.diag (Rn.pure _)
/-- The same place by both. -/
theorem pick_both : ∃ row col least, Bst n m (fun a c => a < n ∧ c < n ∧ m a c = true) row col least ∧ Rn (fun k => Fsparse_best k (pat n m)) (row, col, decide (least ≥ 0)) ∧ Rn (fun k => Fshuntref13_Choose k (sq n m)) (row, col, decide (least ≥ 0)) := by
  obtain ⟨r, c, l, h1, h2⟩ := best_ev m hn
  obtain ⟨r', c', l', k1, k2⟩ := choose_ev m hn
  obtain ⟨rfl, rfl, rfl⟩ := h1.uniq k1
  exact ⟨r, c, l, h1, h2, k2⟩
end
section
variable {n : Nat} (hn : n ≤ 48)
include hn
theorem orderT : ∀ (d : Nat) (m : Nat → Nat → Bool), neR n m ≤ d → ∀ Rs Cs : List Int, Rs.length + d ≤ 100 → Cs.length = Rs.length →
    ∃ R C : List Int, (R.length ≤ 100 ∧ C.length ≤ 100) ∧ ∃ row col least : Int, Rn (fun k => Fshuntref13_Choose k (sq n m)) (row, col, decide (least ≥ 0)) ∧ Rl (fun k q => Lshuntref13_Order_0 k q Rs.length Cs.length (sq n m) row col (decide (least ≥ 0)) Rs Cs) (R.length, C.length, R, C) ∧
      ∀ hd, (hd = .inl (pat n m, Rs.length, Cs.length, Rs, Cs) ∨ hd = .inr (n, Rs.length, Cs.length, pat n m, Rs, Cs)) →
        ∃ o, (o = .inl (R.length, C.length, 0, R, C) ∨ ∃ p', o = .inr (R.length, C.length, 0, p', R, C)) ∧ Rl (fun k q => Lsparse_Order_0 k q hd) o := by
  intro d
  induction d using Nat.strongRecOn with
  | ind d ih =>
    intro m hd Rs Cs hl hc
    obtain ⟨row, col, least, b1, b2, b3⟩ := pick_both m hn
    have ht : List.take n (pat n m) = pat n m := List.take_of_length_le (by rw [pat_len]; exact Nat.le_refl _)
    rcases b1 with ⟨rfl, rfl, rfl, b4⟩ | ⟨a, c, rfl, rfl, rfl, ⟨b4, b5, b6⟩, b7⟩
    · refine ⟨Rs, Cs, ⟨by omega, by omega⟩, _, _, _, b3, ?_, ?_⟩
      · refine Rl.up (f := fun k q => Lshuntref13_Order_0 k q Rs.length Cs.length (sq n m) 0 0 (decide ((-1 : Int) ≥ 0)) Rs Cs) ?_
        show Rl (fun k q => Lshuntref13_Order_0s k (Lshuntref13_Order_0 k q) _ _ _ _ _ _ _ _) _
        unfold Lshuntref13_Order_0s
        exact Rl.f (by simp) (Rl.pure _)
      · intro hd hh
        rcases hh with rfl | rfl
        · refine ⟨_, .inl rfl, Rl.up (f := fun k q => Lsparse_Order_0 k q (.inl (pat n m, Rs.length, Cs.length, Rs, Cs))) ?_⟩
          show Rl (fun k q => Lsparse_Order_0s k (Lsparse_Order_0 k q) _) _
          unfold Lsparse_Order_0s
          simp only [eitherK]
          exact Rl.bind b2 (Rl.t (by simp) (Rl.pure _))
        · refine ⟨_, .inr ⟨pat n m, rfl⟩, Rl.up (f := fun k q => Lsparse_Order_0 k q (.inr (n, Rs.length, Cs.length, pat n m, Rs, Cs))) ?_⟩
          show Rl (fun k q => Lsparse_Order_0s k (Lsparse_Order_0 k q) _) _
          unfold Lsparse_Order_0s
          simp only [eitherK, ht]
          exact Rl.t (g := fun _ _ => none) (by rw [pat_len]; omega) (Rl.bind b2 (Rl.t (by simp) (Rl.pure _)))
    · have hlt := ne_less b4 b5 b6
      obtain ⟨R, C, hRC, row', col', least', q1, q2, q3⟩ := ih (d - 1) (by omega) (el m a c) (by omega) (Rs ++ [(a : Int)]) (Cs ++ [(c : Int)]) (by simp; omega) (by simp [hc])
      have e1 : (List.take 1 [(a : Int)]).length = 1 := rfl
      have e2 : (List.take 1 [(c : Int)]).length = 1 := rfl
      have e3 : List.take 1 [(a : Int)] = [(a : Int)] := rfl
      have e4 : List.take 1 [(c : Int)] = [(c : Int)] := rfl
      have he := elimT_ev m hn b4 b5
      have hr := rest_ev m hn b4 b5
      simp only [List.length_append, List.length_singleton] at q2 q3
      refine ⟨R, C, hRC, _, _, _, b3, ?_, ?_⟩
      · refine Rl.up (f := fun k q => Lshuntref13_Order_0 k q Rs.length Cs.length (sq n m) a c (decide (((cst n m a c : Nat) : Int) ≥ 0)) Rs Cs) ?_
        show Rl (fun k q => Lshuntref13_Order_0s k (Lshuntref13_Order_0 k q) _ _ _ _ _ _ _ _) _
        unfold Lshuntref13_Order_0s
        refine Rl.t (by simp) (Rl.t (g := fun _ _ => none) (Nat.le_refl _) (Rl.t (g := fun _ _ => none) (by simp only [e1]; omega) (Rl.t (g := fun _ _ => none) (Nat.le_refl _) (Rl.t (g := fun _ _ => none) (by simp only [e2]; omega) (Rl.bind hr (Rl.bind q1 ?_))))))
        simp only [e3, e4, List.take_length, List.length_singleton]
        exact q2
      · intro hd hh
        obtain ⟨o, o1, o2⟩ := q3 _ (.inr rfl)
        refine ⟨o, o1, ?_⟩
        rcases hh with rfl | rfl
        · refine Rl.up (f := fun k q => Lsparse_Order_0 k q (.inl (pat n m, Rs.length, Cs.length, Rs, Cs))) ?_
          show Rl (fun k q => Lsparse_Order_0s k (Lsparse_Order_0 k q) _) _
          unfold Lsparse_Order_0s
          simp only [eitherK]
          refine Rl.bind b2 (Rl.f (by simp) (Rl.t (g := fun _ _ => none) (Nat.le_refl _) (Rl.t (g := fun _ _ => none) (by simp only [e1]; omega) (Rl.t (g := fun _ _ => none) (Nat.le_refl _) (Rl.t (g := fun _ _ => none) (by simp only [e2]; omega) (Rl.bind he ?_))))))
          simp only [e3, e4, List.take_length, List.length_singleton]
          exact o2
        · refine Rl.up (f := fun k q => Lsparse_Order_0 k q (.inr (n, Rs.length, Cs.length, pat n m, Rs, Cs))) ?_
          show Rl (fun k q => Lsparse_Order_0s k (Lsparse_Order_0 k q) _) _
          unfold Lsparse_Order_0s
          simp only [eitherK, ht]
          refine Rl.t (g := fun _ _ => none) (by rw [pat_len]; omega) (Rl.bind b2 (Rl.f (by simp) (Rl.t (g := fun _ _ => none) (Nat.le_refl _) (Rl.t (g := fun _ _ => none) (by simp only [e1]; omega) (Rl.t (g := fun _ _ => none) (Nat.le_refl _) (Rl.t (g := fun _ _ => none) (by simp only [e2]; omega) (Rl.t (g := fun _ _ => none) (by rw [pat_len]; omega) (Rl.bind he ?_))))))))
          simp only [e3, e4, List.take_length, List.length_singleton]
          exact o2
end
section
variable {n : Nat} (hn : n ≤ 48)
include hn
theorem rpCheck_ev (m : Nat → Nat → Bool) : Rn (fun k => Fshuntref13_Check k (pat n m)) 0 := by
  have := rCheck_ev (pat n m) (pat_sm m hn)
  rwa [if_pos (pat_ok m hn)] at this
theorem Order_both (m : Nat → Nat → Bool) : ∃ R C : List Int, Rn (fun k => Fsparse_Order k (pat n m)) (R, C, 0) ∧ Rn (fun k => Fshuntref13_Order k (pat n m)) (R, C, 0) ∧ R.length ≤ 1000 ∧ C.length ≤ 1000 := by
  have hne := ne_le n m
  obtain ⟨R, C, hRC, row, col, least, q1, q2, q3⟩ := orderT hn (neR n m) m (Nat.le_refl _) [] [] (by simp; omega) rfl
  obtain ⟨o, o1, o2⟩ := q3 _ (.inl rfl)
  refine ⟨R, C, ?_, ?_, by omega, by omega⟩
  · refine Rn.up (f := fun k => Fsparse_Order k (pat n m)) ?_
    show Rn (fun k => bsparse_Order k (pat n m)) _
    unfold bsparse_Order
    refine Rn.bind (pCheck_ev hn m) (Rn.f (by simp) (Rn.bind o2.diag ?_))
    rcases o1 with rfl | ⟨p', rfl⟩
    · simp only [eitherK]
      exact Rn.t (g := fun _ => none) (by omega) (Rn.t (g := fun _ => none) (by omega) (Rn.const (by simp)))
    · simp only [eitherK]
      exact Rn.t (g := fun _ => none) (by omega) (Rn.t (g := fun _ => none) (by omega) (Rn.const (by simp)))
  · refine Rn.up (f := fun k => Fshuntref13_Order k (pat n m)) ?_
    show Rn (fun k => bshuntref13_Order k (pat n m)) _
    unfold bshuntref13_Order
    exact Rn.bind (rpCheck_ev hn m) (Rn.f (by simp) (Rn.bind (full_ev m hn) (Rn.bind q1 (Rn.bind q2.diag (Rn.t (g := fun _ => none) (by simp only; omega) (Rn.t (g := fun _ => none) (by simp only; omega) (Rn.const (by simp))))))))
theorem Best_both (m : Nat → Nat → Bool) : ∃ o, Rn (fun k => Fsparse_Best k (pat n m)) o ∧ Rn (fun k => Fshuntref13_Best k (pat n m)) o := by
  obtain ⟨row, col, least, b1, b2, b3⟩ := pick_both m hn
  refine ⟨(row, col, decide (least ≥ 0), 0), ?_, ?_⟩
  · refine Rn.up (f := fun k => Fsparse_Best k (pat n m)) ?_
    show Rn (fun k => bsparse_Best k (pat n m)) _
    unfold bsparse_Best
    exact Rn.bind (pCheck_ev hn m) (Rn.f (by simp) (Rn.bind b2 (Rn.pure _)))
  · refine Rn.up (f := fun k => Fshuntref13_Best k (pat n m)) ?_
    show Rn (fun k => bshuntref13_Best k (pat n m)) _
    unfold bshuntref13_Best
    exact Rn.bind (rpCheck_ev hn m) (Rn.f (by simp) (Rn.bind (full_ev m hn) (Rn.bind b3 (Rn.pure _))))
end
section
variable {n : Nat} (hn : n ≤ 48)
include hn
theorem Cost_both (m : Nat → Nat → Bool) (row col : Int) : ∃ o, Rn (fun k => Fsparse_Cost k (pat n m) row col) o ∧ Rn (fun k => Fshuntref13_Cost k (pat n m) row col) o := by
  have u1 : ∀ o, Rn (fun k => bsparse_Cost k (pat n m) row col) o → Rn (fun k => Fsparse_Cost k (pat n m) row col) o := fun o h => Rn.up (f := fun k => Fsparse_Cost k (pat n m) row col) h
  have u2 : ∀ o, Rn (fun k => bshuntref13_Cost k (pat n m) row col) o → Rn (fun k => Fshuntref13_Cost k (pat n m) row col) o := fun o h => Rn.up (f := fun k => Fshuntref13_Cost k (pat n m) row col) h
  unfold bsparse_Cost at u1
  unfold bshuntref13_Cost at u2
  have ia := in_ev m hn row col
  have ib := has_ev m hn row col
  by_cases h : inB n m row col = true
  · rw [h] at ib
    have h' := h
    unfold inB at h'
    rw [Bool.and_eq_true, decide_eq_true_eq] at h'
    obtain ⟨⟨k1, k2, k3, k4⟩, k5⟩ := h'
    obtain ⟨r, rfl⟩ : ∃ r' : Nat, row = r' := ⟨row.toNat, by omega⟩
    obtain ⟨c, rfl⟩ : ∃ c' : Nat, col = c' := ⟨col.toNat, by omega⟩
    have hr : r < n := by omega
    have hc : c < n := by omega
    exact ⟨_, Cost_ev hn m hr hc k5, u2 _ (Rn.bind (rpCheck_ev hn m) (Rn.f (by simp) (Rn.bind (full_ev m hn) (Rn.bind ib (Rn.f (by simp) (Rn.bind (price_ev m hn hr hc k5) (Rn.pure _)))))))⟩
  · rw [Bool.not_eq_true] at h
    rw [h] at ia ib
    exact ⟨(0, 1), u1 _ (Rn.bind (pCheck_ev hn m) (Rn.f (by simp) (Rn.bind ia (Rn.t (by simp) (Rn.pure _))))), u2 _ (Rn.bind (rpCheck_ev hn m) (Rn.f (by simp) (Rn.bind (full_ev m hn) (Rn.bind ib (Rn.t (by simp) (Rn.pure _))))))⟩
end
theorem Copy_ev (p : List (List Int)) (hp : p.length ≤ 1000) (hr : ∀ r ∈ p, r.length ≤ 1000) : Rn (fun k => Fshuntref13_Copy k p) p := by
  obtain ⟨o, rfl, h⟩ : ∃ o, o = (p.length, p) ∧ Rl (fun k q => Lshuntref13_Copy_0 k q p 0 ((0 : Nat) : Int) []) o := by
    refine loopI (σ := Nat × List (List Int)) p.length (fun k q i s => Lshuntref13_Copy_0 k q p s.1 i s.2) (fun i s => s = (i, p.take i)) _ ?_ ?_ p.length 0 (0, []) (by omega) (by simp)
    · rintro _ rfl
      refine ⟨_, rfl, Rl.up (f := fun k q => Lshuntref13_Copy_0 k q p p.length p.length (p.take p.length)) (Rl.of 0 fun k q _ => ?_)⟩
      show Lshuntref13_Copy_0s k (Lshuntref13_Copy_0 k q) _ _ _ _ = _
      unfold Lshuntref13_Copy_0s
      rw [List.take_length]
      exact if_neg (by first | omega | (simp only [decide_eq_true_eq, decide_eq_false_iff_not, Int.toNat_natCast, beq_iff_eq, bne_iff_ne, ne_eq, Int.not_lt, Int.not_le, ge_iff_le, gt_iff_lt, beq_eq_false_iff_ne, Nat.zero_add]; omega))
    · rintro i _ hi rfl
      have g : p[Int.toNat (i : Int)]? = some (p.getD i []) := by rw [toNat_c]; exact getD_some [] hi
      have hx := hr _ (List.mem_of_getElem? g)
      have hts : p.take (i + 1) = p.take i ++ [p.getD i []] := by
        rw [toNat_c] at g
        rw [List.take_add_one, g]; rfl
      generalize p.getD i [] = x at g hx hts
      have hl : (p.take i).length = i := by rw [List.length_take]; omega
      refine .inr ⟨_, rfl, fun o ho => Rl.up (f := fun k q => Lshuntref13_Copy_0 k q p i i (p.take i)) ?_⟩
      rw [hts] at ho
      have hv : List.take (0 + x.length) (List.take 0 [] ++ x) = x := by simp
      have h1 : (List.take 1 [x]).length = 1 := rfl
      have h2 : List.take 1 [x] = [x] := rfl
      have h3 : List.take i (p.take i) = p.take i := by rw [List.take_take, Nat.min_self]
      show Rl (fun k q => Lshuntref13_Copy_0s k (Lshuntref13_Copy_0 k q) _ _ _ _) _
      unfold Lshuntref13_Copy_0s
      rw [wrap_i64 (x := (i : Int) + 1) (by omega)]
      refine Rl.t (by first | omega | (simp only [decide_eq_true_eq, decide_eq_false_iff_not, Int.toNat_natCast, beq_iff_eq, bne_iff_ne, ne_eq, Int.not_lt, Int.not_le, ge_iff_le, gt_iff_lt, beq_eq_false_iff_ne, Nat.zero_add]; omega)) (Rl.t (by first | omega | (simp only [decide_eq_true_eq, decide_eq_false_iff_not, Int.toNat_natCast, beq_iff_eq, bne_iff_ne, ne_eq, Int.not_lt, Int.not_le, ge_iff_le, gt_iff_lt, beq_eq_false_iff_ne, Nat.zero_add]; omega)) (Rl.at g ?_))
      simp only [hv, h1, h2, h3, List.length_singleton]
      exact Rl.t (g := fun _ _ => none) (by omega) (Rl.t (g := fun _ _ => none) (by simp) (Rl.t (g := fun _ _ => none) (by omega) (Rl.t (g := fun _ _ => none) (by omega) ho)))
  refine Rn.up (f := fun k => Fshuntref13_Copy k p) ?_
  show Rn (fun k => bshuntref13_Copy k p) _
  unfold bshuntref13_Copy
  exact Rn.bind h.diag (Rn.t (g := fun _ => none) (by simp) (Rn.const (by simp)))
theorem thin_nextT (i : Nat) (f : Nat → Bool) : thin (i + 1) f = thin i f ++ if f i = true then [(i : Int)] else [] := by
  unfold thin
  rw [List.range_succ, List.filter_append, List.map_append]
  cases h : f i <;> simp [h]
section
variable {n : Nat} (m : Nat → Nat → Bool) (hn : n ≤ 48)
include hn
theorem thin2 (i : Nat) (hi : i < n) (P : Nat) (ps : List (List Int)) : Rl (fun k q => Lshuntref13_Thin_2 k q (sq n m) P i 0 ((0 : Nat) : Int) ps []) (sq n m, P, (i : Int), (thin n (m i)).length, ps, thin n (m i)) := by
  have g1 : (sq n m)[Int.toNat (i : Int)]? = some ((List.range n).map (m i)) := by rw [toNat_c]; exact sq_get n m hi
  obtain ⟨o, rfl, h⟩ : ∃ o, o = (sq n m, P, (i : Int), (thin n (m i)).length, ps, thin n (m i)) ∧ Rl (fun k q => Lshuntref13_Thin_2 k q (sq n m) P i 0 ((0 : Nat) : Int) ps []) o := by
    refine loopI (σ := Nat × List Int) n (fun k q j s => Lshuntref13_Thin_2 k q (sq n m) P i s.1 j ps s.2) (fun j s => s = ((thin j (m i)).length, thin j (m i))) _ ?_ ?_ n 0 (0, []) (by omega) rfl
    · rintro _ rfl
      refine ⟨_, rfl, Rl.up (f := fun k q => Lshuntref13_Thin_2 k q (sq n m) P i (thin n (m i)).length n ps (thin n (m i))) ?_⟩
      show Rl (fun k q => Lshuntref13_Thin_2s k (Lshuntref13_Thin_2 k q) _ _ _ _ _ _ _) _
      unfold Lshuntref13_Thin_2s
      exact Rl.t (by first | omega | (simp only [decide_eq_true_eq, decide_eq_false_iff_not, Int.toNat_natCast, beq_iff_eq, bne_iff_ne, ne_eq, Int.not_lt, Int.not_le, ge_iff_le, gt_iff_lt, beq_eq_false_iff_ne, Nat.zero_add]; omega)) (Rl.at g1 (Rl.f (by simp) (Rl.pure _)))
    · rintro j _ hj rfl
      have g2 : ((List.range n).map (m i))[Int.toNat (j : Int)]? = some (m i j) := by rw [toNat_c]; exact sqr_get n _ hj
      have hl := thin_le j (m i)
      refine .inr ⟨_, rfl, fun o ho => Rl.up (f := fun k q => Lshuntref13_Thin_2 k q (sq n m) P i (thin j (m i)).length j ps (thin j (m i))) ?_⟩
      rw [thin_nextT] at ho
      generalize thin j (m i) = x at *
      have h1 : (List.take 1 [(j : Int)]).length = 1 := rfl
      have h2 : List.take 1 [(j : Int)] = [(j : Int)] := rfl
      show Rl (fun k q => Lshuntref13_Thin_2s k (Lshuntref13_Thin_2 k q) _ _ _ _ _ _ _) _
      unfold Lshuntref13_Thin_2s
      rw [wrap_i64 (x := (j : Int) + 1) (by omega)]
      refine Rl.t (by first | omega | (simp only [decide_eq_true_eq, decide_eq_false_iff_not, Int.toNat_natCast, beq_iff_eq, bne_iff_ne, ne_eq, Int.not_lt, Int.not_le, ge_iff_le, gt_iff_lt, beq_eq_false_iff_ne, Nat.zero_add]; omega)) (Rl.at g1 (Rl.t (by simp; omega) (Rl.t (by first | omega | (simp only [decide_eq_true_eq, decide_eq_false_iff_not, Int.toNat_natCast, beq_iff_eq, bne_iff_ne, ne_eq, Int.not_lt, Int.not_le, ge_iff_le, gt_iff_lt, beq_eq_false_iff_ne, Nat.zero_add]; omega)) (Rl.at g1 (Rl.t (by first | omega | (simp only [decide_eq_true_eq, decide_eq_false_iff_not, Int.toNat_natCast, beq_iff_eq, bne_iff_ne, ne_eq, Int.not_lt, Int.not_le, ge_iff_le, gt_iff_lt, beq_eq_false_iff_ne, Nat.zero_add]; omega)) (Rl.at g2 ?_))))))
      by_cases e : m i j = true
      · rw [if_pos e, List.length_append, List.length_singleton] at ho
        refine Rl.t e (Rl.t (g := fun _ _ => none) (Nat.le_refl _) (Rl.t (g := fun _ _ => none) (by rw [h1]; omega) ?_))
        rw [h1, h2, List.take_length]
        exact ho
      · rw [if_neg e, List.append_nil] at ho
        exact Rl.f e ho
  exact h
end
section
variable {n : Nat} (m : Nat → Nat → Bool) (hn : n ≤ 48)
include hn
theorem Thin_ev : Rn (fun k => Fshuntref13_Thin k (sq n m)) (pat n m) := by
  obtain ⟨o, rfl, h⟩ : ∃ o, o = (n, pat n m) ∧ Rl (fun k q => Lshuntref13_Thin_0 k q (sq n m) 0 ((0 : Nat) : Int) []) o := by
    refine loopI (σ := Nat × List (List Int)) n (fun k q i s => Lshuntref13_Thin_0 k q (sq n m) s.1 i s.2) (fun i s => s = (i, (List.range i).map fun a => thin n (m a))) _ ?_ ?_ n 0 (0, []) (by omega) rfl
    · rintro _ rfl
      refine ⟨_, rfl, Rl.up (f := fun k q => Lshuntref13_Thin_0 k q (sq n m) n n (pat n m)) (Rl.of 0 fun k q _ => ?_)⟩
      show Lshuntref13_Thin_0s k (Lshuntref13_Thin_0 k q) _ _ _ _ = _
      unfold Lshuntref13_Thin_0s
      exact if_neg (by rw [sq_len]; simp)
    · rintro i _ hi rfl
      have hl := thin_le n (m i)
      refine .inr ⟨_, rfl, fun o ho => Rl.up (f := fun k q => Lshuntref13_Thin_0 k q (sq n m) i i ((List.range i).map fun a => thin n (m a))) ?_⟩
      rw [List.range_succ, List.map_append, List.map_singleton] at ho
      have h2 := (thin2 m hn i hi i ((List.range i).map fun a => thin n (m a))).diag
      generalize hP : ((List.range i).map fun a => thin n (m a)) = P at *
      have hPl : P.length = i := by rw [← hP]; simp
      generalize thin n (m i) = x at *
      have e1 : (List.take 1 [x]).length = 1 := rfl
      have e2 : List.take 1 [x] = [x] := rfl
      have e3 : List.take i P = P := List.take_of_length_le (by omega)
      show Rl (fun k q => Lshuntref13_Thin_0s k (Lshuntref13_Thin_0 k q) _ _ _ _) _
      unfold Lshuntref13_Thin_0s
      refine Rl.t (by rw [sq_len]; simp; omega) (Rl.bind h2 ?_)
      simp only [List.take_length, e1, e2, e3, List.length_singleton]
      rw [wrap_i64 (x := (i : Int) + 1) (by omega)]
      exact Rl.t (g := fun _ _ => none) (by omega) (Rl.t (g := fun _ _ => none) (by omega) (Rl.t (g := fun _ _ => none) (by omega) ho))
  refine Rn.up (f := fun k => Fshuntref13_Thin k (sq n m)) ?_
  show Rn (fun k => bshuntref13_Thin k (sq n m)) _
  unfold bshuntref13_Thin
  exact Rn.bind h.diag (Rn.t (g := fun _ => none) (by simp only [pat_len]; omega) (Rn.const (by simp only; rw [List.take_of_length_le (by rw [pat_len]; exact Nat.le_refl _)])))
end
section
variable {n : Nat} (hn : n ≤ 48)
include hn
theorem Eliminate_both (m : Nat → Nat → Bool) (row col : Int) :
    (Rn (fun k => Fsparse_Eliminate k (pat n m) row col) (.inl (0, 1, [])) ∧ Rn (fun k => Fshuntref13_Eliminate k (pat n m) row col) ([], 1)) ∨
    ∃ m', Rn (fun k => Fsparse_Eliminate k (pat n m) row col) (.inr (n, 0, pat n m')) ∧ Rn (fun k => Fshuntref13_Eliminate k (pat n m) row col) (pat n m', 0) := by
  have u1 : ∀ o, Rn (fun k => bsparse_Eliminate k (pat n m) row col) o → Rn (fun k => Fsparse_Eliminate k (pat n m) row col) o := fun o h => Rn.up (f := fun k => Fsparse_Eliminate k (pat n m) row col) h
  have u2 : ∀ o, Rn (fun k => bshuntref13_Eliminate k (pat n m) row col) o → Rn (fun k => Fshuntref13_Eliminate k (pat n m) row col) o := fun o h => Rn.up (f := fun k => Fshuntref13_Eliminate k (pat n m) row col) h
  unfold bsparse_Eliminate at u1
  unfold bshuntref13_Eliminate at u2
  have ia := in_ev m hn row col
  have ib := has_ev m hn row col
  by_cases h : inB n m row col = true
  · rw [h] at ia ib
    have h' := h
    unfold inB at h'
    rw [Bool.and_eq_true, decide_eq_true_eq] at h'
    obtain ⟨⟨k1, k2, k3, k4⟩, k5⟩ := h'
    obtain ⟨r, rfl⟩ : ∃ r' : Nat, row = r' := ⟨row.toNat, by omega⟩
    obtain ⟨c, rfl⟩ : ∃ c' : Nat, col = c' := ⟨col.toNat, by omega⟩
    have hr : r < n := by omega
    have hc : c < n := by omega
    exact .inr ⟨el m r c, u1 _ (Rn.bind (pCheck_ev hn m) (Rn.f (by simp) (Rn.bind ia (Rn.f (by simp) (Rn.bind (elimT_ev m hn hr hc) (Rn.pure _)))))),
      u2 _ (Rn.bind (rpCheck_ev hn m) (Rn.f (by simp) (Rn.bind (full_ev m hn) (Rn.bind ib (Rn.f (by simp) (Rn.bind (rest_ev m hn hr hc) (Rn.bind (Thin_ev (el m r c) hn) (Rn.pure _))))))))⟩
  · rw [Bool.not_eq_true] at h
    rw [h] at ia ib
    exact .inl ⟨u1 _ (Rn.bind (pCheck_ev hn m) (Rn.f (by simp) (Rn.bind ia (Rn.t (by simp) (Rn.pure _))))), u2 _ (Rn.bind (rpCheck_ev hn m) (Rn.f (by simp) (Rn.bind (full_ev m hn) (Rn.bind ib (Rn.t (by simp) (Rn.pure _))))))⟩
end
theorem wideT_ev (p : List (List Int)) (hb : Sm p) : ∃ b, Rn (fun k => Fshuntlaw13_wide k p) b ∧ (b = false → p.length ≤ 61 ∧ ∀ r ∈ p, r.length ≤ 60) := by
  obtain ⟨o, a1, a2⟩ : ∃ o, Rl (fun k n => Lshuntlaw13_wide_0 k n p p.length (0 : Nat)) o ∧
      ((∀ j, 0 ≤ j → j < p.length → (j ≤ 60 ∧ (p.getD j []).length ≤ 60)) ∧ o = .inr () ∨ (¬ ∀ j, 0 ≤ j → j < p.length → (j ≤ 60 ∧ (p.getD j []).length ≤ 60)) ∧ ∃ a : Bool, a = true ∧ o = .inl a) := by
    refine scan p.length 0 (fun k n i => Lshuntlaw13_wide_0 k n p p.length i) () (fun a => a = true) _ ?_ ?_ ?_ p.length 0 (by omega) (by omega)
    · refine Rl.up (f := fun k n => Lshuntlaw13_wide_0 k n p p.length p.length) (Rl.of 0 fun k n _ => ?_)
      show Lshuntlaw13_wide_0s k (Lshuntlaw13_wide_0 k n) _ _ _ = _
      unfold Lshuntlaw13_wide_0s
      exact if_neg (by first | omega | (simp only [decide_eq_true_eq, decide_eq_false_iff_not, Int.toNat_natCast, beq_iff_eq, bne_iff_ne, ne_eq, Int.not_lt, Int.not_le, ge_iff_le, gt_iff_lt, beq_eq_false_iff_ne, Nat.zero_add]; omega))
    · intro i hs hi hok o ho
      have hl := hb.1
      obtain ⟨h1, h2⟩ := hok
      refine Rl.up (f := fun k n => Lshuntlaw13_wide_0 k n p p.length i) ?_
      show Rl (fun k n => Lshuntlaw13_wide_0s k (Lshuntlaw13_wide_0 k n) _ _ _) _
      unfold Lshuntlaw13_wide_0s
      refine Rl.t (by first | omega | (simp only [decide_eq_true_eq, decide_eq_false_iff_not, Int.toNat_natCast, beq_iff_eq, bne_iff_ne, ne_eq, Int.not_lt, Int.not_le, ge_iff_le, gt_iff_lt, beq_eq_false_iff_ne, Nat.zero_add]; omega)) (Rl.t (by first | omega | (simp only [decide_eq_true_eq, decide_eq_false_iff_not, Int.toNat_natCast, beq_iff_eq, bne_iff_ne, ne_eq, Int.not_lt, Int.not_le, ge_iff_le, gt_iff_lt, beq_eq_false_iff_ne, Nat.zero_add]; omega)) (Rl.t (by first | omega | (simp only [decide_eq_true_eq, decide_eq_false_iff_not, Int.toNat_natCast, beq_iff_eq, bne_iff_ne, ne_eq, Int.not_lt, Int.not_le, ge_iff_le, gt_iff_lt, beq_eq_false_iff_ne, Nat.zero_add]; omega)) (Rl.at (by rw [Int.toNat_natCast]; exact getD_some [] hi) (Rl.f (by first | omega | (simp only [decide_eq_true_eq, decide_eq_false_iff_not, Int.toNat_natCast, beq_iff_eq, bne_iff_ne, ne_eq, Int.not_lt, Int.not_le, ge_iff_le, gt_iff_lt, beq_eq_false_iff_ne, Nat.zero_add]; omega)) ?_))))
      rw [wrap_i64 (by omega)]
      exact ho
    · intro i hs hi hok
      refine ⟨true, rfl, Rl.up (f := fun k n => Lshuntlaw13_wide_0 k n p p.length i) ?_⟩
      show Rl (fun k n => Lshuntlaw13_wide_0s k (Lshuntlaw13_wide_0 k n) _ _ _) _
      unfold Lshuntlaw13_wide_0s
      refine Rl.t (by first | omega | (simp only [decide_eq_true_eq, decide_eq_false_iff_not, Int.toNat_natCast, beq_iff_eq, bne_iff_ne, ne_eq, Int.not_lt, Int.not_le, ge_iff_le, gt_iff_lt, beq_eq_false_iff_ne, Nat.zero_add]; omega)) ?_
      by_cases h1 : 60 < i
      · exact Rl.f (by first | omega | (simp only [decide_eq_true_eq, decide_eq_false_iff_not, Int.toNat_natCast, beq_iff_eq, bne_iff_ne, ne_eq, Int.not_lt, Int.not_le, ge_iff_le, gt_iff_lt, beq_eq_false_iff_ne, Nat.zero_add]; omega)) (Rl.pure _)
      have h2 : 60 < (p.getD i []).length := by by_cases h2 : (p.getD i []).length ≤ 60; exact absurd ⟨by omega, h2⟩ hok; omega
      exact Rl.t (by first | omega | (simp only [decide_eq_true_eq, decide_eq_false_iff_not, Int.toNat_natCast, beq_iff_eq, bne_iff_ne, ne_eq, Int.not_lt, Int.not_le, ge_iff_le, gt_iff_lt, beq_eq_false_iff_ne, Nat.zero_add]; omega)) (Rl.t (by first | omega | (simp only [decide_eq_true_eq, decide_eq_false_iff_not, Int.toNat_natCast, beq_iff_eq, bne_iff_ne, ne_eq, Int.not_lt, Int.not_le, ge_iff_le, gt_iff_lt, beq_eq_false_iff_ne, Nat.zero_add]; omega)) (Rl.at (by rw [Int.toNat_natCast]; exact getD_some [] hi) (Rl.t (by first | omega | (simp only [decide_eq_true_eq, decide_eq_false_iff_not, Int.toNat_natCast, beq_iff_eq, bne_iff_ne, ne_eq, Int.not_lt, Int.not_le, ge_iff_le, gt_iff_lt, beq_eq_false_iff_ne, Nat.zero_add]; omega)) (Rl.pure _))))
  have up : ∀ b, Rn (fun k => bshuntlaw13_wide k p) b → Rn (fun k => Fshuntlaw13_wide k p) b := fun b h => Rn.up (f := fun k => Fshuntlaw13_wide k p) h
  unfold bshuntlaw13_wide at up
  rcases a2 with ⟨a2, rfl⟩ | ⟨a2, a, rfl, rfl⟩
  · refine ⟨_, up _ (Rn.bind a1.diag (Rn.pure _)), fun _ => ⟨?_, fun r hr => ?_⟩⟩
    · by_cases h : p.length = 0
      · omega
      · have := (a2 (p.length - 1) (by omega) (by omega)).1; omega
    · obtain ⟨i, hi, rfl⟩ := List.mem_iff_getElem.1 hr
      have := (a2 i (by omega) hi).2
      rwa [List.getD_eq_getElem?_getD, List.getElem?_eq_getElem hi] at this
  · exact ⟨_, up _ (Rn.bind a1.diag (Rn.pure _)), fun h => by cases h⟩
theorem Ints_same (a : List Int) (h : a.length ≤ 1000000) : Rn (fun k => Fshuntref09_Ints k a a) true := by
  obtain ⟨o, rfl, h⟩ : ∃ o, o = .inr () ∧ Rl (fun k q => Lshuntref09_Ints_0 k q a a ((0 : Nat) : Int)) o := by
    refine loopI (σ := Unit) a.length (fun k q i _ => Lshuntref09_Ints_0 k q a a i) (fun _ _ => True) _ ?_ ?_ a.length 0 () (by omega) trivial
    · rintro _ _
      refine ⟨_, rfl, Rl.up (f := fun k q => Lshuntref09_Ints_0 k q a a a.length) (Rl.of 0 fun k q _ => ?_)⟩
      show Lshuntref09_Ints_0s k (Lshuntref09_Ints_0 k q) _ _ _ = _
      unfold Lshuntref09_Ints_0s
      exact if_neg (by first | omega | (simp only [decide_eq_true_eq, decide_eq_false_iff_not, Int.toNat_natCast, beq_iff_eq, bne_iff_ne, ne_eq, Int.not_lt, Int.not_le, ge_iff_le, gt_iff_lt, beq_eq_false_iff_ne, Nat.zero_add]; omega))
    · rintro i _ hi _
      have g := getD_some (l := a) (0 : Int) hi
      refine .inr ⟨(), trivial, fun o ho => Rl.up (f := fun k q => Lshuntref09_Ints_0 k q a a i) ?_⟩
      show Rl (fun k q => Lshuntref09_Ints_0s k (Lshuntref09_Ints_0 k q) _ _ _) _
      unfold Lshuntref09_Ints_0s
      rw [toNat_c, wrap_i64 (x := (i : Int) + 1) (by omega)]
      exact Rl.t (by first | omega | (simp only [decide_eq_true_eq, decide_eq_false_iff_not, Int.toNat_natCast, beq_iff_eq, bne_iff_ne, ne_eq, Int.not_lt, Int.not_le, ge_iff_le, gt_iff_lt, beq_eq_false_iff_ne, Nat.zero_add]; omega)) (Rl.t (by first | omega | (simp only [decide_eq_true_eq, decide_eq_false_iff_not, Int.toNat_natCast, beq_iff_eq, bne_iff_ne, ne_eq, Int.not_lt, Int.not_le, ge_iff_le, gt_iff_lt, beq_eq_false_iff_ne, Nat.zero_add]; omega)) (Rl.at g (Rl.t (by first | omega | (simp only [decide_eq_true_eq, decide_eq_false_iff_not, Int.toNat_natCast, beq_iff_eq, bne_iff_ne, ne_eq, Int.not_lt, Int.not_le, ge_iff_le, gt_iff_lt, beq_eq_false_iff_ne, Nat.zero_add]; omega)) (Rl.at g (Rl.f (by simp) ho)))))
  refine Rn.up (f := fun k => Fshuntref09_Ints k a a) ?_
  show Rn (fun k => bshuntref09_Ints k a a) _
  unfold bshuntref09_Ints
  exact Rn.f (by simp) (Rn.bind h.diag (Rn.pure _))
theorem Same_same (a : List (List Int)) (h : a.length ≤ 1000000) (hr : ∀ r ∈ a, r.length ≤ 1000000) : Rn (fun k => Fshuntref13_Same k a a) true := by
  have inner : ∀ i : Nat, i < a.length → Rl (fun k q => Lshuntref13_Same_2 k q a a i ((0 : Nat) : Int)) (.inr (a, a, (i : Int))) := by
    intro i hi
    have g := getD_some (l := a) ([] : List Int) hi
    have hx := hr _ (List.mem_of_getElem? g)
    generalize a.getD i [] = x at g hx
    obtain ⟨o, rfl, h⟩ : ∃ o, o = .inr (a, a, (i : Int)) ∧ Rl (fun k q => Lshuntref13_Same_2 k q a a i ((0 : Nat) : Int)) o := by
      refine loopI (σ := Unit) x.length (fun k q j _ => Lshuntref13_Same_2 k q a a i j) (fun _ _ => True) _ ?_ ?_ x.length 0 () (by omega) trivial
      · rintro _ _
        refine ⟨_, rfl, Rl.up (f := fun k q => Lshuntref13_Same_2 k q a a i x.length) ?_⟩
        show Rl (fun k q => Lshuntref13_Same_2s k (Lshuntref13_Same_2 k q) _ _ _ _) _
        unfold Lshuntref13_Same_2s
        rw [toNat_c]
        exact Rl.t (by first | omega | (simp only [decide_eq_true_eq, decide_eq_false_iff_not, Int.toNat_natCast, beq_iff_eq, bne_iff_ne, ne_eq, Int.not_lt, Int.not_le, ge_iff_le, gt_iff_lt, beq_eq_false_iff_ne, Nat.zero_add]; omega)) (Rl.at g (Rl.f (by first | omega | (simp only [decide_eq_true_eq, decide_eq_false_iff_not, Int.toNat_natCast, beq_iff_eq, bne_iff_ne, ne_eq, Int.not_lt, Int.not_le, ge_iff_le, gt_iff_lt, beq_eq_false_iff_ne, Nat.zero_add]; omega)) (Rl.pure _)))
      · rintro j _ hj _
        have g2 := getD_some (l := x) (0 : Int) hj
        refine .inr ⟨(), trivial, fun o ho => Rl.up (f := fun k q => Lshuntref13_Same_2 k q a a i j) ?_⟩
        show Rl (fun k q => Lshuntref13_Same_2s k (Lshuntref13_Same_2 k q) _ _ _ _) _
        unfold Lshuntref13_Same_2s
        rw [toNat_c, toNat_c, wrap_i64 (x := (j : Int) + 1) (by omega)]
        exact Rl.t (by first | omega | (simp only [decide_eq_true_eq, decide_eq_false_iff_not, Int.toNat_natCast, beq_iff_eq, bne_iff_ne, ne_eq, Int.not_lt, Int.not_le, ge_iff_le, gt_iff_lt, beq_eq_false_iff_ne, Nat.zero_add]; omega)) (Rl.at g (Rl.t (by first | omega | (simp only [decide_eq_true_eq, decide_eq_false_iff_not, Int.toNat_natCast, beq_iff_eq, bne_iff_ne, ne_eq, Int.not_lt, Int.not_le, ge_iff_le, gt_iff_lt, beq_eq_false_iff_ne, Nat.zero_add]; omega)) (Rl.t (by first | omega | (simp only [decide_eq_true_eq, decide_eq_false_iff_not, Int.toNat_natCast, beq_iff_eq, bne_iff_ne, ne_eq, Int.not_lt, Int.not_le, ge_iff_le, gt_iff_lt, beq_eq_false_iff_ne, Nat.zero_add]; omega)) (Rl.at g (Rl.t (by first | omega | (simp only [decide_eq_true_eq, decide_eq_false_iff_not, Int.toNat_natCast, beq_iff_eq, bne_iff_ne, ne_eq, Int.not_lt, Int.not_le, ge_iff_le, gt_iff_lt, beq_eq_false_iff_ne, Nat.zero_add]; omega)) (Rl.at g2 (Rl.t (by first | omega | (simp only [decide_eq_true_eq, decide_eq_false_iff_not, Int.toNat_natCast, beq_iff_eq, bne_iff_ne, ne_eq, Int.not_lt, Int.not_le, ge_iff_le, gt_iff_lt, beq_eq_false_iff_ne, Nat.zero_add]; omega)) (Rl.at g (Rl.t (by first | omega | (simp only [decide_eq_true_eq, decide_eq_false_iff_not, Int.toNat_natCast, beq_iff_eq, bne_iff_ne, ne_eq, Int.not_lt, Int.not_le, ge_iff_le, gt_iff_lt, beq_eq_false_iff_ne, Nat.zero_add]; omega)) (Rl.at g2 (Rl.f (by simp) ho)))))))))))
    exact h
  obtain ⟨o, rfl, h⟩ : ∃ o, o = .inr () ∧ Rl (fun k q => Lshuntref13_Same_0 k q a a ((0 : Nat) : Int)) o := by
    refine loopI (σ := Unit) a.length (fun k q i _ => Lshuntref13_Same_0 k q a a i) (fun _ _ => True) _ ?_ ?_ a.length 0 () (by omega) trivial
    · rintro _ _
      refine ⟨_, rfl, Rl.up (f := fun k q => Lshuntref13_Same_0 k q a a a.length) (Rl.of 0 fun k q _ => ?_)⟩
      show Lshuntref13_Same_0s k (Lshuntref13_Same_0 k q) _ _ _ = _
      unfold Lshuntref13_Same_0s
      exact if_neg (by first | omega | (simp only [decide_eq_true_eq, decide_eq_false_iff_not, Int.toNat_natCast, beq_iff_eq, bne_iff_ne, ne_eq, Int.not_lt, Int.not_le, ge_iff_le, gt_iff_lt, beq_eq_false_iff_ne, Nat.zero_add]; omega))
    · rintro i _ hi _
      have g := getD_some (l := a) ([] : List Int) hi
      refine .inr ⟨(), trivial, fun o ho => Rl.up (f := fun k q => Lshuntref13_Same_0 k q a a i) ?_⟩
      show Rl (fun k q => Lshuntref13_Same_0s k (Lshuntref13_Same_0 k q) _ _ _) _
      unfold Lshuntref13_Same_0s
      rw [toNat_c]
      refine Rl.t (by first | omega | (simp only [decide_eq_true_eq, decide_eq_false_iff_not, Int.toNat_natCast, beq_iff_eq, bne_iff_ne, ne_eq, Int.not_lt, Int.not_le, ge_iff_le, gt_iff_lt, beq_eq_false_iff_ne, Nat.zero_add]; omega)) (Rl.t (by first | omega | (simp only [decide_eq_true_eq, decide_eq_false_iff_not, Int.toNat_natCast, beq_iff_eq, bne_iff_ne, ne_eq, Int.not_lt, Int.not_le, ge_iff_le, gt_iff_lt, beq_eq_false_iff_ne, Nat.zero_add]; omega)) (Rl.at g (Rl.t (by first | omega | (simp only [decide_eq_true_eq, decide_eq_false_iff_not, Int.toNat_natCast, beq_iff_eq, bne_iff_ne, ne_eq, Int.not_lt, Int.not_le, ge_iff_le, gt_iff_lt, beq_eq_false_iff_ne, Nat.zero_add]; omega)) (Rl.at g (Rl.f (by simp) (Rl.bind (inner i hi).diag ?_))))))
      simp only [eitherK]
      rw [wrap_i64 (by omega)]
      exact ho
  refine Rn.up (f := fun k => Fshuntref13_Same k a a) ?_
  show Rn (fun k => bshuntref13_Same k a a) _
  unfold bshuntref13_Same
  exact Rn.f (by simp) (Rn.bind h.diag (Rn.pure _))
section
variable (p : List (List Int)) (hb : Sm p) (h : ¬ OkP p)
include hb h
theorem no_a : Rn (fun k => Fsparse_Check k p) 130 := by have := Check_ev p hb; rwa [if_neg h] at this
theorem no_b : Rn (fun k => Fshuntref13_Check k p) 130 := by have := rCheck_ev p hb; rwa [if_neg h] at this
theorem noCost (r c : Int) : Rn (fun k => Fsparse_Cost k p r c) (0, 130) ∧ Rn (fun k => Fshuntref13_Cost k p r c) (0, 130) := by
  refine ⟨Rn.up (f := fun k => Fsparse_Cost k p r c) ?_, Rn.up (f := fun k => Fshuntref13_Cost k p r c) ?_⟩
  · show Rn (fun k => bsparse_Cost k p r c) _
    unfold bsparse_Cost
    exact Rn.bind (no_a p hb h) (Rn.t (by simp) (Rn.pure _))
  · show Rn (fun k => bshuntref13_Cost k p r c) _
    unfold bshuntref13_Cost
    exact Rn.bind (no_b p hb h) (Rn.t (by simp) (Rn.pure _))
theorem noBest : Rn (fun k => Fsparse_Best k p) (0, 0, false, 130) ∧ Rn (fun k => Fshuntref13_Best k p) (0, 0, false, 130) := by
  refine ⟨Rn.up (f := fun k => Fsparse_Best k p) ?_, Rn.up (f := fun k => Fshuntref13_Best k p) ?_⟩
  · show Rn (fun k => bsparse_Best k p) _
    unfold bsparse_Best
    exact Rn.bind (no_a p hb h) (Rn.t (by simp) (Rn.pure _))
  · show Rn (fun k => bshuntref13_Best k p) _
    unfold bshuntref13_Best
    exact Rn.bind (no_b p hb h) (Rn.t (by simp) (Rn.pure _))
theorem noElim (r c : Int) : Rn (fun k => Fsparse_Eliminate k p r c) (.inl (0, 130, [])) ∧ Rn (fun k => Fshuntref13_Eliminate k p r c) ([], 130) := by
  refine ⟨Rn.up (f := fun k => Fsparse_Eliminate k p r c) ?_, Rn.up (f := fun k => Fshuntref13_Eliminate k p r c) ?_⟩
  · show Rn (fun k => bsparse_Eliminate k p r c) _
    unfold bsparse_Eliminate
    exact Rn.bind (no_a p hb h) (Rn.t (by simp) (Rn.pure _))
  · show Rn (fun k => bshuntref13_Eliminate k p r c) _
    unfold bshuntref13_Eliminate
    exact Rn.bind (no_b p hb h) (Rn.t (by simp) (Rn.pure _))
theorem noOrder : Rn (fun k => Fsparse_Order k p) ([], [], 130) ∧ Rn (fun k => Fshuntref13_Order k p) ([], [], 130) := by
  refine ⟨Rn.up (f := fun k => Fsparse_Order k p) ?_, Rn.up (f := fun k => Fshuntref13_Order k p) ?_⟩
  · show Rn (fun k => bsparse_Order k p) _
    unfold bsparse_Order
    exact Rn.bind (no_a p hb h) (Rn.t (by simp) (Rn.pure _))
  · show Rn (fun k => bshuntref13_Order k p) _
    unfold bshuntref13_Order
    exact Rn.bind (no_b p hb h) (Rn.t (by simp) (Rn.pure _))
end
section
variable (p in1 q2 : List (List Int)) (q : Nat) (at0 at1 : Int)
theorem wr2 (i : Nat) (hi : i < q) (x x1 : Int) (qs : List (List Int)) (h : qs.length = q) (hb : ∀ r ∈ qs, r.length ≤ 48) :
    ∃ qs', qs'.length = q ∧ (∀ r ∈ qs', r.length ≤ 48) ∧ Rl (fun k n => Lshuntlaw13_SparseTells_2 k n p in1 q q2 i x x1 ((qs.getD i []).length : Nat) ((0 : Nat) : Int) at0 at1 qs) (p, in1, q, q2, x, x1, at0, at1, qs') := by
  generalize hL : (qs.getD i []).length = L
  have hLb : L ≤ 48 := by rw [← hL]; exact hb _ (List.mem_of_getElem? (getD_some [] (by omega)))
  obtain ⟨o, ⟨qs', h1, h2, rfl⟩, h⟩ : ∃ o : List (List Int) × List (List Int) × Nat × List (List Int) × Int × Int × Int × Int × List (List Int), (∃ qs', qs'.length = q ∧ (∀ r ∈ qs', r.length ≤ 48) ∧ o = (p, in1, q, q2, x, x1, at0, at1, qs')) ∧ Rl (fun k n => Lshuntlaw13_SparseTells_2 k n p in1 q q2 i x x1 L ((0 : Nat) : Int) at0 at1 qs) o := by
    refine loopI (σ := List (List Int)) L (fun k n j qs => Lshuntlaw13_SparseTells_2 k n p in1 q q2 i x x1 L j at0 at1 qs) (fun _ qs => qs.length = q ∧ (∀ r ∈ qs, r.length ≤ 48) ∧ (qs.getD i []).length = L) _ ?_ ?_ L 0 qs (by omega) ⟨h, hb, hL⟩
    · rintro qs ⟨h1, h2, h3⟩
      refine ⟨_, ⟨qs, h1, h2, rfl⟩, Rl.up (f := fun k n => Lshuntlaw13_SparseTells_2 k n p in1 q q2 i x x1 L L at0 at1 qs) (Rl.of 0 fun k n _ => ?_)⟩
      show Lshuntlaw13_SparseTells_2s k (Lshuntlaw13_SparseTells_2 k n) _ _ _ _ _ _ _ _ _ _ _ _ = _
      unfold Lshuntlaw13_SparseTells_2s
      exact if_neg (by first | omega | (simp only [decide_eq_true_eq, decide_eq_false_iff_not, Int.toNat_natCast, beq_iff_eq, bne_iff_ne, ne_eq, Int.not_lt, Int.not_le, ge_iff_le, gt_iff_lt, beq_eq_false_iff_ne, Nat.zero_add]; omega))
    · rintro j qs hj ⟨h1, h2, h3⟩
      have g := getD_some (l := qs) ([] : List Int) (by omega : i < qs.length)
      generalize qs.getD i [] = r at g h3
      subst h3
      have g2 := getD_some (l := r) (0 : Int) hj
      refine .inr ⟨qs.set i (r.set j (-1)), ⟨by simpa using h1, fun r' hr' => ?_, ?_⟩, fun o ho => Rl.up (f := fun k n => Lshuntlaw13_SparseTells_2 k n p in1 q q2 i x x1 r.length j at0 at1 qs) ?_⟩
      · rcases List.mem_or_eq_of_mem_set hr' with h | rfl
        · exact h2 _ h
        · simpa using hLb
      · rw [List.getD_eq_getElem?_getD, List.getElem?_set_self (by omega)]; simp
      · have e : List.take r.length (r.set j (-1)) = r.set j (-1) := List.take_of_length_le (by simp)
        show Rl (fun k n => Lshuntlaw13_SparseTells_2s k (Lshuntlaw13_SparseTells_2 k n) _ _ _ _ _ _ _ _ _ _ _ _) _
        unfold Lshuntlaw13_SparseTells_2s
        rw [toNat_c, toNat_c, wrap_i64 (x := (j : Int) + 1) (by omega)]
        refine Rl.t (by first | omega | (simp only [decide_eq_true_eq, decide_eq_false_iff_not, Int.toNat_natCast, beq_iff_eq, bne_iff_ne, ne_eq, Int.not_lt, Int.not_le, ge_iff_le, gt_iff_lt, beq_eq_false_iff_ne, Nat.zero_add]; omega)) (Rl.t (g := fun _ _ => none) ⟨by omega, by omega⟩ (Rl.at g (Rl.t (g := fun _ _ => none) ⟨by omega, by omega⟩ (Rl.at (by rw [Nat.zero_add]; exact g2) (Rl.t (g := fun _ _ => none) (by simp) ?_)))))
        rw [Nat.zero_add, e, tset_eq (by omega)]
        exact ho
  exact ⟨qs', h1, h2, h⟩
theorem wr0a (hq : q ≤ 48) (qs : List (List Int)) (h : qs.length = q) (hb : ∀ r ∈ qs, r.length ≤ 48) :
    ∃ qs', Rl (fun k n => Lshuntlaw13_SparseTells_0a k n p in1 q q2 q ((0 : Nat) : Int) at0 at1 qs) (p, in1, q2, at0, at1, qs') := by
  obtain ⟨o, ⟨qs', rfl⟩, h⟩ : ∃ o : List (List Int) × List (List Int) × List (List Int) × Int × Int × List (List Int), (∃ qs', o = (p, in1, q2, at0, at1, qs')) ∧ Rl (fun k n => Lshuntlaw13_SparseTells_0a k n p in1 q q2 q ((0 : Nat) : Int) at0 at1 qs) o := by
    refine loopI (σ := List (List Int)) q (fun k n j qs => Lshuntlaw13_SparseTells_0a k n p in1 q q2 q j at0 at1 qs) (fun _ qs => qs.length = q ∧ (∀ r ∈ qs, r.length ≤ 48)) _ ?_ ?_ q 0 qs (by omega) ⟨h, hb⟩
    · rintro qs ⟨h1, h2⟩
      refine ⟨_, ⟨qs, rfl⟩, Rl.up (f := fun k n => Lshuntlaw13_SparseTells_0a k n p in1 q q2 q q at0 at1 qs) (Rl.of 0 fun k n _ => ?_)⟩
      show Lshuntlaw13_SparseTells_0as k (Lshuntlaw13_SparseTells_0a k n) _ _ _ _ _ _ _ _ _ = _
      unfold Lshuntlaw13_SparseTells_0as
      exact if_neg (by first | omega | (simp only [decide_eq_true_eq, decide_eq_false_iff_not, Int.toNat_natCast, beq_iff_eq, bne_iff_ne, ne_eq, Int.not_lt, Int.not_le, ge_iff_le, gt_iff_lt, beq_eq_false_iff_ne, Nat.zero_add]; omega))
    · rintro i qs hi ⟨h1, h2⟩
      have g := getD_some (l := qs) ([] : List Int) (by omega : i < qs.length)
      have e : List.take (qs.getD i []).length (qs.getD i []) = qs.getD i [] := List.take_length
      have e2 : qs.set i (qs.getD i []) = qs := by
        apply List.ext_getElem?
        intro j
        rw [List.getElem?_set]
        split
        · rename_i h; subst h; rw [if_pos (by omega), g]
        · rfl
      obtain ⟨qs', q1, q2', q3⟩ := wr2 p in1 q2 q at0 at1 i hi q i qs h1 h2
      refine .inr ⟨qs', ⟨q1, q2'⟩, fun o ho => Rl.up (f := fun k n => Lshuntlaw13_SparseTells_0a k n p in1 q q2 q i at0 at1 qs) ?_⟩
      show Rl (fun k n => Lshuntlaw13_SparseTells_0as k (Lshuntlaw13_SparseTells_0a k n) _ _ _ _ _ _ _ _ _) _
      unfold Lshuntlaw13_SparseTells_0as
      rw [toNat_c]
      refine Rl.t (by first | omega | (simp only [decide_eq_true_eq, decide_eq_false_iff_not, Int.toNat_natCast, beq_iff_eq, bne_iff_ne, ne_eq, Int.not_lt, Int.not_le, ge_iff_le, gt_iff_lt, beq_eq_false_iff_ne, Nat.zero_add]; omega)) (Rl.t (g := fun _ _ => none) ⟨by omega, by omega⟩ (Rl.at g (Rl.t (g := fun _ _ => none) (Nat.le_refl _) (Rl.bind (x := (p, in1, q, q2, (q : Int), (i : Int), at0, at1, qs')) ?_ ?_))))
      · rw [e, tset_eq (by omega), e2]
        exact q3.diag
      · simp only
        rw [wrap_i64 (by omega)]
        exact ho
  exact ⟨qs', h⟩
theorem wr0 (qs : List (List Int)) : Rl (fun k n => Lshuntlaw13_SparseTells_0 k n p in1 0 q2 ((0 : Nat) : Int) (0 : Int) at0 at1 qs) (p, in1, q2, at0, at1, qs) := by
  refine Rl.up (f := fun k n => Lshuntlaw13_SparseTells_0 k n p in1 0 q2 ((0 : Nat) : Int) (0 : Int) at0 at1 qs) (Rl.of 0 fun k n _ => ?_)
  show Lshuntlaw13_SparseTells_0s k (Lshuntlaw13_SparseTells_0 k n) _ _ _ _ _ _ _ _ _ = _
  unfold Lshuntlaw13_SparseTells_0s
  exact if_neg (by simp)
end
abbrev p0 : List (List Int) := [[0, 1, 2], [0, 1], [0, 2]]
abbrev p1 : List (List Int) := [[0, 2], [], [0, 2]]
abbrev p2 : List (List Int) := [[], [], [2]]
theorem elim_c {p q : List (List Int)} (h : OkP p) {n r c f : Nat} (hn : n = p.length) (hr : r < n) (hc : c < n) (e1 : pat n (el (mp p) r c) = q) (e2 : flS n (mp p) r c n = f) : Rn (fun k => Fsparse_eliminate k p (r : Int) (c : Int)) (n, (f : Int), q) := by
  subst hn
  have := elimT_ev (mp p) h.1 hr hc
  rw [← okP_pat h, e1, e2] at this
  exact this
theorem el_a : Rn (fun k => Fsparse_eliminate k p0 1 1) (3, 0, p1) := elim_c (n := 3) (r := 1) (c := 1) (f := 0) (by decide) rfl (by decide) (by decide) (by decide) (by decide)
theorem el_b : Rn (fun k => Fsparse_eliminate k p1 0 0) (3, 0, p2) := elim_c (n := 3) (r := 0) (c := 0) (f := 0) (by decide) rfl (by decide) (by decide) (by decide) (by decide)
theorem el_c : Rn (fun k => Fsparse_eliminate k p2 2 2) (3, 0, [[], [], []]) := elim_c (n := 3) (r := 2) (c := 2) (f := 0) (by decide) rfl (by decide) (by decide) (by decide) (by decide)
theorem el_d : Rn (fun k => Fsparse_eliminate k p0 0 0) (3, 2, [[], [1, 2], [1, 2]]) := elim_c (n := 3) (r := 0) (c := 0) (f := 2) (by decide) rfl (by decide) (by decide) (by decide) (by decide)
theorem el_e : Rn (fun k => Fsparse_eliminate k [[], [1, 2], [1, 2]] 1 1) (3, 0, p2) := elim_c (n := 3) (r := 1) (c := 1) (f := 0) (by decide) rfl (by decide) (by decide) (by decide) (by decide)
theorem fix {α : Type} {f : Nat → Option α} {x : α} (h : ∀ j, f (j + 30) = some x) : Rn f x := Rn.eq 30 fun k hk => by
  obtain ⟨j, rfl⟩ : ∃ j, k = j + 30 := ⟨k - 30, by omega⟩
  exact h j
theorem be_a : Rn (fun k => Fsparse_best k p0) (1, 1, true) := fix fun j => by kernel_rfl
theorem be_b : Rn (fun k => Fsparse_best k p1) (0, 0, true) := fix fun j => by kernel_rfl
theorem be_c : Rn (fun k => Fsparse_best k p2) (2, 2, true) := fix fun j => by kernel_rfl
theorem be_d : Rn (fun k => Fsparse_best k [[], [], []]) (0, 0, false) := fix fun j => by kernel_rfl
theorem ch_a : Rn (fun k => Fsparse_Check k p0) 0 := fix fun j => by kernel_rfl
theorem or_go {hd : (List (List Int) × Nat × Nat × List Int × List Int) ⊕ (Nat × Nat × Nat × List (List Int) × List Int × List Int)} {p p' : List (List Int)} {n : Nat} {r c f : Int} {x y : List Int} {a b : Nat} {o : (Nat × Nat × Int × List Int × List Int) ⊕ (Nat × Nat × Int × List (List Int) × List Int × List Int)} (hh : hd = .inl (p, a, b, x, y) ∨ hd = .inr (p.length, a, b, p, x, y)) (ha : a = x.length) (hb : b = y.length) (hx : x.length ≤ 10) (hy : y.length ≤ 10) (h1 : Rn (fun k => Fsparse_best k p) (r, c, true)) (h2 : Rn (fun k => Fsparse_eliminate k p r c) (n, f, p'))
    (h3 : Rl (fun k q => Lsparse_Order_0 k q (.inr (n, a + 1, b + 1, p', x ++ [r], y ++ [c]))) o) : Rl (fun k q => Lsparse_Order_0 k q hd) o := by
  subst ha hb
  have e1 : (List.take 1 [r]).length = 1 := rfl
  have e2 : (List.take 1 [c]).length = 1 := rfl
  have e3 : List.take 1 [r] = [r] := rfl
  have e4 : List.take 1 [c] = [c] := rfl
  refine Rl.up (f := fun k q => Lsparse_Order_0 k q hd) ?_
  show Rl (fun k q => Lsparse_Order_0s k (Lsparse_Order_0 k q) _) _
  unfold Lsparse_Order_0s
  rcases hh with rfl | rfl
  · simp only [eitherK]
    refine Rl.bind h1 (Rl.f (by simp) (Rl.t (g := fun _ _ => none) (Nat.le_refl _) (Rl.t (g := fun _ _ => none) (by simp only [e1]; omega) (Rl.t (g := fun _ _ => none) (Nat.le_refl _) (Rl.t (g := fun _ _ => none) (by simp only [e2]; omega) (Rl.bind h2 ?_))))))
    simp only [e3, e4, List.take_length, List.length_singleton]
    exact h3
  · simp only [eitherK, List.take_length]
    refine Rl.t (g := fun _ _ => none) (by omega) (Rl.bind h1 (Rl.f (by simp) (Rl.t (g := fun _ _ => none) (Nat.le_refl _) (Rl.t (g := fun _ _ => none) (by simp only [e1]; omega) (Rl.t (g := fun _ _ => none) (Nat.le_refl _) (Rl.t (g := fun _ _ => none) (by simp only [e2]; omega) (Rl.t (g := fun _ _ => none) (by omega) (Rl.bind h2 ?_))))))))
    simp only [e3, e4, List.take_length, List.length_singleton]
    exact h3
theorem or_end {p : List (List Int)} {r c : Int} {x y : List Int} {a b n : Nat} (hn : n = p.length) (h1 : Rn (fun k => Fsparse_best k p) (r, c, false)) : Rl (fun k q => Lsparse_Order_0 k q (.inr (n, a, b, p, x, y))) (.inr (a, b, 0, p, x, y)) := by
  subst hn
  refine Rl.up (f := fun k q => Lsparse_Order_0 k q (.inr (p.length, a, b, p, x, y))) ?_
  show Rl (fun k q => Lsparse_Order_0s k (Lsparse_Order_0 k q) _) _
  unfold Lsparse_Order_0s
  simp only [eitherK, List.take_length]
  exact Rl.t (g := fun _ _ => none) (by omega) (Rl.bind h1 (Rl.t (by simp) (Rl.pure _)))
theorem or_a : Rn (fun k => Fsparse_Order k p0) ([1, 0, 2], [1, 0, 2], 0) := by
  refine Rn.up (f := fun k => Fsparse_Order k p0) ?_
  show Rn (fun k => bsparse_Order k p0) _
  unfold bsparse_Order
  have h : Rl (fun k q => Lsparse_Order_0 k q (.inl (p0, 0, 0, [], []))) (.inr (3, 3, 0, [[], [], []], [1, 0, 2], [1, 0, 2])) :=
    or_go (x := []) (y := []) (.inl rfl) rfl rfl (by decide) (by decide) be_a el_a (or_go (x := [1]) (y := [1]) (.inr rfl) rfl rfl (by decide) (by decide) be_b el_b (or_go (x := [1, 0]) (y := [1, 0]) (.inr rfl) rfl rfl (by decide) (by decide) be_c el_c (or_end rfl be_d)))
  refine Rn.bind ch_a (Rn.f (by simp) (Rn.bind h.diag ?_))
  simp only [eitherK]
  exact Rn.t (g := fun _ => none) (by simp) (Rn.t (g := fun _ => none) (by simp) (Rn.const rfl))
abbrev FlI : Type := List (List Int) × List Int × Int × List Int × Int × Int
abbrev FlJ : Type := Nat × List Int × Int × List Int × Int × Int × List (List Int)
theorem fi_go {hd : FlI ⊕ FlJ} {p p' : List (List Int)} {n : Nat} {rows cols : List Int} {all : Int} {L i r c f : Int} {o} (hh : hd = .inl (p, cols, all, rows, L, i) ∨ hd = .inr (p.length, cols, all, rows, L, i, p)) (h0 : 0 ≤ i) (h1 : i < L) (hL : L ≤ 10) (g1 : rows[i.toNat]? = some r) (g2 : cols[i.toNat]? = some c) (hi : Rn (fun k => Fsparse_in k p r c) true) (he : Rn (fun k => Fsparse_eliminate k p r c) (n, f, p')) (hf : 0 ≤ all ∧ all ≤ 1000 ∧ 0 ≤ f ∧ f ≤ 1000)
    (h : Rl (fun k q => Lsparse_Fill_0 k q (.inr (n, cols, all + f, rows, L, i + 1, p'))) o) : Rl (fun k q => Lsparse_Fill_0 k q hd) o := by
  refine Rl.up (f := fun k q => Lsparse_Fill_0 k q hd) ?_
  show Rl (fun k q => Lsparse_Fill_0s k (Lsparse_Fill_0 k q) _) _
  unfold Lsparse_Fill_0s
  rcases hh with rfl | rfl
  · simp only [eitherK]
    rw [wrap_i64 (x := i + 1) (by omega)]
    refine Rl.t (decide_eq_true h1) (Rl.t h0 (Rl.at g1 (Rl.t h0 (Rl.at g2 (Rl.bind hi (Rl.f (by simp) (Rl.t h0 (Rl.at g2 (Rl.bind he ?_)))))))))
    simp only
    rw [wrap_i64 (x := all + f) (by omega)]
    exact h
  · simp only [eitherK, List.take_length]
    rw [wrap_i64 (x := i + 1) (by omega)]
    refine Rl.t (decide_eq_true h1) (Rl.t h0 (Rl.at g1 (Rl.t h0 (Rl.at g2 (Rl.t (g := fun _ _ => none) (by omega) (Rl.bind hi (Rl.f (by simp) (Rl.t h0 (Rl.at g2 (Rl.t (g := fun _ _ => none) (by omega) (Rl.bind he ?_)))))))))))
    simp only
    rw [wrap_i64 (x := all + f) (by omega)]
    exact h
theorem in_a : Rn (fun k => Fsparse_in k p0 0 0) true := fix fun j => by kernel_rfl
theorem in_b : Rn (fun k => Fsparse_in k [[], [1, 2], [1, 2]] 1 1) true := fix fun j => by kernel_rfl
theorem in_c : Rn (fun k => Fsparse_in k p2 2 2) true := fix fun j => by kernel_rfl
theorem in_d : Rn (fun k => Fsparse_in k p0 1 1) true := fix fun j => by kernel_rfl
theorem fi_a : Rn (fun k => Fsparse_Fill k p0 [0, 1, 2] [0, 1, 2]) (2, 0) := by
  refine Rn.up (f := fun k => Fsparse_Fill k p0 [0, 1, 2] [0, 1, 2]) ?_
  show Rn (fun k => bsparse_Fill k p0 [0, 1, 2] [0, 1, 2]) _
  unfold bsparse_Fill
  have hend : Rl (fun k q => Lsparse_Fill_0 k q (.inr (3, [0, 1, 2], 2, [0, 1, 2], 3, 3, [[], [], []]))) (.inr (.inr (.inr (2, [[], [], []])))) := by
    refine Rl.up (f := fun k q => Lsparse_Fill_0 k q (.inr (3, [0, 1, 2], 2, [0, 1, 2], 3, 3, [[], [], []]))) ?_
    show Rl (fun k q => Lsparse_Fill_0s k (Lsparse_Fill_0 k q) _) _
    unfold Lsparse_Fill_0s
    simp only [eitherK]
    exact Rl.f (by decide) (Rl.pure _)
  have h : Rl (fun k q => Lsparse_Fill_0 k q (.inl (p0, [0, 1, 2], 0, [0, 1, 2], 3, 0))) (.inr (.inr (.inr (2, [[], [], []])))) :=
    fi_go (r := 0) (c := 0) (.inl rfl) (by decide) (by decide) (by decide) rfl rfl in_a el_d (by decide) (fi_go (r := 1) (c := 1) (.inr rfl) (by decide) (by decide) (by decide) rfl rfl in_b el_e (by decide) (fi_go (r := 2) (c := 2) (.inr rfl) (by decide) (by decide) (by decide) rfl rfl in_c el_c (by decide) hend))
  refine Rn.bind ch_a (Rn.f (by simp) (Rn.f (by simp) (Rn.bind h.diag ?_)))
  simp only [eitherK]
  exact Rn.pure _
theorem em_a : Rn (fun k => Fsparse_Eliminate k p0 1 1) (.inr (3, 0, p1)) := by
  refine Rn.up (f := fun k => Fsparse_Eliminate k p0 1 1) ?_
  show Rn (fun k => bsparse_Eliminate k p0 1 1) _
  unfold bsparse_Eliminate
  exact Rn.bind ch_a (Rn.f (by simp) (Rn.bind in_d (Rn.f (by simp) (Rn.bind el_a (Rn.pure _)))))
theorem bb_a : Rn (fun k => Fsparse_Best k p0) (1, 1, true, 0) := fix fun j => by kernel_rfl
theorem co_a : Rn (fun k => Fsparse_Cost k p0 0 0) (4, 0) := fix fun j => by kernel_rfl
theorem is_a : Rn (fun k => Fshuntref09_Ints k [1, 0, 2] [1, 0, 2]) true := fix fun j => by kernel_rfl
theorem sa_a : Rn (fun k => Fshuntref13_Same k p1 p1) true := fix fun j => by kernel_rfl
theorem ch_b : Rn (fun k => Fsparse_Check k [[1]]) 130 := fix fun j => by kernel_rfl
theorem awake13T_ev : Rn (fun k => Fshuntlaw13_awake k) true := by
  refine Rn.up (f := fun k => Fshuntlaw13_awake k) ?_
  show Rn (fun k => bshuntlaw13_awake k) _
  unfold bshuntlaw13_awake
  refine Rn.bind or_a (Rn.bind fi_a (Rn.bind em_a ?_))
  simp only [eitherK]
  refine Rn.bind bb_a (Rn.bind co_a ?_)
  exact Rn.t (by decide) (Rn.t (by decide) (Rn.t (by decide) (Rn.t (by decide) (Rn.t (by decide) (Rn.t (by decide) (Rn.t (by decide) (Rn.t (by decide) (Rn.t (by decide) (Rn.t (by decide) (Rn.bind is_a (Rn.t (by decide) (Rn.bind is_a (Rn.t (by decide) (Rn.t (by decide) (Rn.bind sa_a (Rn.t (by decide) (Rn.bind ch_b (Rn.pure _))))))))))))))))))
theorem wfd_sm {p : List (List Int)} (h : Wfd (.sl (.sl (.int .i64))) p) : Sm p := by
  obtain ⟨⟨h1, _⟩, h2⟩ := h
  unfold maxLen at h1
  have key : ∀ r : List Int, Wfd (.sl (.int .i64)) r → r.length ≤ 1000000000000000000 := by
    intro r hr
    have := hr.1.2
    unfold reachBytes Cd.by at this
    omega
  have hb : p.length ≤ 1000000000000000000 := by
    have := ‹_ ≤ reachBytes›
    unfold reachBytes Cd.by at this
    omega
  exact ⟨hb, fun r hr => key r (h2 r hr)⟩
theorem Rn.get {α : Type} {f : Nat → Option α} {r : α} (h : Rn f r) : ∃ k, f k = some r := by
  obtain ⟨K, h⟩ := h
  exact ⟨K, h K (Nat.le_refl _)⟩
theorem sm_sm {p : List (List Int)} (h : p.length ≤ 61 ∧ ∀ r ∈ p, r.length ≤ 60) : Rn (fun k => Fshuntref13_Same k p p) true :=
  Same_same p (by omega) fun r hr => by have := h.2 r hr; omega
theorem tells_all {p : List (List Int)} {at0 at1 : Int} (hw : p.length ≤ 61 ∧ ∀ r ∈ p, r.length ≤ 60) {c1 c2 : Int} {b1 b2 : Int} {b3 : Bool} {b4 e : Int} {R C : List Int} {oe ch : Int} {E : (Nat × Int × List (List Int)) ⊕ (Nat × Int × List (List Int))} {T : List (List Int)}
    (hco : Rn (fun k => Fsparse_Cost k p at0 at1) (c1, c2)) (hcr : Rn (fun k => Fshuntref13_Cost k p at0 at1) (c1, c2))
    (hbo : Rn (fun k => Fsparse_Best k p) (b1, b2, b3, b4)) (hbr : Rn (fun k => Fshuntref13_Best k p) (b1, b2, b3, b4))
    (heo : Rn (fun k => Fsparse_Eliminate k p at0 at1) E) (her : Rn (fun k => Fshuntref13_Eliminate k p at0 at1) (T, e))
    (hE : E = .inl (0, e, []) ∧ T = [] ∨ E = .inr (T.length, e, T) ∧ T.length ≤ 48 ∧ ∀ r ∈ T, r.length ≤ 48)
    (hoo : Rn (fun k => Fsparse_Order k p) (R, C, oe)) (hor : Rn (fun k => Fshuntref13_Order k p) (R, C, oe)) (hR : R.length ≤ 1000) (hC : C.length ≤ 1000)
    (hch : Rn (fun k => Fsparse_Check k p) ch) (hcf : Rn (fun k => Fshuntref13_Check k p) ch) (hwd : Rn (fun k => Fshuntlaw13_wide k p) false) : Rn (fun k => Fshuntlaw13_SparseTells k p at0 at1) true := by
  refine Rn.up (f := fun k => Fshuntlaw13_SparseTells k p at0 at1) ?_
  show Rn (fun k => bshuntlaw13_SparseTells k p at0 at1) _
  unfold bshuntlaw13_SparseTells
  have hsp := sm_sm hw
  have hI1 := Ints_same R (by omega)
  have hI2 := Ints_same C (by omega)
  refine Rn.bind awake13T_ev (Rn.f (by simp) (Rn.bind hwd (Rn.f (by simp) (Rn.bind (Copy_ev p (by omega) fun r hr => by have := hw.2 r hr; omega) (Rn.bind hco (Rn.bind hcr (Rn.bind hbo (Rn.bind hbr (Rn.bind heo ?_)))))))))
  rcases hE with ⟨rfl, rfl⟩ | ⟨rfl, hT, hTr⟩
  · have hs0 := Same_same [] (by simp) (fun r hr => by cases hr)
    have hl := (wr0 p p [] at0 at1 []).diag
    simp only [eitherK]
    refine Rn.bind her (Rn.bind hoo (Rn.bind hor (Rn.t (by simp) (Rn.t (by simp) (Rn.t (by simp) (Rn.t (by simp) (Rn.t (by simp) (Rn.t (by simp) (Rn.t (g := fun _ => none) (by simp) (Rn.bind hs0 (Rn.t (by simp) (Rn.t (by simp) (Rn.bind hI1 (Rn.t (by simp) (Rn.bind hI2 (Rn.t (by simp) (Rn.t (by simp) (Rn.bind hch (Rn.bind hcf (Rn.f (by simp) (Rn.bind hl (Rn.bind heo ?_))))))))))))))))))))))
    simp only
    exact Rn.t (g := fun _ => none) (by simp) (Rn.bind hs0 (Rn.t (by simp) (Rn.bind hsp (Rn.pure _))))
  · have hs0 := Same_same T (by omega) (fun r hr => by have := hTr r hr; omega)
    obtain ⟨qs', hl⟩ := wr0a p p T T.length at0 at1 hT T rfl hTr
    have hl := hl.diag
    simp only [eitherK, List.take_length]
    refine Rn.bind her (Rn.bind hoo (Rn.bind hor (Rn.t (by simp) (Rn.t (by simp) (Rn.t (by simp) (Rn.t (by simp) (Rn.t (by simp) (Rn.t (by simp) (Rn.t (g := fun _ => none) (by simp) (Rn.bind hs0 (Rn.t (by simp) (Rn.t (by simp) (Rn.bind hI1 (Rn.t (by simp) (Rn.bind hI2 (Rn.t (by simp) (Rn.t (by simp) (Rn.bind hch (Rn.bind hcf (Rn.f (by simp) (Rn.bind hl (Rn.bind heo ?_))))))))))))))))))))))
    simp only [List.take_length]
    exact Rn.t (g := fun _ => none) (by simp) (Rn.bind hs0 (Rn.t (by simp) (Rn.bind hsp (Rn.pure _))))
theorem pure_SparseTells (p : List (List Int)) (a : Int × Int) (wp : Wfd (.sl (.sl (.int .i64))) p) (wa : Wfd (.pr (.int .i64) (.int .i64)) a) : ∃ k, Fshuntlaw13_SparseTells k p a.1 a.2 = some true := by
  obtain ⟨at0, at1⟩ := a
  show ∃ k, Fshuntlaw13_SparseTells k p at0 at1 = some true
  refine Rn.get (f := fun k => Fshuntlaw13_SparseTells k p at0 at1) ?_
  have hb := wfd_sm wp
  obtain ⟨b, hw, hw2⟩ := wideT_ev p hb
  cases b with
  | true =>
    refine Rn.up (f := fun k => Fshuntlaw13_SparseTells k p at0 at1) ?_
    show Rn (fun k => bshuntlaw13_SparseTells k p at0 at1) _
    unfold bshuntlaw13_SparseTells
    exact Rn.bind awake13T_ev (Rn.f (by simp) (Rn.bind hw (Rn.t (by simp) (Rn.pure _))))
  | false =>
    have hw2 := hw2 rfl
    by_cases h : OkP p
    rotate_left
    · obtain ⟨a1, a2⟩ := noCost p hb h at0 at1
      obtain ⟨b1, b2⟩ := noBest p hb h
      obtain ⟨c1, c2⟩ := noElim p hb h at0 at1
      obtain ⟨d1, d2⟩ := noOrder p hb h
      exact tells_all hw2 a1 a2 b1 b2 c1 c2 (.inl ⟨rfl, rfl⟩) d1 d2 (by simp) (by simp) (no_a p hb h) (no_b p hb h) hw
    · have hn := h.1
      have hp := okP_pat h
      generalize p.length = n at hn hp
      generalize mp p = m at hp
      subst hp
      obtain ⟨⟨a1, a2⟩, a3, a4⟩ := Cost_both hn m at0 at1
      obtain ⟨⟨b1, b2, b3, b4⟩, b5, b6⟩ := Best_both hn m
      obtain ⟨R, C, d1, d2, d3⟩ := Order_both hn m
      rcases Eliminate_both hn m at0 at1 with ⟨c1, c2⟩ | ⟨m', c1, c2⟩
      · exact tells_all hw2 a3 a4 b5 b6 c1 c2 (.inl ⟨rfl, rfl⟩) d1 d2 d3.1 d3.2 (pCheck_ev hn m) (rpCheck_ev hn m) hw
      · refine tells_all hw2 a3 a4 b5 b6 c1 c2 (.inr ⟨by rw [pat_len], by rw [pat_len]; exact hn, fun r hr => ?_⟩) d1 d2 d3.1 d3.2 (pCheck_ev hn m) (rpCheck_ev hn m) hw
        obtain ⟨i, _, rfl⟩ := List.mem_map.1 hr
        have := thin_le n (m' i); omega
end Go.Proofs.Ytgiamleohegjeaa.Am

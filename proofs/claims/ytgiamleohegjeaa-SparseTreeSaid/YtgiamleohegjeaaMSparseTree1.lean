/- Plain reckoning: rounds enough, and what rows of digits are worth. -/
import Derived.Test.YtgiamleohegjeaaMP1
import Derived.KernelRfl

set_option linter.unusedVariables false
set_option linter.unusedSimpArgs false
namespace Go.Proofs.Ytgiamleohegjeaa.Am

/-- With rounds enough the answer is r. -/
def Rn {α : Type} (f : Nat → Option α) (r : α) : Prop := ∃ K, ∀ k, K ≤ k → f k = some r
/-- The same, where a loop's rounds count for themselves. -/
def Rl {α : Type} (f : Nat → Nat → Option α) (r : α) : Prop := ∃ K, ∀ k n, K ≤ k → K ≤ n → f k n = some r
section
variable {α β γ : Type}
theorem Rn.pure (r : α) : Rn (fun _ => some r) r := ⟨0, fun _ _ => rfl⟩
theorem Rn.eq {f : Nat → Option α} {r : α} (K : Nat) (h : ∀ k, K ≤ k → f k = some r) : Rn f r := ⟨K, h⟩
theorem Rn.bind {f : Nat → Option α} {g : Nat → α → Option β} {x : α} {r : β} (h1 : Rn f x) (h2 : Rn (fun k => g k x) r) : Rn (fun k => Option.bind (f k) (g k)) r := by
 obtain ⟨K1, h1⟩ := h1
 obtain ⟨K2, h2⟩ := h2
 exact ⟨max K1 K2, fun k hk => by show Option.bind (f k) (g k) = _; rw [h1 k (by omega)]; exact h2 k (by omega)⟩
/-- A function's rounds are one more than its body's. -/
theorem Rn.up {f : Nat → Option α} {r : α} (h : Rn (fun k => f (k + 1)) r) : Rn f r := by
 obtain ⟨K, h⟩ := h
 refine ⟨K + 1, fun k hk => ?_⟩
 obtain ⟨j, rfl⟩ : ∃ j, k = j + 1 := ⟨k - 1, by omega⟩
 exact h j (by omega)
theorem Rn.const {e : Option α} {r : α} (h : e = some r) : Rn (fun _ => e) r := ⟨0, fun _ _ => h⟩
theorem Rn.t {c : Prop} [Decidable c] {f g : Nat → Option α} {r : α} (h : c) (hf : Rn f r) : Rn (fun k => if c then f k else g k) r := by
 simpa only [if_pos h] using hf
theorem Rn.f {c : Prop} [Decidable c] {f g : Nat → Option α} {r : α} (h : ¬ c) (hg : Rn g r) : Rn (fun k => if c then f k else g k) r := by
 simpa only [if_neg h] using hg
theorem Rn.at {o : Option α} {g : Nat → α → Option β} {x : α} {r : β} (h : o = some x) (hg : Rn (fun k => g k x) r) : Rn (fun k => Option.bind o (g k)) r := by
 simpa only [h, Option.bind_some] using hg
theorem Rl.diag {f : Nat → Nat → Option α} {r : α} (h : Rl f r) : Rn (fun k => f k k) r := by
 obtain ⟨K, h⟩ := h
 exact ⟨K, fun k hk => h k k hk hk⟩
theorem Rl.pure (r : α) : Rl (fun _ _ => some r) r := ⟨0, fun _ _ _ _ => rfl⟩
theorem Rl.bind {f : Nat → Option α} {g : Nat → Nat → α → Option β} {x : α} {r : β} (h1 : Rn f x) (h2 : Rl (fun k n => g k n x) r) : Rl (fun k n => Option.bind (f k) (g k n)) r := by
 obtain ⟨K1, h1⟩ := h1
 obtain ⟨K2, h2⟩ := h2
 exact ⟨max K1 K2, fun k n hk hn => by show Option.bind (f k) (g k n) = _; rw [h1 k (by omega)]; exact h2 k n (by omega) (by omega)⟩
theorem Rl.up {f : Nat → Nat → Option α} {r : α} (h : Rl (fun k n => f k (n + 1)) r) : Rl f r := by
 obtain ⟨K, h⟩ := h
 refine ⟨K + 1, fun k n hk hn => ?_⟩
 obtain ⟨j, rfl⟩ : ∃ j, n = j + 1 := ⟨n - 1, by omega⟩
 exact h k j (by omega) (by omega)
theorem Rl.of {f : Nat → Nat → Option α} {r : α} (K : Nat) (h : ∀ k n, K ≤ n → f k n = some r) : Rl f r := ⟨K, fun k n _ hn => h k n hn⟩
end

theorem wrap_u32_id {x : Int} (h : 0 ≤ x ∧ x < 4294967296) : IntKind.u32.wrap x = x := by rw [wrap_u32]; omega
theorem wrap_u64_id {x : Int} (h : 0 ≤ x ∧ x < 18446744073709551616) : IntKind.u64.wrap x = x := by rw [wrap_u64]; omega
theorem wrap_u8_id {x : Int} (h : 0 ≤ x ∧ x < 256) : IntKind.u8.wrap x = x := by rw [wrap_u8]; omega
/-- What reckons, in one. -/
theorem ps :
 (∀ {p : Prop} [inst : Decidable p], (Decidable.decide p = Bool.true) = p) ∧
 (∀ {p : Prop} {x : Decidable p}, Decidable.decide p = Bool.false ↔ ¬p) ∧
 (∀ {α : Type} [inst : BEq α] [LawfulBEq α] {a b : α}, (a == b) = Bool.true ↔ a = b) ∧
 (∀ {α : Type} [inst : BEq α] [LawfulBEq α] {a b : α}, (a != b) = Bool.true ↔ a ≠ b) ∧
 (∀ {α : Type} (a b : α), (a ≠ b) = ¬a = b) ∧
 (∀ {α : Type} [inst : LT α] {x y : α}, x > y ↔ y < x) ∧
 (∀ {α : Type} [inst : LE α] {x y : α}, x ≥ y ↔ y ≤ x) ∧
 (∀ {a b : Int}, a ≤ b → (a ≤ b) = True) ∧
 (∀ {a b : Int}, ¬a ≤ b → (a ≤ b) = False) ∧
 (∀ {a b : Int}, a < b → (a < b) = True) ∧
 (∀ {a b : Int}, ¬a < b → (a < b) = False) ∧
 (∀ {a b : Int}, a = b → (a = b) = True) ∧
 (∀ {a b : Int}, ¬a = b → (a = b) = False) ∧
 (∀ {a b : Nat}, a ≤ b → (a ≤ b) = True) ∧
 (∀ {a b : Nat}, ¬a ≤ b → (a ≤ b) = False) ∧
 (∀ {a b : Nat}, a < b → (a < b) = True) ∧
 (∀ {a b : Nat}, ¬a < b → (a < b) = False) ∧
 ((¬True) = False) ∧
 ((¬False) = True) ∧
 (∀ (p : Prop), (True ∧ p) = p) ∧
 (∀ (p : Prop), (p ∧ True) = p) ∧
 (∀ (p : Prop), (False ∧ p) = False) ∧
 (∀ (p : Prop), (p ∧ False) = False) ∧
 (∀ (p : Prop), (p ∧ p) = p) ∧
 (∀ (p : Prop), (p ∨ True) = True) ∧
 (∀ (p : Prop), (True ∨ p) = True) ∧
 (∀ (p : Prop), (p ∨ False) = p) ∧
 (∀ (p : Prop), (False ∨ p) = p) ∧
 (∀ {α β : Type} (a : α) (f : α → Option β), (Option.some a).bind f = f a) ∧
 (∀ (n : Nat), (0 : Nat) + n = n) ∧
 (∀ (n : Nat), n + (0 : Nat) = n) ∧
 (∀ (n : Nat), n - (0 : Nat) = n) ∧
 (∀ (n : Nat), (↑n : Int).toNat = n) ∧
 (Int.toNat (0 : Int) = (0 : Nat)) ∧
 (∀ {x : Int}, (-9223372036854775808 : Int) ≤ x ∧ x ≤ (9223372036854775807 : Int) → Go.IntKind.i64.wrap x = x) ∧
 (∀ {x : Int}, (0 : Int) ≤ x ∧ x < (4294967296 : Int) → Go.IntKind.u32.wrap x = x) ∧
 (∀ {x : Int}, (0 : Int) ≤ x ∧ x < (18446744073709551616 : Int) → Go.IntKind.u64.wrap x = x) ∧
 (∀ {x : Int}, (0 : Int) ≤ x ∧ x < (256 : Int) → Go.IntKind.u8.wrap x = x) ∧
 (∀ {α : Type} {l : List α}, List.take (0 : Nat) l = []) ∧
 (∀ {α : Type} (zs : List α), [] ++ zs = zs) ∧
 (∀ {α : Type} [inst : BEq α] [ReflBEq α] (a : α), (a == a) = Bool.true) ∧
 (∀ {α : Type} [inst : BEq α] [LawfulBEq α] (a : α), (a != a) = Bool.false) ∧
 (∀ {α : Type} (a : α), (a = a) = True) ∧
 ((Bool.false = Bool.true) = False) ∧
 ((Bool.true = Bool.false) = False) ∧
 (∀ {α : Type}, ([] : List α).length = (0 : Nat)) ∧
 ((↑(0 : Nat) : Int) = (0 : Int)) ∧
 ((!Bool.true) = Bool.false) ∧
 ((!Bool.false) = Bool.true) ∧
 (∀ {α β : Type} (f : α → Option β), Option.none.bind f = Option.none) ∧
 (∀ {α : Type} [inst : BEq α] [LawfulBEq α] {a b : α}, (a != b) = Bool.false ↔ a = b) ∧
 (∀ {α : Type} [inst : BEq α] [LawfulBEq α] {a b : α}, (a == b) = Bool.false ↔ a ≠ b) ∧
 (∀ (b : Bool), ((!b) = Bool.true) = (b = Bool.false)) ∧
 (∀ (b : Bool), ((!b) = Bool.false) = (b = Bool.true)) :=
 ⟨@decide_eq_true_eq, @decide_eq_false_iff_not, @beq_iff_eq.{0}, @bne_iff_ne.{0}, @ne_eq.{1}, @gt_iff_lt.{0}, @ge_iff_le.{0}, @ile_t, @ile_f, @ilt_t, @ilt_f, @ieq_t, @ieq_f, @nle_t, @nle_f, @nlt_t, @nlt_f, @not_true_eq_false, @not_false_eq_true, @true_and, @and_true, @false_and, @and_false, @and_self, @or_true, @true_or, @or_false, @false_or, @Option.bind_some.{0,0}, @Nat.zero_add, @Nat.add_zero, @Nat.sub_zero, @Int.toNat_natCast, @Int.toNat_zero, @wrap_i64, @wrap_u32_id, @wrap_u64_id, @wrap_u8_id, @List.take_zero.{0}, @List.nil_append.{0}, @beq_self_eq_true.{0}, @bne_self_eq_false.{0}, @eq_self.{1}, @Bool.false_eq_true, @Bool.true_eq_false, @List.length_nil.{0}, @Int.natCast_zero, @Bool.not_true, @Bool.not_false, @Option.bind_none.{0,0}, @bne_eq_false_iff_eq.{0}, @beq_eq_false_iff_ne.{0}, @Bool.not_eq_true', @Bool.not_eq_false'⟩
/-- What digits are worth, the lowest first. -/
def V (B : Int) : List Int → Int
 | [] => 0
 | x :: r => x + B * V B r
/-- Digits of the base. -/
def Dg (B : Int) (l : List Int) : Prop := ∀ x ∈ l, 0 ≤ x ∧ x < B
/-- Without the noughts at the end. -/
def tl : List Int → List Int
 | [] => []
 | x :: r => if x = 0 ∧ tl r = [] then [] else x :: tl r
theorem tl_snoc (l : List Int) (x : Int) : tl (l ++ [x]) = if x = 0 then tl l else l ++ [x] := by
 induction l with
 | nil => by_cases h : x = 0 <;> simp [tl, h]
 | cons y l ih =>
  simp only [List.cons_append, tl, ih]
  by_cases h : x = 0
  ·simp [h]
  ·simp [h]
theorem tl_len (l : List Int) : (tl l).length ≤ l.length := by
 induction l with
 | nil => exact Nat.le_refl _
 | cons x r ih => simp only [tl]; split <;> simp; omega
theorem tl_take (l : List Int) : l.take (tl l).length = tl l := by
 induction l with
 | nil => rfl
 | cons x r ih =>
  simp only [tl]
  split
  ·rfl
  ·simp [ih]
theorem tl_tl (l : List Int) : tl (tl l) = tl l := by
 induction l with
 | nil => rfl
 | cons x r ih =>
  simp only [tl]
  split
  ·rfl
  ·rename_i h
   simp only [tl, ih]
   rw [if_neg h]
section
variable {B : Int}
theorem Dg.nil : Dg B [] := fun x h => by cases h
theorem Dg.cons {x : Int} {l : List Int} (h : 0 ≤ x ∧ x < B) (hl : Dg B l) : Dg B (x :: l) := fun y hy => by
 rcases List.mem_cons.1 hy with rfl | hy
 ·exact h
 ·exact hl y hy
theorem Dg.tail {x : Int} {l : List Int} (h : Dg B (x :: l)) : Dg B l := fun y hy => h y (List.mem_cons_of_mem _ hy)
theorem Dg.head {x : Int} {l : List Int} (h : Dg B (x :: l)) : 0 ≤ x ∧ x < B := h x (List.mem_cons_self ..)
theorem Dg.append {l m : List Int} (h1 : Dg B l) (h2 : Dg B m) : Dg B (l ++ m) := fun y hy => by
 rcases List.mem_append.1 hy with hy | hy
 ·exact h1 y hy
 ·exact h2 y hy
theorem Dg.take {l : List Int} (h : Dg B l) (n : Nat) : Dg B (l.take n) := fun y hy => h y (List.mem_of_mem_take hy)
theorem Dg.drop {l : List Int} (h : Dg B l) (n : Nat) : Dg B (l.drop n) := fun y hy => h y (List.mem_of_mem_drop hy)
theorem Dg.get {l : List Int} (h : Dg B l) {i : Nat} {x : Int} (e : l[i]? = some x) : 0 ≤ x ∧ x < B := h x (List.mem_of_getElem? e)
theorem Dg.set {l : List Int} (h : Dg B l) (i : Nat) {x : Int} (hx : 0 ≤ x ∧ x < B) : Dg B (l.set i x) := fun y hy => by
 rcases List.mem_or_eq_of_mem_set hy with hy | rfl
 ·exact h y hy
 ·exact hx
theorem Dg.tl {l : List Int} (h : Dg B l) : Dg B (tl l) := by rw [← tl_take]; exact h.take _
theorem V_nonneg (hB : 0 ≤ B) {l : List Int} (h : Dg B l) : 0 ≤ V B l := by
 induction l with
 | nil => exact Int.le_refl _
 | cons x l ih => have := Int.mul_nonneg hB (ih h.tail); have := h.head; simp only [V]; omega
/-- Digits in the one form. -/
def Cn (B : Int) (l : List Int) : Prop := Dg B l ∧ tl l = l
theorem Cn.of {l : List Int} (h : Dg B l) : Cn B (tl l) := ⟨h.tl, tl_tl l⟩
theorem Cn.nil : Cn B [] := ⟨Dg.nil, rfl⟩
theorem Cn.tail {x : Int} {l : List Int} (h : Cn B (x :: l)) : Cn B l := by
 refine ⟨h.1.tail, ?_⟩
 have := h.2
 simp only [tl] at this
 split at this
 ·cases this
 ·simpa using this
theorem Cn.pos {x : Int} {l : List Int} (hB : 0 < B) (h : Cn B (x :: l)) : 0 < V B (x :: l) := by
 induction l generalizing x with
 | nil =>
  have h1 := h.1.head
  have h2 := h.2
  simp only [tl, and_true] at h2
  simp only [V, Int.mul_zero, Int.add_zero]
  split at h2
  ·cases h2
  ·omega
 | cons y l ih =>
  have := ih h.tail
  have := Int.mul_pos hB this
  have := h.1.head
  rw [V]
  omega
theorem Cn.ext (hB : 0 < B) : ∀ {l m : List Int}, Cn B l → Cn B m → V B l = V B m → l = m := by
 intro l
 induction l with
 | nil =>
  intro m h1 h2 e
  cases m with
  | nil => rfl
  | cons y m => have := h2.pos hB; rw [← e] at this; simp [V] at this
 | cons x l ih =>
  intro m h1 h2 e
  cases m with
  | nil => have := h1.pos hB; rw [e] at this; simp [V] at this
  | cons y m =>
   have hx := h1.1.head
   have hy := h2.1.head
   simp only [V] at e
   have e1 : x = y := by
    have a1 : (x + B * V B l) % B = x := by rw [Int.add_mul_emod_self_left]; exact Int.emod_eq_of_lt hx.1 hx.2
    have a2 : (y + B * V B m) % B = y := by rw [Int.add_mul_emod_self_left]; exact Int.emod_eq_of_lt hy.1 hy.2
    rw [← a1, ← a2, e]
   subst e1
   have e2 : B * V B l = B * V B m := by omega
   have e3 := Int.eq_of_mul_eq_mul_left (by omega) e2
   rw [ih h1.tail h2.tail e3]
theorem Cn.nil_iff (hB : 0 < B) {l : List Int} (h : Cn B l) : l = [] ↔ V B l = 0 := by
 constructor
 ·rintro rfl; rfl
 ·intro e; exact Cn.ext hB h Cn.nil e
/-- The last digit isn't 0. -/
theorem Cn.last {l : List Int} (h : Dg B l) : tl l = l ↔ l = [] ∨ ∃ m x, l = m ++ [x] ∧ x ≠ 0 := by
 rcases List.eq_nil_or_concat l with rfl | ⟨m, x, rfl⟩
 ·simp [tl]
 ·simp only [List.concat_eq_append, tl_snoc]
  constructor
  ·intro e
   refine .inr ⟨m, x, rfl, fun h0 => ?_⟩
   rw [if_pos h0] at e
   have := tl_len m
   rw [e] at this
   simp at this
   omega
  ·rintro (e | ⟨m', x', e, h0⟩)
   ·simp at e
   ·obtain ⟨h1, h2⟩ := List.append_inj' e rfl
    simp only [List.cons.injEq, and_true] at h2
    rw [h2, if_neg h0]
end
/-- A signed number: its sign and its digits in the one form. -/
structure Nm (B : Int) (s : Bool) (l : List Int) (z : Int) : Prop where
 c : Cn B l
 sg : s = true → l ≠ []
 z : (if s then -(V B l) else V B l) = z
theorem Nm.ext {B : Int} (hB : 0 < B) {s t : Bool} {l m : List Int} {z : Int} (h1 : Nm B s l z) (h2 : Nm B t m z) : s = t ∧ l = m := by
 have p1 := V_nonneg (B := B) (by omega) h1.c.1
 have p2 := V_nonneg (B := B) (by omega) h2.c.1
 have q1 := h1.c.nil_iff hB
 have q2 := h2.c.nil_iff hB
 have e1 := h1.z
 have e2 := h2.z
 have s1 := h1.sg
 have s2 := h2.sg
 cases s <;> cases t
 ·refine ⟨rfl, Cn.ext hB h1.c h2.c ?_⟩
  simp at e1 e2; omega
 ·have := s2 rfl
  simp at e1 e2
  exact absurd (q2.2 (by omega)) this
 ·have := s1 rfl
  simp at e1 e2
  exact absurd (q1.2 (by omega)) this
 ·refine ⟨rfl, Cn.ext hB h1.c h2.c ?_⟩
  simp at e1 e2; omega
theorem Nm.neg {B : Int} (hB : 0 < B) {s : Bool} {l : List Int} {z : Int} (h : Nm B s l z) : s = decide (z < 0) := by
 have p := V_nonneg (B := B) (by omega) h.c.1
 have e := h.z
 cases s
 ·simp at e
  rw [eq_comm, decide_eq_false_iff_not]; omega
 ·have := h.sg rfl
  have q := mt (h.c.nil_iff hB).2 this
  simp at e
  rw [eq_comm, decide_eq_true_eq]; omega
theorem Nm.of {B : Int} (hB : 0 < B) {l : List Int} (h : Cn B l) {z : Int} (e : V B l = z.natAbs) : Nm B (decide (z < 0)) l z := by
 have p := V_nonneg (B := B) (by omega) h.1
 refine ⟨h, fun hs h0 => ?_, ?_⟩
 ·have := (h.nil_iff hB).1 h0
  simp at hs; omega
 ·by_cases hz : z < 0
  ·simp [hz]; omega
  ·simp [hz]; omega
end Go.Proofs.Ytgiamleohegjeaa.Am
namespace Go.Proofs.Ytgiamleohegjeaa.Am
open Go
theorem Rl.t {α : Type} {c : Prop} [Decidable c] {f g : Nat → Nat → Option α} {r : α} (h : c) (hf : Rl f r) : Rl (fun k n => if c then f k n else g k n) r := by
 simpa only [if_pos h] using hf
theorem Rl.f {α : Type} {c : Prop} [Decidable c] {f g : Nat → Nat → Option α} {r : α} (h : ¬ c) (hg : Rl g r) : Rl (fun k n => if c then f k n else g k n) r := by
 simpa only [if_neg h] using hg
theorem Rl.at {α β : Type} {o : Option α} {g : Nat → Nat → α → Option β} {x : α} {r : β} (h : o = some x) (hg : Rl (fun k n => g k n x) r) : Rl (fun k n => Option.bind o (g k n)) r := by
 simpa only [h, Option.bind_some] using hg
theorem getD_some {α : Type} {l : List α} {i : Nat} (d : α) (h : i < l.length) : l[i]? = some (l.getD i d) := by
 rw [List.getElem?_eq_getElem h]; simp [List.getD, h]
/-- A loop that looks at each place, and leaves at the first that isn't right. -/
theorem scan {A B : Type} (L s : Nat) (F : Nat → Nat → Int → Option (A ⊕ B)) (b : B) (P : A → Prop) (ok : Nat → Prop)
  (hend : Rl (fun k n => F k n (L : Int)) (.inr b))
  (hgo : ∀ i : Nat, s ≤ i → i < L → ok i → ∀ o, Rl (fun k n => F k n ((i : Int) + 1)) o → Rl (fun k n => F k n (i : Int)) o)
  (hno : ∀ i : Nat, s ≤ i → i < L → ¬ ok i → ∃ a, P a ∧ Rl (fun k n => F k n (i : Int)) (.inl a)) :
  ∀ d i : Nat, s ≤ i → i + d = L → ∃ o, Rl (fun k n => F k n (i : Int)) o ∧ ((∀ j, i ≤ j → j < L → ok j) ∧ o = .inr b ∨ (¬ ∀ j, i ≤ j → j < L → ok j) ∧ ∃ a, P a ∧ o = .inl a) := by
 intro d
 induction d with
 | zero =>
  intro i hs hi
  obtain rfl : i = L := by omega
  exact ⟨_, hend, .inl ⟨fun j h1 h2 => absurd h2 (by omega), rfl⟩⟩
 | succ d ih =>
  intro i hs hi
  by_cases h : ok i
  ·obtain ⟨o, h1, h2⟩ := ih (i + 1) (by omega) (by omega)
   refine ⟨o, hgo i hs (by omega) h o h1, ?_⟩
   have e : (∀ j, i + 1 ≤ j → j < L → ok j) ↔ (∀ j, i ≤ j → j < L → ok j) := ⟨fun g j j1 j2 => by
    rcases Nat.lt_or_ge i j with k | k
    ·exact g j k j2
    ·exact (show i = j by omega) ▸ h, fun g j j1 j2 => g j (by omega) j2⟩
   rwa [e] at h2
  ·obtain ⟨a, h1, h2⟩ := hno i hs (by omega) h
   exact ⟨_, h2, .inr ⟨fun g => h (g i (Nat.le_refl _) (by omega)), a, h1, rfl⟩⟩
end Go.Proofs.Ytgiamleohegjeaa.Am
set_option linter.unusedSectionVars false
set_option maxRecDepth 10000
namespace Go.Proofs.Ytgiamleohegjeaa.Am
open Go

/-- A loop over places, by what holds at each. -/
theorem loopI {σ β : Type} (L : Nat) (G : Nat → Nat → Int → σ → Option β) (Inv : Nat → σ → Prop) (Q : β → Prop)
    (hend : ∀ s, Inv L s → ∃ o, Q o ∧ Rl (fun k n => G k n (L : Int) s) o)
    (hgo : ∀ (i : Nat) (s : σ), i < L → Inv i s → (∃ o, Q o ∧ Rl (fun k n => G k n (i : Int) s) o) ∨ ∃ s', Inv (i + 1) s' ∧ ∀ o, Rl (fun k n => G k n ((i + 1 : Nat) : Int) s') o → Rl (fun k n => G k n (i : Int) s) o) :
    ∀ (d i : Nat) (s : σ), i + d = L → Inv i s → ∃ o, Q o ∧ Rl (fun k n => G k n (i : Int) s) o := by
  intro d
  induction d with
  | zero => intro i s hi hs; obtain rfl : i = L := by omega
            exact hend s hs
  | succ d ih =>
    intro i s hi hs
    rcases hgo i s (by omega) hs with h | ⟨s', h1, h2⟩
    · exact h
    · obtain ⟨o, h3, h4⟩ := ih (i + 1) s' (by omega) h1
      exact ⟨o, h3, h2 o h4⟩
/-- The places of a row that hold. -/
def thin (n : Nat) (f : Nat → Bool) : List Int := ((List.range n).filter f).map fun k => ((k : Nat) : Int)
def pat (n : Nat) (m : Nat → Nat → Bool) : List (List Int) := (List.range n).map fun i => thin n (m i)
def sq (n : Nat) (m : Nat → Nat → Bool) : List (List Bool) := (List.range n).map fun i => (List.range n).map (m i)
def Inc (l : List Int) : Prop := l.Pairwise (· < ·)
theorem thin_inc (n : Nat) (f : Nat → Bool) : Inc (thin n f) := by
  unfold Inc thin
  rw [List.pairwise_map]
  exact (List.pairwise_lt_range.filter f).imp (fun h => by omega)
theorem thin_mem {n : Nat} {f : Nat → Bool} {x : Int} : x ∈ thin n f ↔ 0 ≤ x ∧ x < n ∧ f x.toNat = true := by
  unfold thin
  simp only [List.mem_map, List.mem_filter, List.mem_range]
  constructor
  · rintro ⟨k, ⟨h1, h2⟩, rfl⟩
    exact ⟨by omega, by omega, by rwa [Int.toNat_natCast]⟩
  · rintro ⟨h1, h2, h3⟩
    exact ⟨x.toNat, ⟨by omega, h3⟩, by omega⟩
theorem inc_eq {l m : List Int} (hl : Inc l) (hm : Inc m) (h : ∀ x, x ∈ l ↔ x ∈ m) : l = m := by
  refine List.Perm.eq_of_pairwise (le := (· < ·)) (fun a b _ _ h1 h2 => by omega) hl hm ?_
  exact (List.perm_ext_iff_of_nodup (hl.imp (fun h => by omega)) (hm.imp (fun h => by omega))).2 h
theorem inc_thin {l : List Int} (hl : Inc l) {n : Nat} (hr : ∀ x ∈ l, 0 ≤ x ∧ x < n) : l = thin n fun k => l.contains (k : Int) := by
  refine inc_eq hl (thin_inc _ _) fun x => ?_
  rw [thin_mem]
  constructor
  · intro h
    obtain ⟨h1, h2⟩ := hr x h
    refine ⟨h1, h2, ?_⟩
    rw [Int.toNat_of_nonneg h1]
    simpa using h
  · rintro ⟨h1, h2, h3⟩
    rw [Int.toNat_of_nonneg h1] at h3
    simpa using h3
theorem thin_congr {n : Nat} {f g : Nat → Bool} (h : ∀ k, k < n → f k = g k) : thin n f = thin n g := by
  unfold thin
  congr 1
  exact List.filter_congr fun k hk => h k (List.mem_range.1 hk)
theorem thin_len (n : Nat) (f : Nat → Bool) : (thin n f).length = (List.range n).countP f := by
  unfold thin
  rw [List.length_map, List.countP_eq_length_filter]
theorem thin_le (n : Nat) (f : Nat → Bool) : (thin n f).length ≤ n := by
  rw [thin_len]
  have := List.countP_le_length (p := f) (l := List.range n)
  simpa using this
theorem pat_len (n : Nat) (m : Nat → Nat → Bool) : (pat n m).length = n := by simp [pat]
theorem pat_get (n : Nat) (m : Nat → Nat → Bool) {i : Nat} (h : i < n) : (pat n m)[i]? = some (thin n (m i)) := by
  simp [pat, h]
theorem sq_len (n : Nat) (m : Nat → Nat → Bool) : (sq n m).length = n := by simp [sq]
theorem sq_get (n : Nat) (m : Nat → Nat → Bool) {i : Nat} (h : i < n) : (sq n m)[i]? = some ((List.range n).map (m i)) := by
  simp [sq, h]
theorem sqr_get (n : Nat) (f : Nat → Bool) {i : Nat} (h : i < n) : ((List.range n).map f)[i]? = some (f i) := by
  simp [h]
theorem sqr_get' {α : Type} (n : Nat) (f : Nat → α) {i : Nat} (h : i < n) : ((List.range n).map f)[i]? = some (f i) := by
  simp [h]
/-- What is left behind a place. -/
def el (m : Nat → Nat → Bool) (r c i k : Nat) : Bool := (i != r) && (k != c) && (m i k || m i c && m r k)
def rowF (n : Nat) (m : Nat → Nat → Bool) (r c i : Nat) : Nat := if i = r then 0 else (List.range n).countP fun k => !m i k && (m i c && m r k)
/-- How many came in, in the first rows. -/
def flS (n : Nat) (m : Nat → Nat → Bool) (r c : Nat) : Nat → Nat
  | 0 => 0
  | i + 1 => flS n m r c i + rowF n m r c i
theorem rowF_le (n : Nat) (m : Nat → Nat → Bool) (r c i : Nat) : rowF n m r c i ≤ n := by
  unfold rowF
  split
  · omega
  · have := List.countP_le_length (p := fun k => !m i k && (m i c && m r k)) (l := List.range n)
    simpa using this
theorem flS_le (n : Nat) (m : Nat → Nat → Bool) (r c : Nat) : ∀ i, flS n m r c i ≤ i * n
  | 0 => by simp [flS]
  | i + 1 => by
    have := flS_le n m r c i
    have := rowF_le n m r c i
    simp only [flS, Nat.add_mul, Nat.one_mul]
    omega
theorem countP_or (f g : Nat → Bool) (l : List Nat) : l.countP (fun k => f k || g k) = l.countP f + l.countP fun k => !f k && g k := by
  induction l with
  | nil => rfl
  | cons x l ih =>
    simp only [List.countP_cons, ih]
    cases f x <;> cases g x <;> simp <;> omega
/-- Neighbours that are alike taken once. -/
def dd : List Int → List Int := List.foldl (fun acc x => if acc.getLast? = some x then acc else acc ++ [x]) []
theorem dd_snoc (l : List Int) (x : Int) : dd (l ++ [x]) = if (dd l).getLast? = some x then dd l else dd l ++ [x] := by
  unfold dd; rw [List.foldl_append]; rfl
theorem dd_last (l : List Int) : (dd l).getLast? = l.getLast? := by
  rcases List.eq_nil_or_concat l with rfl | ⟨m, x, rfl⟩
  · rfl
  · rw [List.concat_eq_append, dd_snoc]
    split
    · rename_i h; rw [h]; simp
    · simp
theorem dd_mem (l : List Int) (y : Int) : y ∈ dd l ↔ y ∈ l := by
  induction h : l.length generalizing l with
  | zero => rw [List.eq_nil_of_length_eq_zero h]; exact Iff.rfl
  | succ n ih =>
    rcases List.eq_nil_or_concat l with rfl | ⟨m, x, rfl⟩
    · cases h
    · rw [List.concat_eq_append] at h ⊢
      have hm := ih m (by simpa using h)
      rw [dd_snoc]
      split
      · rename_i hl
        rw [List.mem_append, hm, List.mem_singleton]
        constructor
        · exact .inl
        · rintro (h | rfl)
          · exact h
          · exact hm.1 (List.mem_of_getLast? hl)
      · rw [List.mem_append, List.mem_append, hm]
theorem dd_inc {l : List Int} (h : l.Pairwise (· ≤ ·)) : Inc (dd l) := by
  induction hn : l.length generalizing l with
  | zero => rw [List.eq_nil_of_length_eq_zero hn]; exact List.Pairwise.nil
  | succ n ih =>
    rcases List.eq_nil_or_concat l with rfl | ⟨m, x, rfl⟩
    · cases hn
    · rw [List.concat_eq_append] at h hn ⊢
      obtain ⟨h1, _, h2⟩ := List.pairwise_append.1 h
      have hm := ih h1 (by simpa using hn)
      rw [dd_snoc]
      split
      · exact hm
      · rename_i hl
        refine List.pairwise_append.2 ⟨hm, List.pairwise_singleton _ _, fun a ha b hb => ?_⟩
        rw [List.mem_singleton] at hb
        subst hb
        have hle := h2 a ((dd_mem m a).1 ha) b (List.mem_singleton_self b)
        rcases Int.lt_or_eq_of_le hle with h | rfl
        · exact h
        · exfalso
          rcases List.eq_nil_or_concat (dd m) with e | ⟨q, z, e⟩
          · rw [e] at ha; cases ha
          · rw [List.concat_eq_append] at e
            rw [e] at ha hl hm
            simp only [List.getLast?_append, List.getLast?_singleton, Option.some_or, Option.some.injEq] at hl
            have hz : z ≤ a := h2 z ((dd_mem m z).1 (by rw [e]; simp)) a (List.mem_singleton_self a)
            rcases List.mem_append.1 ha with ha | ha
            · have := (List.pairwise_append.1 hm).2.2 a ha z (List.mem_singleton_self z)
              omega
            · rw [List.mem_singleton] at ha; omega
theorem sortI_le (l : List Int) : (sortI l).Pairwise (· ≤ ·) := by
  have := List.pairwise_mergeSort (le := fun x y : Int => decide (x ≤ y)) (fun a b c h1 h2 => by simp at *; omega) (fun a b => by simp; omega) l
  exact this.imp (fun h => by simpa using h)
theorem sortI_mem (l : List Int) (x : Int) : x ∈ sortI l ↔ x ∈ l := (List.mergeSort_perm l _).mem_iff
theorem sortI_len (l : List Int) : (sortI l).length = l.length := List.length_mergeSort l
/-- Two rows together. -/
theorem dd_two (n : Nat) (f g : Nat → Bool) : dd (sortI (thin n f ++ thin n g)) = thin n fun k => f k || g k := by
  refine inc_eq (dd_inc (sortI_le _)) (thin_inc _ _) fun x => ?_
  rw [dd_mem, sortI_mem, List.mem_append, thin_mem, thin_mem, thin_mem, Bool.or_eq_true]
  constructor
  · rintro (⟨h1, h2, h3⟩ | ⟨h1, h2, h3⟩)
    · exact ⟨h1, h2, .inl h3⟩
    · exact ⟨h1, h2, .inr h3⟩
  · rintro ⟨h1, h2, h3 | h3⟩
    · exact .inl ⟨h1, h2, h3⟩
    · exact .inr ⟨h1, h2, h3⟩
theorem thin_del (n : Nat) (f : Nat → Bool) (c : Nat) : (thin n f).filter (fun x => x != (c : Int)) = thin n fun k => (k != c) && f k := by
  refine inc_eq ((thin_inc n f).filter _) (thin_inc _ _) fun x => ?_
  rw [List.mem_filter, thin_mem, thin_mem]
  simp only [bne_iff_ne, ne_eq, Bool.and_eq_true]
  constructor
  · rintro ⟨⟨h1, h2, h3⟩, h4⟩; exact ⟨h1, h2, by omega, h3⟩
  · rintro ⟨h1, h2, h4, h3⟩; exact ⟨⟨h1, h2, h3⟩, by omega⟩
instance (l : List Int) : Decidable (Inc l) := inferInstanceAs (Decidable (l.Pairwise (· < ·)))
def OkR (n : Nat) (r : List Int) : Prop := Inc r ∧ ∀ x ∈ r, 0 ≤ x ∧ x < (n : Int)
instance (n : Nat) (r : List Int) : Decidable (OkR n r) := inferInstanceAs (Decidable (_ ∧ _))
/-- A right pattern. -/
def OkP (p : List (List Int)) : Prop := p.length ≤ 48 ∧ ∀ r ∈ p, OkR p.length r
instance (p : List (List Int)) : Decidable (OkP p) := inferInstanceAs (Decidable (_ ∧ _))
/-- Not longer than memory. -/
def Sm (p : List (List Int)) : Prop := p.length ≤ 1000000000000000000 ∧ ∀ r ∈ p, r.length ≤ 1000000000000000000
theorem inc_steps {l : List Int} : Inc l ↔ ∀ j, 0 < j → j < l.length → l.getD (j - 1) 0 < l.getD j 0 := by
  constructor
  · intro h j h0 hj
    have := (List.pairwise_iff_getElem.1 h) (j - 1) j (by omega) hj (by omega)
    rwa [List.getD_eq_getElem?_getD, List.getD_eq_getElem?_getD, List.getElem?_eq_getElem (by omega), List.getElem?_eq_getElem hj]
  · induction l with
    | nil => intro _; exact List.Pairwise.nil
    | cons x l ih =>
      intro h
      have hi := ih fun j h0 hj => by
        have := h (j + 1) (by omega) (by simpa using hj)
        rw [show j + 1 - 1 = (j - 1) + 1 by omega, List.getD_cons_succ, List.getD_cons_succ] at this
        exact this
      refine List.Pairwise.cons (fun y hy => ?_) hi
      cases l with
      | nil => cases hy
      | cons z l =>
        have h1 : x < z := by simpa using h 1 (by omega) (by simp)
        rcases List.mem_cons.1 hy with rfl | hy
        · exact h1
        · exact Int.lt_trans h1 ((List.pairwise_cons.1 hi).1 y hy)
theorem mem_getD {l : List Int} {P : Int → Prop} : (∀ x ∈ l, P x) ↔ ∀ j, j < l.length → P (l.getD j 0) := by
  constructor
  · intro h j hj
    have hg := getD_some (l := l) (0 : Int) hj
    exact h _ (List.mem_of_getElem? hg)
  · intro h x hx
    obtain ⟨j, hj, e⟩ := List.getElem_of_mem hx
    have := h j hj
    rwa [List.getD_eq_getElem?_getD, List.getElem?_eq_getElem hj, Option.getD_some, e] at this
theorem mem_getDL {l : List (List Int)} {P : List Int → Prop} : (∀ x ∈ l, P x) ↔ ∀ j, 0 ≤ j → j < l.length → P (l.getD j []) := by
  constructor
  · intro h j _ hj
    have hg := getD_some (l := l) ([] : List Int) hj
    exact h _ (List.mem_of_getElem? hg)
  · intro h x hx
    obtain ⟨j, hj, e⟩ := List.getElem_of_mem hx
    have := h j (Nat.zero_le _) hj
    rwa [List.getD_eq_getElem?_getD, List.getElem?_eq_getElem hj, Option.getD_some, e] at this
theorem okR_iff (n : Nat) (r : List Int) : OkR n r ↔ ∀ j, 0 ≤ j → j < r.length → (0 ≤ r.getD j 0 ∧ r.getD j 0 < (n : Int)) ∧ (0 < j → r.getD (j - 1) 0 < r.getD j 0) := by
  unfold OkR
  rw [inc_steps, mem_getD]
  exact ⟨fun h j _ hj => ⟨h.2 j hj, fun h0 => h.1 j h0 hj⟩, fun h => ⟨fun j h0 hj => (h j (Nat.zero_le _) hj).2 h0, fun j hj => (h j (Nat.zero_le _) hj).1⟩⟩
section
variable (p : List (List Int)) (hb : Sm p)
include hb
theorem check2 (r x : List (List Int)) (q : List Int) (x1 x2 : Int) (hq : q.length ≤ 1000000000000000000) : ∃ o, Rl (fun k n => Lsparse_Check_2 k n p q x x1 x2 q q.length (0 : Nat)) o ∧
    (OkR p.length q ∧ o = .inr (p, x, x1, x2) ∨ ¬ OkR p.length q ∧ ∃ a : Int, a = 130 ∧ o = .inl a) := by
  rw [okR_iff]
  refine scan q.length 0 (fun k n i => Lsparse_Check_2 k n p q x x1 x2 q q.length i) (p, x, x1, x2) (fun a => a = 130) _ ?_ ?_ ?_ q.length 0 (by omega) (by omega)
  · refine Rl.up (f := fun k n => Lsparse_Check_2 k n p q x x1 x2 q q.length q.length) (Rl.of 0 fun k n _ => ?_)
    show Lsparse_Check_2s k (Lsparse_Check_2 k n) _ _ _ _ _ _ _ _ = _
    unfold Lsparse_Check_2s
    exact if_neg (by first | omega | (simp only [decide_eq_true_eq, decide_eq_false_iff_not, Int.toNat_natCast, beq_iff_eq, bne_iff_ne, ne_eq, Int.not_lt, Int.not_le, ge_iff_le, gt_iff_lt, beq_eq_false_iff_ne, Nat.zero_add]; omega))
  · intro i hs hi hok o ho
    refine Rl.up (f := fun k n => Lsparse_Check_2 k n p q x x1 x2 q q.length i) ?_
    show Rl (fun k n => Lsparse_Check_2s k (Lsparse_Check_2 k n) _ _ _ _ _ _ _ _) _
    unfold Lsparse_Check_2s
    obtain ⟨h1, h2⟩ := hok
    refine Rl.t (by first | omega | (simp only [decide_eq_true_eq, decide_eq_false_iff_not, Int.toNat_natCast, beq_iff_eq, bne_iff_ne, ne_eq, Int.not_lt, Int.not_le, ge_iff_le, gt_iff_lt, beq_eq_false_iff_ne, Nat.zero_add]; omega)) (Rl.t (by first | omega | (simp only [decide_eq_true_eq, decide_eq_false_iff_not, Int.toNat_natCast, beq_iff_eq, bne_iff_ne, ne_eq, Int.not_lt, Int.not_le, ge_iff_le, gt_iff_lt, beq_eq_false_iff_ne, Nat.zero_add]; omega)) (Rl.at (getD_some 0 (by first | omega | (simp only [decide_eq_true_eq, decide_eq_false_iff_not, Int.toNat_natCast, beq_iff_eq, bne_iff_ne, ne_eq, Int.not_lt, Int.not_le, ge_iff_le, gt_iff_lt, beq_eq_false_iff_ne, Nat.zero_add]; omega))) ?_))
    rw [Int.toNat_natCast, wrap_i64 (x := (i : Int) + 1) (by omega)]
    refine Rl.t (by first | omega | (simp only [decide_eq_true_eq, decide_eq_false_iff_not, Int.toNat_natCast, beq_iff_eq, bne_iff_ne, ne_eq, Int.not_lt, Int.not_le, ge_iff_le, gt_iff_lt, beq_eq_false_iff_ne, Nat.zero_add]; omega)) (Rl.t (by first | omega | (simp only [decide_eq_true_eq, decide_eq_false_iff_not, Int.toNat_natCast, beq_iff_eq, bne_iff_ne, ne_eq, Int.not_lt, Int.not_le, ge_iff_le, gt_iff_lt, beq_eq_false_iff_ne, Nat.zero_add]; omega)) ?_)
    by_cases h0 : 0 < i
    · have e1 : (IntKind.i64.wrap ((i : Int) - 1)) = ((i - 1 : Nat) : Int) := by rw [wrap_i64 (by omega)]; omega
      rw [e1]
      refine Rl.t (by first | omega | (simp only [decide_eq_true_eq, decide_eq_false_iff_not, Int.toNat_natCast, beq_iff_eq, bne_iff_ne, ne_eq, Int.not_lt, Int.not_le, ge_iff_le, gt_iff_lt, beq_eq_false_iff_ne, Nat.zero_add]; omega)) (Rl.t (by first | omega | (simp only [decide_eq_true_eq, decide_eq_false_iff_not, Int.toNat_natCast, beq_iff_eq, bne_iff_ne, ne_eq, Int.not_lt, Int.not_le, ge_iff_le, gt_iff_lt, beq_eq_false_iff_ne, Nat.zero_add]; omega)) (Rl.at (getD_some 0 (by first | omega | (simp only [decide_eq_true_eq, decide_eq_false_iff_not, Int.toNat_natCast, beq_iff_eq, bne_iff_ne, ne_eq, Int.not_lt, Int.not_le, ge_iff_le, gt_iff_lt, beq_eq_false_iff_ne, Nat.zero_add]; omega))) ?_))
      rw [Int.toNat_natCast]
      have := h2 h0
      exact Rl.f (by first | omega | (simp only [decide_eq_true_eq, decide_eq_false_iff_not, Int.toNat_natCast, beq_iff_eq, bne_iff_ne, ne_eq, Int.not_lt, Int.not_le, ge_iff_le, gt_iff_lt, beq_eq_false_iff_ne, Nat.zero_add]; omega)) ho
    · exact Rl.f (by first | omega | (simp only [decide_eq_true_eq, decide_eq_false_iff_not, Int.toNat_natCast, beq_iff_eq, bne_iff_ne, ne_eq, Int.not_lt, Int.not_le, ge_iff_le, gt_iff_lt, beq_eq_false_iff_ne, Nat.zero_add]; omega)) ho
  · intro i hs hi hok
    refine ⟨130, rfl, Rl.up (f := fun k n => Lsparse_Check_2 k n p q x x1 x2 q q.length i) ?_⟩
    show Rl (fun k n => Lsparse_Check_2s k (Lsparse_Check_2 k n) _ _ _ _ _ _ _ _) _
    unfold Lsparse_Check_2s
    refine Rl.t (by first | omega | (simp only [decide_eq_true_eq, decide_eq_false_iff_not, Int.toNat_natCast, beq_iff_eq, bne_iff_ne, ne_eq, Int.not_lt, Int.not_le, ge_iff_le, gt_iff_lt, beq_eq_false_iff_ne, Nat.zero_add]; omega)) (Rl.t (by first | omega | (simp only [decide_eq_true_eq, decide_eq_false_iff_not, Int.toNat_natCast, beq_iff_eq, bne_iff_ne, ne_eq, Int.not_lt, Int.not_le, ge_iff_le, gt_iff_lt, beq_eq_false_iff_ne, Nat.zero_add]; omega)) (Rl.at (getD_some 0 (by first | omega | (simp only [decide_eq_true_eq, decide_eq_false_iff_not, Int.toNat_natCast, beq_iff_eq, bne_iff_ne, ne_eq, Int.not_lt, Int.not_le, ge_iff_le, gt_iff_lt, beq_eq_false_iff_ne, Nat.zero_add]; omega))) ?_))
    rw [Int.toNat_natCast]
    by_cases h1 : q.getD i 0 < 0
    · exact Rl.f (by first | omega | (simp only [decide_eq_true_eq, decide_eq_false_iff_not, Int.toNat_natCast, beq_iff_eq, bne_iff_ne, ne_eq, Int.not_lt, Int.not_le, ge_iff_le, gt_iff_lt, beq_eq_false_iff_ne, Nat.zero_add]; omega)) (Rl.pure _)
    refine Rl.t (by first | omega | (simp only [decide_eq_true_eq, decide_eq_false_iff_not, Int.toNat_natCast, beq_iff_eq, bne_iff_ne, ne_eq, Int.not_lt, Int.not_le, ge_iff_le, gt_iff_lt, beq_eq_false_iff_ne, Nat.zero_add]; omega)) ?_
    by_cases h2 : q.getD i 0 ≥ (p.length : Int)
    · exact Rl.f (by first | omega | (simp only [decide_eq_true_eq, decide_eq_false_iff_not, Int.toNat_natCast, beq_iff_eq, bne_iff_ne, ne_eq, Int.not_lt, Int.not_le, ge_iff_le, gt_iff_lt, beq_eq_false_iff_ne, Nat.zero_add]; omega)) (Rl.pure _)
    refine Rl.t (by first | omega | (simp only [decide_eq_true_eq, decide_eq_false_iff_not, Int.toNat_natCast, beq_iff_eq, bne_iff_ne, ne_eq, Int.not_lt, Int.not_le, ge_iff_le, gt_iff_lt, beq_eq_false_iff_ne, Nat.zero_add]; omega)) ?_
    have h0 : 0 < i ∧ q.getD i 0 ≤ q.getD (i - 1) 0 := by
      by_cases h0 : 0 < i
      · exact ⟨h0, by by_cases h3 : q.getD (i - 1) 0 < q.getD i 0; exact absurd ⟨⟨by omega, by omega⟩, fun _ => h3⟩ hok; omega⟩
      · exact absurd ⟨⟨by omega, by omega⟩, fun h => absurd h h0⟩ hok
    have e1 : (IntKind.i64.wrap ((i : Int) - 1)) = ((i - 1 : Nat) : Int) := by rw [wrap_i64 (by omega)]; omega
    rw [e1]
    refine Rl.t (by first | omega | (simp only [decide_eq_true_eq, decide_eq_false_iff_not, Int.toNat_natCast, beq_iff_eq, bne_iff_ne, ne_eq, Int.not_lt, Int.not_le, ge_iff_le, gt_iff_lt, beq_eq_false_iff_ne, Nat.zero_add]; omega)) (Rl.t (by first | omega | (simp only [decide_eq_true_eq, decide_eq_false_iff_not, Int.toNat_natCast, beq_iff_eq, bne_iff_ne, ne_eq, Int.not_lt, Int.not_le, ge_iff_le, gt_iff_lt, beq_eq_false_iff_ne, Nat.zero_add]; omega)) (Rl.at (getD_some 0 (by first | omega | (simp only [decide_eq_true_eq, decide_eq_false_iff_not, Int.toNat_natCast, beq_iff_eq, bne_iff_ne, ne_eq, Int.not_lt, Int.not_le, ge_iff_le, gt_iff_lt, beq_eq_false_iff_ne, Nat.zero_add]; omega))) ?_))
    rw [Int.toNat_natCast]
    exact Rl.t (by first | omega | (simp only [decide_eq_true_eq, decide_eq_false_iff_not, Int.toNat_natCast, beq_iff_eq, bne_iff_ne, ne_eq, Int.not_lt, Int.not_le, ge_iff_le, gt_iff_lt, beq_eq_false_iff_ne, Nat.zero_add]; omega)) (Rl.pure _)
theorem check0 : ∃ o, Rl (fun k n => Lsparse_Check_0 k n p p p.length (0 : Nat)) o ∧
    ((∀ r ∈ p, OkR p.length r) ∧ o = .inr () ∨ (¬ ∀ r ∈ p, OkR p.length r) ∧ ∃ a : Int, a = 130 ∧ o = .inl a) := by
  rw [mem_getDL]
  refine scan p.length 0 (fun k n i => Lsparse_Check_0 k n p p p.length i) () (fun a => a = 130) _ ?_ ?_ ?_ p.length 0 (by omega) (by omega)
  · refine Rl.up (f := fun k n => Lsparse_Check_0 k n p p p.length p.length) (Rl.of 0 fun k n _ => ?_)
    show Lsparse_Check_0s k (Lsparse_Check_0 k n) _ _ _ _ = _
    unfold Lsparse_Check_0s
    exact if_neg (by first | omega | (simp only [decide_eq_true_eq, decide_eq_false_iff_not, Int.toNat_natCast, beq_iff_eq, bne_iff_ne, ne_eq, Int.not_lt, Int.not_le, ge_iff_le, gt_iff_lt, beq_eq_false_iff_ne, Nat.zero_add]; omega))
  · intro i hs hi hok o ho
    have hl := hb.1
    have hg := getD_some (l := p) ([] : List Int) hi
    obtain ⟨o2, a1, a2⟩ := check2 p hb p p (p.getD i []) p.length i (hb.2 _ (List.mem_of_getElem? hg))
    rcases a2 with ⟨a2, rfl⟩ | ⟨a2, _⟩
    rotate_left
    · exact absurd hok a2
    refine Rl.up (f := fun k n => Lsparse_Check_0 k n p p p.length i) ?_
    show Rl (fun k n => Lsparse_Check_0s k (Lsparse_Check_0 k n) _ _ _ _) _
    unfold Lsparse_Check_0s
    refine Rl.t (by first | omega | (simp only [decide_eq_true_eq, decide_eq_false_iff_not, Int.toNat_natCast, beq_iff_eq, bne_iff_ne, ne_eq, Int.not_lt, Int.not_le, ge_iff_le, gt_iff_lt, beq_eq_false_iff_ne, Nat.zero_add]; omega)) (Rl.t (by first | omega | (simp only [decide_eq_true_eq, decide_eq_false_iff_not, Int.toNat_natCast, beq_iff_eq, bne_iff_ne, ne_eq, Int.not_lt, Int.not_le, ge_iff_le, gt_iff_lt, beq_eq_false_iff_ne, Nat.zero_add]; omega)) (Rl.at (by rw [Int.toNat_natCast]; exact hg) (Rl.bind a1.diag ?_)))
    show Rl (fun k n => Lsparse_Check_0 k n p p p.length (IntKind.i64.wrap ((i : Int) + 1))) o
    rw [wrap_i64 (by omega)]
    exact ho
  · intro i hs hi hok
    have hg := getD_some (l := p) ([] : List Int) hi
    obtain ⟨o2, a1, a2⟩ := check2 p hb p p (p.getD i []) p.length i (hb.2 _ (List.mem_of_getElem? hg))
    rcases a2 with ⟨a2, _⟩ | ⟨a2, a, rfl, rfl⟩
    · exact absurd a2 hok
    refine ⟨130, rfl, Rl.up (f := fun k n => Lsparse_Check_0 k n p p p.length i) ?_⟩
    show Rl (fun k n => Lsparse_Check_0s k (Lsparse_Check_0 k n) _ _ _ _) _
    unfold Lsparse_Check_0s
    exact Rl.t (by first | omega | (simp only [decide_eq_true_eq, decide_eq_false_iff_not, Int.toNat_natCast, beq_iff_eq, bne_iff_ne, ne_eq, Int.not_lt, Int.not_le, ge_iff_le, gt_iff_lt, beq_eq_false_iff_ne, Nat.zero_add]; omega)) (Rl.t (by first | omega | (simp only [decide_eq_true_eq, decide_eq_false_iff_not, Int.toNat_natCast, beq_iff_eq, bne_iff_ne, ne_eq, Int.not_lt, Int.not_le, ge_iff_le, gt_iff_lt, beq_eq_false_iff_ne, Nat.zero_add]; omega)) (Rl.at (by rw [Int.toNat_natCast]; exact hg) (Rl.bind a1.diag (Rl.pure _))))
theorem Check_ev : Rn (fun k => Fsparse_Check k p) (if OkP p then 0 else 130) := by
  refine Rn.up (f := fun k => Fsparse_Check k p) ?_
  show Rn (fun k => bsparse_Check k p) _
  unfold bsparse_Check
  by_cases hl : 48 < p.length
  · rw [if_neg (fun h => by have := h.1; omega)]
    exact Rn.t (by first | omega | (simp only [decide_eq_true_eq, decide_eq_false_iff_not, Int.toNat_natCast, beq_iff_eq, bne_iff_ne, ne_eq, Int.not_lt, Int.not_le, ge_iff_le, gt_iff_lt, beq_eq_false_iff_ne, Nat.zero_add]; omega)) (Rn.pure _)
  refine Rn.f (by first | omega | (simp only [decide_eq_true_eq, decide_eq_false_iff_not, Int.toNat_natCast, beq_iff_eq, bne_iff_ne, ne_eq, Int.not_lt, Int.not_le, ge_iff_le, gt_iff_lt, beq_eq_false_iff_ne, Nat.zero_add]; omega)) ?_
  obtain ⟨o, a1, a2⟩ := check0 p hb
  refine Rn.bind a1.diag ?_
  rcases a2 with ⟨a2, rfl⟩ | ⟨a2, a, rfl, rfl⟩
  · rw [if_pos ⟨by omega, a2⟩]
    exact Rn.pure _
  · rw [if_neg fun h => a2 h.2]
    exact Rn.pure _
end
/-- A right pattern as places. -/
def mp (p : List (List Int)) (i k : Nat) : Bool := (p.getD i []).contains (k : Int)
theorem okP_pat {p : List (List Int)} (h : OkP p) : p = pat p.length (mp p) := by
  apply List.ext_getElem?
  intro i
  by_cases hi : i < p.length
  · rw [pat_get _ _ hi, getD_some ([] : List Int) hi]
    have hg := getD_some (l := p) ([] : List Int) hi
    have hr := h.2 _ (List.mem_of_getElem? hg)
    exact congrArg some (inc_thin hr.1 hr.2)
  · rw [List.getElem?_eq_none (by omega), List.getElem?_eq_none (by rw [pat_len]; omega)]
theorem pat_ok {n : Nat} (m : Nat → Nat → Bool) (h : n ≤ 48) : OkP (pat n m) := by
  refine ⟨by rw [pat_len]; exact h, fun r hr => ?_⟩
  obtain ⟨i, _, rfl⟩ := List.mem_map.1 hr
  exact ⟨thin_inc _ _, fun x hx => by have := thin_mem.1 hx; rw [pat_len]; exact ⟨this.1, this.2.1⟩⟩
theorem pat_sm {n : Nat} (m : Nat → Nat → Bool) (h : n ≤ 48) : Sm (pat n m) := by
  refine ⟨by rw [pat_len]; omega, fun r hr => ?_⟩
  obtain ⟨i, _, rfl⟩ := List.mem_map.1 hr
  have := thin_le n (m i); omega
theorem contains_snoc (l : List Int) (x y : Int) : (l ++ [x]).contains y = (l.contains y || decide (y = x)) := by
  rw [Bool.eq_iff_iff, Bool.or_eq_true, List.contains_iff_mem, List.contains_iff_mem, List.mem_append, List.mem_singleton, decide_eq_true_eq]
theorem toNat_c (i : Nat) : Int.toNat (i : Int) = i := Int.toNat_natCast i
theorem contains_ev (s : List Int) (v : Int) (h : s.length ≤ 1000000000000000000) : Rn (fun k => Fslices_Contains_int_int_ k s v) (s.contains v) := by
  obtain ⟨o, a1, a2⟩ : ∃ o, Rl (fun k n => Lslices_Index_int_int__0 k n s v s.length (0 : Nat)) o ∧
      ((∀ j, 0 ≤ j → j < s.length → s.getD j 0 ≠ v) ∧ o = .inr () ∨ (¬ ∀ j, 0 ≤ j → j < s.length → s.getD j 0 ≠ v) ∧ ∃ a : Int, 0 ≤ a ∧ o = .inl a) := by
    refine scan s.length 0 (fun k n i => Lslices_Index_int_int__0 k n s v s.length i) () (fun a => 0 ≤ a) _ ?_ ?_ ?_ s.length 0 (by omega) (by omega)
    · refine Rl.up (f := fun k n => Lslices_Index_int_int__0 k n s v s.length s.length) (Rl.of 0 fun k n _ => ?_)
      show Lslices_Index_int_int__0s k (Lslices_Index_int_int__0 k n) _ _ _ _ = _
      unfold Lslices_Index_int_int__0s
      exact if_neg (by first | omega | (simp only [decide_eq_true_eq, decide_eq_false_iff_not, Int.toNat_natCast, beq_iff_eq, bne_iff_ne, ne_eq, Int.not_lt, Int.not_le, ge_iff_le, gt_iff_lt, beq_eq_false_iff_ne, Nat.zero_add]; omega))
    · intro i hs hi hok o ho
      refine Rl.up (f := fun k n => Lslices_Index_int_int__0 k n s v s.length i) ?_
      show Rl (fun k n => Lslices_Index_int_int__0s k (Lslices_Index_int_int__0 k n) _ _ _ _) _
      unfold Lslices_Index_int_int__0s
      refine Rl.t (by first | omega | (simp only [decide_eq_true_eq, decide_eq_false_iff_not, Int.toNat_natCast, beq_iff_eq, bne_iff_ne, ne_eq, Int.not_lt, Int.not_le, ge_iff_le, gt_iff_lt, beq_eq_false_iff_ne, Nat.zero_add]; omega)) (Rl.t (by first | omega | (simp only [decide_eq_true_eq, decide_eq_false_iff_not, Int.toNat_natCast, beq_iff_eq, bne_iff_ne, ne_eq, Int.not_lt, Int.not_le, ge_iff_le, gt_iff_lt, beq_eq_false_iff_ne, Nat.zero_add]; omega)) (Rl.at (by rw [toNat_c]; exact getD_some 0 hi) (Rl.f (by rw [beq_iff_eq]; exact fun h => hok h.symm) ?_)))
      rw [wrap_i64 (by omega)]
      exact ho
    · intro i hs hi hok
      refine ⟨(i : Int), by omega, Rl.up (f := fun k n => Lslices_Index_int_int__0 k n s v s.length i) ?_⟩
      show Rl (fun k n => Lslices_Index_int_int__0s k (Lslices_Index_int_int__0 k n) _ _ _ _) _
      unfold Lslices_Index_int_int__0s
      exact Rl.t (by first | omega | (simp only [decide_eq_true_eq, decide_eq_false_iff_not, Int.toNat_natCast, beq_iff_eq, bne_iff_ne, ne_eq, Int.not_lt, Int.not_le, ge_iff_le, gt_iff_lt, beq_eq_false_iff_ne, Nat.zero_add]; omega)) (Rl.t (by first | omega | (simp only [decide_eq_true_eq, decide_eq_false_iff_not, Int.toNat_natCast, beq_iff_eq, bne_iff_ne, ne_eq, Int.not_lt, Int.not_le, ge_iff_le, gt_iff_lt, beq_eq_false_iff_ne, Nat.zero_add]; omega)) (Rl.at (by rw [toNat_c]; exact getD_some 0 hi) (Rl.t (by rw [beq_iff_eq]; exact (Decidable.not_not.1 hok).symm) (Rl.pure _))))
  have hc : (∀ j, 0 ≤ j → j < s.length → s.getD j 0 ≠ v) ↔ s.contains v = false := by
    have := mem_getD (l := s) (P := fun x => x ≠ v)
    rw [← Bool.not_eq_true, List.contains_iff_mem]
    constructor
    · intro h hm; exact (this.2 fun j hj => h j (Nat.zero_le _) hj) v hm rfl
    · intro h j _ hj; exact this.1 (fun x hx e => h (e ▸ hx)) j hj
  refine Rn.up (f := fun k => Fslices_Contains_int_int_ k s v) ?_
  show Rn (fun k => bslices_Contains_int_int_ k s v) _
  unfold bslices_Contains_int_int_
  have ix : ∀ r, Rn (fun k => bslices_Index_int_int_ k s v) r → Rn (fun k => Fslices_Index_int_int_ k s v) r := fun r h => Rn.up (f := fun k => Fslices_Index_int_int_ k s v) h
  unfold bslices_Index_int_int_ at ix
  rcases a2 with ⟨a2, rfl⟩ | ⟨a2, a, h0, rfl⟩
  · refine Rn.bind (ix (-1) (Rn.bind a1.diag (Rn.pure _))) ?_
    rw [hc.1 a2]
    exact Rn.pure _
  · refine Rn.bind (ix a (Rn.bind a1.diag (Rn.pure _))) ?_
    rw [hc, Bool.not_eq_false] at a2
    rw [a2]
    exact Rn.const (by rw [decide_eq_true (by omega)])
theorem clone_ev (s : List Int) (h : s.length ≤ 1000000000) : Rn (fun k => Fslices_Clone_int_int_ k s) (s.length, s) := by
  refine Rn.up (f := fun k => Fslices_Clone_int_int_ k s) ?_
  show Rn (fun k => bslices_Clone_int_int_ k s) _
  unfold bslices_Clone_int_int_
  exact Rn.t (g := fun _ => none) (by omega) (Rn.pure _)
theorem sort_ev (s : List Int) (h : s.length ≤ 1000000000) (n : Nat) (hn : n = s.length) : Rn (fun k => Fslices_Sort_int_int__mfi k n s) (sortI s) := by
  subst hn
  refine Rn.up (f := fun k => Fslices_Sort_int_int__mfi k s.length s) ?_
  show Rn (fun k => bslices_Sort_int_int__mfi k s.length s) _
  unfold bslices_Sort_int_int__mfi
  refine Rn.t (g := fun _ => none) (by omega) (Rn.const ?_)
  simp
theorem take_get {α : Type} {l m : List α} {k : Nat} (h : l.drop k = m.drop k) {j : Nat} (hj : k ≤ j) : l[j]? = m[j]? := by
  have := congrArg (fun x : List α => x[j - k]?) h
  simp only [List.getElem?_drop] at this
  rwa [show k + (j - k) = j by omega] at this
theorem take_set_snoc {l : List Int} {k : Nat} {x : Int} (h : k < l.length) : (l.set k x).take (k + 1) = l.take k ++ [x] := by
  apply List.ext_getElem?
  intro i
  rw [List.getElem?_take, List.getElem?_append, List.length_take, List.getElem?_set, List.getElem?_take]
  by_cases h1 : i < k
  · rw [if_pos (by omega), if_neg (by omega), if_pos (by omega), if_pos h1]
  · by_cases h2 : i = k
    · subst h2; rw [if_pos (by omega), if_pos rfl, if_pos h, if_neg (by omega)]; simp [show min i l.length = i by omega]
    · rw [if_neg (by omega), if_neg (by omega), show min k l.length = k by omega, List.getElem?_eq_none (by simp; omega)]
theorem drop_set (l : List Int) (k : Nat) (x : Int) : (l.set k x).drop (k + 1) = l.drop (k + 1) := by
  rw [List.drop_set, if_pos (by omega)]
theorem drop_next {l m : List Int} {k : Nat} (h : l.drop k = m.drop k) : l.drop (k + 1) = m.drop (k + 1) := by
  rw [← List.drop_drop, ← List.drop_drop, h]
theorem last_take {l : List Int} {i : Nat} (h0 : 0 < i) (hi : i ≤ l.length) : (l.take i).getLast? = some (l.getD (i - 1) 0) := by
  rw [List.getLast?_eq_getElem?, List.length_take, List.getElem?_take, if_pos (by omega), show min i l.length - 1 = i - 1 by omega]
  exact getD_some 0 (by omega)
theorem take_snoc (l : List Int) {i : Nat} (hi : i < l.length) : l.take (i + 1) = l.take i ++ [l.getD i 0] := by
  rw [List.take_add_one, getD_some (0 : Int) hi]; rfl
theorem compact2 (ss : List Int) (a : Nat) (ha : 0 < a) (hl : ss.length ≤ 1000000000) (has : a < ss.length) (h0 : dd (ss.take (a + 1)) = ss.take a) :
    ∃ o : Nat × Int × List Int, (∃ kk : Nat, o.1 = ss.length ∧ o.2.1 = kk ∧ kk < ss.length ∧ a ≤ kk ∧ o.2.2.length = ss.length ∧ o.2.2.take kk = dd ss) ∧
      Rl (fun k n => Lslices_Compact_int_int__mfi_2 k n ss.length a a (ss.length - a) (1 : Nat) ss) o := by
  refine loopI (σ := Int × List Int) (ss.length - a) (fun k n i s => Lslices_Compact_int_int__mfi_2 k n ss.length s.1 a (ss.length - a) i s.2)
    (fun i s => ∃ kk : Nat, s.1 = kk ∧ a ≤ kk ∧ kk + 1 ≤ a + i ∧ s.2.length = ss.length ∧ s.2.take kk = dd (ss.take (a + i)) ∧ s.2.drop kk = ss.drop kk ∧ 1 ≤ i) _ ?_ ?_ (ss.length - a - 1) 1 ((a : Int), ss) (by omega) ⟨a, rfl, by omega, by omega, rfl, h0.symm, rfl, by omega⟩
  · rintro ⟨k1, l⟩ ⟨kk, rfl, h1, h2, h3, h4, h5, h6⟩
    refine ⟨(ss.length, (kk : Int), l), ⟨kk, rfl, rfl, by omega, h1, h3, ?_⟩, ?_⟩
    · rw [show a + (ss.length - a) = ss.length by omega, List.take_length] at h4; exact h4
    · refine Rl.up (f := fun k n => Lslices_Compact_int_int__mfi_2 k n ss.length kk a (ss.length - a) ((ss.length - a : Nat) : Int) l) (Rl.of 0 fun k n _ => ?_)
      show Lslices_Compact_int_int__mfi_2s k (Lslices_Compact_int_int__mfi_2 k n) _ _ _ _ _ _ = _
      unfold Lslices_Compact_int_int__mfi_2s
      exact if_neg (by first | omega | (simp only [decide_eq_true_eq, decide_eq_false_iff_not, Int.toNat_natCast, beq_iff_eq, bne_iff_ne, ne_eq, Int.not_lt, Int.not_le, ge_iff_le, gt_iff_lt, beq_eq_false_iff_ne, Nat.zero_add]; omega))
  · rintro i ⟨k1, l⟩ hi ⟨kk, rfl, h1, h2, h3, h4, h5, h6⟩
    right
    simp only at h3 h4 h5
    have e1 : (IntKind.i64.wrap ((i : Int) - 1)) = ((i - 1 : Nat) : Int) := by rw [wrap_i64 (by omega)]; omega
    have g1 : l[a + i]? = some (ss.getD (a + i) 0) := by rw [take_get h5 (by omega)]; exact getD_some 0 (by omega)
    have g2 : l[a + (i - 1)]? = some (ss.getD (a + i - 1) 0) := by rw [take_get h5 (by omega), show a + (i - 1) = a + i - 1 by omega]; exact getD_some 0 (by omega)
    have hlast := dd_last (ss.take (a + i))
    rw [last_take (by omega) (by omega)] at hlast
    have hsn : dd (ss.take (a + (i + 1))) = if (some (ss.getD (a + i - 1) 0)) = some (ss.getD (a + i) 0) then dd (ss.take (a + i)) else dd (ss.take (a + i)) ++ [ss.getD (a + i) 0] := by
      rw [show a + (i + 1) = a + i + 1 by omega, take_snoc ss (by omega), dd_snoc, hlast]
    have step : ∀ o s', (if (ss.getD (a + i) 0 != ss.getD (a + i - 1) 0) = true then s' = ((kk : Int) + 1, l.set kk (ss.getD (a + i) 0)) else s' = ((kk : Int), l)) → Rl (fun k n => Lslices_Compact_int_int__mfi_2 k n ss.length s'.1 a (ss.length - a) ((i + 1 : Nat) : Int) s'.2) o →
        Rl (fun k n => Lslices_Compact_int_int__mfi_2 k n ss.length kk a (ss.length - a) i l) o := by
      intro o s' hs' ho
      refine Rl.up (f := fun k n => Lslices_Compact_int_int__mfi_2 k n ss.length kk a (ss.length - a) i l) ?_
      show Rl (fun k n => Lslices_Compact_int_int__mfi_2s k (Lslices_Compact_int_int__mfi_2 k n) _ _ _ _ _ _) _
      unfold Lslices_Compact_int_int__mfi_2s
      rw [e1, toNat_c, toNat_c]
      refine Rl.t (by first | omega | (simp only [decide_eq_true_eq, decide_eq_false_iff_not, Int.toNat_natCast, beq_iff_eq, bne_iff_ne, ne_eq, Int.not_lt, Int.not_le, ge_iff_le, gt_iff_lt, beq_eq_false_iff_ne, Nat.zero_add]; omega)) (Rl.t (by first | omega | (simp only [decide_eq_true_eq, decide_eq_false_iff_not, Int.toNat_natCast, beq_iff_eq, bne_iff_ne, ne_eq, Int.not_lt, Int.not_le, ge_iff_le, gt_iff_lt, beq_eq_false_iff_ne, Nat.zero_add]; omega)) (Rl.at g1 (Rl.t (by first | omega | (simp only [decide_eq_true_eq, decide_eq_false_iff_not, Int.toNat_natCast, beq_iff_eq, bne_iff_ne, ne_eq, Int.not_lt, Int.not_le, ge_iff_le, gt_iff_lt, beq_eq_false_iff_ne, Nat.zero_add]; omega)) (Rl.at g2 ?_))))
      rw [wrap_i64 (x := (i : Int) + 1) (by omega)]
      split at hs'
      · rename_i hne
        subst hs'
        refine Rl.t hne (Rl.t (by first | omega | (simp only [decide_eq_true_eq, decide_eq_false_iff_not, Int.toNat_natCast, beq_iff_eq, bne_iff_ne, ne_eq, Int.not_lt, Int.not_le, ge_iff_le, gt_iff_lt, beq_eq_false_iff_ne, Nat.zero_add]; omega)) (Rl.at g1 (Rl.t (by first | omega | (simp only [decide_eq_true_eq, decide_eq_false_iff_not, Int.toNat_natCast, beq_iff_eq, bne_iff_ne, ne_eq, Int.not_lt, Int.not_le, ge_iff_le, gt_iff_lt, beq_eq_false_iff_ne, Nat.zero_add]; omega)) (Rl.at (getD_some (0 : Int) (by rw [Int.toNat_natCast]; omega)) ?_))))
        rw [wrap_i64 (x := (kk : Int) + 1) (by omega), Int.toNat_natCast, Nat.zero_add]
        exact ho
      · rename_i hne
        subst hs'
        exact Rl.f hne ho
    by_cases hne : (ss.getD (a + i) 0 != ss.getD (a + i - 1) 0) = true
    · refine ⟨((kk : Int) + 1, l.set kk (ss.getD (a + i) 0)), ⟨kk + 1, rfl, by omega, by omega, by rw [List.length_set]; exact h3, ?_, ?_, by omega⟩, fun o ho => step o _ (by rw [if_pos hne]) ho⟩
      · rw [bne_iff_ne, ne_eq] at hne
        rw [hsn, if_neg (fun h => hne (by injection h with h; exact h.symm)), ← h4]
        exact take_set_snoc (by omega)
      · exact (drop_set l kk _).trans (drop_next h5)
    · refine ⟨((kk : Int), l), ⟨kk, rfl, h1, by omega, h3, ?_, h5, by omega⟩, fun o ho => step o _ (by rw [if_neg hne]) ho⟩
      rw [Bool.not_eq_true, bne_eq_false_iff_eq] at hne
      rw [hsn, if_pos (by rw [hne])]
      exact h4
theorem compact_ev (ss : List Int) (hl : ss.length ≤ 1000000000) (n : Nat) (hn : n = ss.length) : ∃ m r, Rn (fun k => Fslices_Compact_int_int__mfi k n ss) (m, r) ∧ r.length = ss.length ∧ m ≤ ss.length ∧ r.take m = dd ss := by
  subst hn
  have up : ∀ r, Rn (fun k => bslices_Compact_int_int__mfi k ss.length ss) r → Rn (fun k => Fslices_Compact_int_int__mfi k ss.length ss) r := fun r h => Rn.up (f := fun k => Fslices_Compact_int_int__mfi k ss.length ss) h
  unfold bslices_Compact_int_int__mfi at up
  by_cases h2 : ss.length < 2
  · refine ⟨ss.length, ss, up _ (Rn.t (by first | omega | (simp only [decide_eq_true_eq, decide_eq_false_iff_not, Int.toNat_natCast, beq_iff_eq, bne_iff_ne, ne_eq, Int.not_lt, Int.not_le, ge_iff_le, gt_iff_lt, beq_eq_false_iff_ne, Nat.zero_add]; omega)) (Rn.pure _)), rfl, Nat.le_refl _, ?_⟩
    rw [List.take_length]
    match ss, h2 with
    | [], _ => rfl
    | [x], _ => rfl
  obtain ⟨o, h, a1⟩ : ∃ o : (Nat × List Int) ⊕ (Nat × List Int), (∃ m r, (o = .inl (m, r) ∨ o = .inr (m, r)) ∧ r.length = ss.length ∧ m ≤ ss.length ∧ r.take m = dd ss) ∧ Rl (fun k n => Lslices_Compact_int_int__mfi_0 k n ss.length (1 : Nat) ss) o := by
    refine loopI (σ := Unit) ss.length (fun k n i s => Lslices_Compact_int_int__mfi_0 k n ss.length i ss) (fun i _ => 1 ≤ i ∧ dd (ss.take i) = ss.take i) _ ?_ ?_ (ss.length - 1) 1 () (by omega) ⟨Nat.le_refl _, ?_⟩
    · rintro _ ⟨h1, h2⟩
      refine ⟨.inr (ss.length, ss), ⟨ss.length, ss, .inr rfl, rfl, Nat.le_refl _, ?_⟩, Rl.up (f := fun k n => Lslices_Compact_int_int__mfi_0 k n ss.length ss.length ss) (Rl.of 0 fun k n _ => ?_)⟩
      · rw [List.take_length] at h2 ⊢; exact h2.symm
      · show Lslices_Compact_int_int__mfi_0s k (Lslices_Compact_int_int__mfi_0 k n) _ _ _ = _
        unfold Lslices_Compact_int_int__mfi_0s
        exact if_neg (by first | omega | (simp only [decide_eq_true_eq, decide_eq_false_iff_not, Int.toNat_natCast, beq_iff_eq, bne_iff_ne, ne_eq, Int.not_lt, Int.not_le, ge_iff_le, gt_iff_lt, beq_eq_false_iff_ne, Nat.zero_add]; omega))
    · rintro i _ hi ⟨h1, h2⟩
      have e1 : (IntKind.i64.wrap ((i : Int) - 1)) = ((i - 1 : Nat) : Int) := by rw [wrap_i64 (by omega)]; omega
      have hlast := dd_last (ss.take i)
      rw [last_take (by omega) (by omega)] at hlast
      have hsn : dd (ss.take (i + 1)) = if (some (ss.getD (i - 1) 0)) = some (ss.getD i 0) then dd (ss.take i) else dd (ss.take i) ++ [ss.getD i 0] := by
        rw [take_snoc ss (by omega), dd_snoc, hlast]
      have g1 : ss[0 + i]? = some (ss.getD i 0) := by rw [Nat.zero_add]; exact getD_some 0 hi
      have g2 : ss[0 + (i - 1)]? = some (ss.getD (i - 1) 0) := by rw [Nat.zero_add]; exact getD_some 0 (by omega)
      have step : ∀ o, Rl (fun k n => Lslices_Compact_int_int__mfi_0s k (Lslices_Compact_int_int__mfi_0 k n) ss.length i ss) o → Rl (fun k n => Lslices_Compact_int_int__mfi_0 k n ss.length i ss) o :=
        fun o ho => Rl.up (f := fun k n => Lslices_Compact_int_int__mfi_0 k n ss.length i ss) ho
      unfold Lslices_Compact_int_int__mfi_0s at step
      rw [e1, toNat_c, toNat_c, toNat_c, wrap_i64 (x := (i : Int) + 1) (by omega)] at step
      by_cases he : (ss.getD i 0 == ss.getD (i - 1) 0) = true
      · left
        have he' : ss.getD i 0 = ss.getD (i - 1) 0 := by simpa using he
        obtain ⟨⟨q1, q2, q3⟩, ⟨kk, rfl, rfl, b3, b4, b5, b6⟩, a2⟩ := compact2 ss i (by omega) hl hi (by rw [hsn, if_pos (by rw [he']), h2])
        simp only at b5 b6
        refine ⟨.inl (kk, (q3.take kk ++ List.replicate (ss.length - kk) 0) ++ q3.drop (kk + (ss.length - kk))), ⟨kk, _, .inl rfl, by simp [b5]; omega, by omega, ?_⟩, step _ (Rl.t (by first | omega | (simp only [decide_eq_true_eq, decide_eq_false_iff_not, Int.toNat_natCast, beq_iff_eq, bne_iff_ne, ne_eq, Int.not_lt, Int.not_le, ge_iff_le, gt_iff_lt, beq_eq_false_iff_ne, Nat.zero_add]; omega)) (Rl.t (by first | omega | (simp only [decide_eq_true_eq, decide_eq_false_iff_not, Int.toNat_natCast, beq_iff_eq, bne_iff_ne, ne_eq, Int.not_lt, Int.not_le, ge_iff_le, gt_iff_lt, beq_eq_false_iff_ne, Nat.zero_add]; omega)) (Rl.at g1 (Rl.t (by first | omega | (simp only [decide_eq_true_eq, decide_eq_false_iff_not, Int.toNat_natCast, beq_iff_eq, bne_iff_ne, ne_eq, Int.not_lt, Int.not_le, ge_iff_le, gt_iff_lt, beq_eq_false_iff_ne, Nat.zero_add]; omega)) (Rl.at g2 (Rl.t he ?_))))))⟩
        · rw [List.append_assoc, List.take_append_of_le_length (by simp [b5]; omega), List.take_take, Nat.min_self]
          exact b6
        · refine Rl.t (g := fun _ _ => none) ⟨by omega, by omega, by omega, .inl (by omega)⟩ (Rl.bind (x := (ss.length, (kk : Int), q3)) ?_ ?_)
          · have := a2.diag
            rw [Nat.zero_add]
            exact this
          · simp only [toNat_c, Nat.zero_add]
            exact Rl.t (g := fun _ _ => none) ⟨by omega, by omega, by omega, .inl (by omega)⟩ (Rl.t (g := fun _ _ => none) (by omega) (Rl.t (g := fun _ _ => none) ⟨by omega, by omega, by simp [b5]; omega, .inr (by trivial)⟩ (Rl.pure _)))
      · right
        refine ⟨(), ⟨by omega, ?_⟩, fun o ho => step o (Rl.t (by first | omega | (simp only [decide_eq_true_eq, decide_eq_false_iff_not, Int.toNat_natCast, beq_iff_eq, bne_iff_ne, ne_eq, Int.not_lt, Int.not_le, ge_iff_le, gt_iff_lt, beq_eq_false_iff_ne, Nat.zero_add]; omega)) (Rl.t (by first | omega | (simp only [decide_eq_true_eq, decide_eq_false_iff_not, Int.toNat_natCast, beq_iff_eq, bne_iff_ne, ne_eq, Int.not_lt, Int.not_le, ge_iff_le, gt_iff_lt, beq_eq_false_iff_ne, Nat.zero_add]; omega)) (Rl.at g1 (Rl.t (by first | omega | (simp only [decide_eq_true_eq, decide_eq_false_iff_not, Int.toNat_natCast, beq_iff_eq, bne_iff_ne, ne_eq, Int.not_lt, Int.not_le, ge_iff_le, gt_iff_lt, beq_eq_false_iff_ne, Nat.zero_add]; omega)) (Rl.at g2 (Rl.f he ho))))))⟩
        rw [hsn, if_neg, h2, take_snoc ss hi]
        intro h
        injection h with h
        exact he (by rw [h]; simp)
    · match ss, h2 with
      | x :: y :: r, _ => rfl
      | [x], h2 => simp at h2
      | [], h2 => simp at h2
  obtain ⟨m, r, ho, h1, h3, h4⟩ := h
  refine ⟨m, r, up _ (Rn.f (by first | omega | (simp only [decide_eq_true_eq, decide_eq_false_iff_not, Int.toNat_natCast, beq_iff_eq, bne_iff_ne, ne_eq, Int.not_lt, Int.not_le, ge_iff_le, gt_iff_lt, beq_eq_false_iff_ne, Nat.zero_add]; omega)) (Rn.bind a1.diag ?_)), h1, h3, h4⟩
  rcases ho with rfl | rfl
  · exact Rn.pure _
  · exact Rn.pure _
theorem clos_ev (x c : Int) : Rn (fun k => Fsparse_eliminate_1 k x c) (x == c) := Rn.up (f := fun k => Fsparse_eliminate_1 k x c) (Rn.pure _)
theorem indexF_ev (ss : List Int) (s : Nat) (c : Int) (hs : s ≤ ss.length) (hl : ss.length ≤ 1000000000) :
    (∀ x ∈ ss.take s, x ≠ c) ∧ Rn (fun k => Fslices_IndexFunc_int_int__tfn k s c ss) (-1, ss) ∨
    ∃ i : Nat, i < s ∧ (∀ x ∈ ss.take i, x ≠ c) ∧ ss.getD i 0 = c ∧ Rn (fun k => Fslices_IndexFunc_int_int__tfn k s c ss) ((i : Int), ss) := by
  obtain ⟨o, h, a1⟩ : ∃ o : (Int × List Int) ⊕ (List Int), ((∀ x ∈ ss.take s, x ≠ c) ∧ o = .inr ss ∨ ∃ i : Nat, i < s ∧ (∀ x ∈ ss.take i, x ≠ c) ∧ ss.getD i 0 = c ∧ o = .inl ((i : Int), ss)) ∧ Rl (fun k n => Lslices_IndexFunc_int_int__tfn_0 k n s c s (0 : Nat) ss) o := by
    refine loopI (σ := Unit) s (fun k n i _ => Lslices_IndexFunc_int_int__tfn_0 k n s c s i ss) (fun i _ => ∀ x ∈ ss.take i, x ≠ c) _ ?_ ?_ s 0 () (by omega) (by simp)
    · rintro _ h
      refine ⟨.inr ss, .inl ⟨h, rfl⟩, Rl.up (f := fun k n => Lslices_IndexFunc_int_int__tfn_0 k n s c s s ss) (Rl.of 0 fun k n _ => ?_)⟩
      show Lslices_IndexFunc_int_int__tfn_0s k (Lslices_IndexFunc_int_int__tfn_0 k n) _ _ _ _ _ = _
      unfold Lslices_IndexFunc_int_int__tfn_0s
      exact if_neg (by first | omega | (simp only [decide_eq_true_eq, decide_eq_false_iff_not, Int.toNat_natCast, beq_iff_eq, bne_iff_ne, ne_eq, Int.not_lt, Int.not_le, ge_iff_le, gt_iff_lt, beq_eq_false_iff_ne, Nat.zero_add]; omega))
    · rintro i _ hi h
      have step : ∀ o, Rl (fun k n => Lslices_IndexFunc_int_int__tfn_0s k (Lslices_IndexFunc_int_int__tfn_0 k n) s c s i ss) o → Rl (fun k n => Lslices_IndexFunc_int_int__tfn_0 k n s c s i ss) o :=
        fun o ho => Rl.up (f := fun k n => Lslices_IndexFunc_int_int__tfn_0 k n s c s i ss) ho
      unfold Lslices_IndexFunc_int_int__tfn_0s at step
      rw [toNat_c, wrap_i64 (x := (i : Int) + 1) (by omega), Nat.zero_add] at step
      have g := getD_some (l := ss) (0 : Int) (show i < ss.length by omega)
      by_cases he : ss.getD i 0 = c
      · exact .inl ⟨.inl ((i : Int), ss), .inr ⟨i, hi, h, he, rfl⟩, step _ (Rl.t (by first | omega | (simp only [decide_eq_true_eq, decide_eq_false_iff_not, Int.toNat_natCast, beq_iff_eq, bne_iff_ne, ne_eq, Int.not_lt, Int.not_le, ge_iff_le, gt_iff_lt, beq_eq_false_iff_ne, Nat.zero_add]; omega)) (Rl.t (by first | omega | (simp only [decide_eq_true_eq, decide_eq_false_iff_not, Int.toNat_natCast, beq_iff_eq, bne_iff_ne, ne_eq, Int.not_lt, Int.not_le, ge_iff_le, gt_iff_lt, beq_eq_false_iff_ne, Nat.zero_add]; omega)) (Rl.at g (Rl.bind (clos_ev _ _) (Rl.t (by rw [beq_iff_eq]; exact he) (Rl.pure _))))))⟩
      · refine .inr ⟨(), ?_, fun o ho => step _ (Rl.t (by first | omega | (simp only [decide_eq_true_eq, decide_eq_false_iff_not, Int.toNat_natCast, beq_iff_eq, bne_iff_ne, ne_eq, Int.not_lt, Int.not_le, ge_iff_le, gt_iff_lt, beq_eq_false_iff_ne, Nat.zero_add]; omega)) (Rl.t (by first | omega | (simp only [decide_eq_true_eq, decide_eq_false_iff_not, Int.toNat_natCast, beq_iff_eq, bne_iff_ne, ne_eq, Int.not_lt, Int.not_le, ge_iff_le, gt_iff_lt, beq_eq_false_iff_ne, Nat.zero_add]; omega)) (Rl.at g (Rl.bind (clos_ev _ _) (Rl.f (by rw [beq_iff_eq]; exact he) ho)))))⟩
        rw [take_snoc ss (by omega)]
        intro x hx
        rcases List.mem_append.1 hx with hx | hx
        · exact h x hx
        · rw [List.mem_singleton] at hx; subst hx; exact he
  have up : ∀ r, Rn (fun k => bslices_IndexFunc_int_int__tfn k s c ss) r → Rn (fun k => Fslices_IndexFunc_int_int__tfn k s c ss) r := fun r h => Rn.up (f := fun k => Fslices_IndexFunc_int_int__tfn k s c ss) h
  unfold bslices_IndexFunc_int_int__tfn at up
  rcases h with ⟨h, rfl⟩ | ⟨i, h1, h2, h3, rfl⟩
  · exact .inl ⟨h, up _ (Rn.bind a1.diag (Rn.pure _))⟩
  · exact .inr ⟨i, h1, h2, h3, up _ (Rn.bind a1.diag (Rn.pure _))⟩
theorem filt_id {l : List Int} {c : Int} (h : ∀ x ∈ l, x ≠ c) : l.filter (fun x => x != c) = l := List.filter_eq_self.2 fun x hx => by rw [bne_iff_ne]; exact h x hx
theorem deleteF_ev (ss : List Int) (s : Nat) (c : Int) (hs : s ≤ ss.length) (hl : ss.length ≤ 1000000000) :
    ∃ m r, Rn (fun k => Fslices_DeleteFunc_int_int__tfn k s c ss) (m, r) ∧ r.length = ss.length ∧ m ≤ ss.length ∧ r.take m = (ss.take s).filter fun x => x != c := by
  have up : ∀ r, Rn (fun k => bslices_DeleteFunc_int_int__tfn k s c ss) r → Rn (fun k => Fslices_DeleteFunc_int_int__tfn k s c ss) r := fun r h => Rn.up (f := fun k => Fslices_DeleteFunc_int_int__tfn k s c ss) h
  unfold bslices_DeleteFunc_int_int__tfn at up
  rcases indexF_ev ss s c hs hl with ⟨h1, h2⟩ | ⟨i, h0, h1, h3, h2⟩
  · exact ⟨s, ss, up _ (Rn.bind h2 (Rn.t (by rfl) (Rn.pure _))), rfl, hs, (filt_id h1).symm⟩
  · obtain ⟨o, ⟨ii, q1, q2, q3, q4, q5⟩, a1⟩ : ∃ o : Nat × Int × List Int, (∃ ii : Nat, o.1 = s ∧ o.2.1 = ii ∧ ii < s ∧ o.2.2.length = ss.length ∧ o.2.2.take ii = (ss.take s).filter fun x => x != c) ∧
        Rl (fun k n => Lslices_DeleteFunc_int_int__tfn_0 k n s c i ((i + 1 : Nat) : Int) ss) o := by
      refine loopI (σ := Int × List Int) s (fun k n j t => Lslices_DeleteFunc_int_int__tfn_0 k n s c t.1 j t.2) (fun j t => ∃ ii : Nat, t.1 = ii ∧ ii < j ∧ t.2.length = ss.length ∧ t.2.take ii = ((ss.take j).filter fun x => x != c) ∧ t.2.drop ii = ss.drop ii) _ ?_ ?_ (s - (i + 1)) (i + 1) ((i : Int), ss) (by omega) ⟨i, rfl, by omega, rfl, ?_, rfl⟩
      · rintro ⟨i1, l⟩ ⟨ii, rfl, h1, h2, h3, h4⟩
        refine ⟨(s, (ii : Int), l), ⟨ii, rfl, rfl, h1, h2, h3⟩, Rl.up (f := fun k n => Lslices_DeleteFunc_int_int__tfn_0 k n s c ii s l) (Rl.of 0 fun k n _ => ?_)⟩
        show Lslices_DeleteFunc_int_int__tfn_0s k (Lslices_DeleteFunc_int_int__tfn_0 k n) _ _ _ _ _ = _
        unfold Lslices_DeleteFunc_int_int__tfn_0s
        exact if_neg (by first | omega | (simp only [decide_eq_true_eq, decide_eq_false_iff_not, Int.toNat_natCast, beq_iff_eq, bne_iff_ne, ne_eq, Int.not_lt, Int.not_le, ge_iff_le, gt_iff_lt, beq_eq_false_iff_ne, Nat.zero_add]; omega))
      · rintro j ⟨i1, l⟩ hj ⟨ii, rfl, h1, h2, h3, h4⟩
        right
        simp only at h2 h3 h4
        have step : ∀ o, Rl (fun k n => Lslices_DeleteFunc_int_int__tfn_0s k (Lslices_DeleteFunc_int_int__tfn_0 k n) s c ii j l) o → Rl (fun k n => Lslices_DeleteFunc_int_int__tfn_0 k n s c ii j l) o :=
          fun o ho => Rl.up (f := fun k n => Lslices_DeleteFunc_int_int__tfn_0 k n s c ii j l) ho
        unfold Lslices_DeleteFunc_int_int__tfn_0s at step
        rw [toNat_c, toNat_c, wrap_i64 (x := (j : Int) + 1) (by omega), wrap_i64 (x := (ii : Int) + 1) (by omega), Nat.zero_add, Nat.zero_add] at step
        have g : l[j]? = some (ss.getD j 0) := by rw [take_get h4 (by omega)]; exact getD_some 0 (by omega)
        have htk : (ss.take (j + 1)).filter (fun x => x != c) = ((ss.take j).filter fun x => x != c) ++ if ss.getD j 0 = c then [] else [ss.getD j 0] := by
          rw [take_snoc ss (by omega), List.filter_append]
          congr 1
          split
          · rename_i e; rw [e]; simp
          · rename_i e; rw [List.filter_cons, if_pos (by rw [bne_iff_ne]; exact e)]; rfl
        by_cases he : ss.getD j 0 = c
        · refine ⟨((ii : Int), l), ⟨ii, rfl, by omega, h2, ?_, h4⟩, fun o ho => step _ (Rl.t (by first | omega | (simp only [decide_eq_true_eq, decide_eq_false_iff_not, Int.toNat_natCast, beq_iff_eq, bne_iff_ne, ne_eq, Int.not_lt, Int.not_le, ge_iff_le, gt_iff_lt, beq_eq_false_iff_ne, Nat.zero_add]; omega)) (Rl.t (by first | omega | (simp only [decide_eq_true_eq, decide_eq_false_iff_not, Int.toNat_natCast, beq_iff_eq, bne_iff_ne, ne_eq, Int.not_lt, Int.not_le, ge_iff_le, gt_iff_lt, beq_eq_false_iff_ne, Nat.zero_add]; omega)) (Rl.at g (Rl.bind (clos_ev _ _) (Rl.f (by rw [he]; simp) ho)))))⟩
          rw [htk, if_pos he, List.append_nil]; exact h3
        · refine ⟨((ii : Int) + 1, l.set ii (ss.getD j 0)), ⟨ii + 1, rfl, by omega, by rw [List.length_set]; exact h2, ?_, (drop_set l ii _).trans (drop_next h4)⟩, fun o ho => step _ (Rl.t (by first | omega | (simp only [decide_eq_true_eq, decide_eq_false_iff_not, Int.toNat_natCast, beq_iff_eq, bne_iff_ne, ne_eq, Int.not_lt, Int.not_le, ge_iff_le, gt_iff_lt, beq_eq_false_iff_ne, Nat.zero_add]; omega)) (Rl.t (by first | omega | (simp only [decide_eq_true_eq, decide_eq_false_iff_not, Int.toNat_natCast, beq_iff_eq, bne_iff_ne, ne_eq, Int.not_lt, Int.not_le, ge_iff_le, gt_iff_lt, beq_eq_false_iff_ne, Nat.zero_add]; omega)) (Rl.at g (Rl.bind (clos_ev _ _) (Rl.t (by rw [beq_eq_false_iff_ne.2 he]; rfl) (Rl.t (by first | omega | (simp only [decide_eq_true_eq, decide_eq_false_iff_not, Int.toNat_natCast, beq_iff_eq, bne_iff_ne, ne_eq, Int.not_lt, Int.not_le, ge_iff_le, gt_iff_lt, beq_eq_false_iff_ne, Nat.zero_add]; omega)) (Rl.at (getD_some (0 : Int) (by omega)) ho)))))))⟩
          rw [htk, if_neg he, ← h3]
          exact take_set_snoc (by omega)
      · rw [take_snoc ss (by omega), List.filter_append, filt_id h1, h3]
        simp
    obtain ⟨o1, o2, l⟩ := o
    simp only at q1 q2 q4 q5
    have q1 := q1.symm
    subst q1 q2
    refine ⟨ii, (l.take ii ++ List.replicate (s - ii) 0) ++ l.drop (ii + (s - ii)), up _ (Rn.bind h2 (Rn.f (by rw [beq_iff_eq]; simp only; omega) (Rn.bind (x := (s, (ii : Int), l)) ?_ ?_))), by simp [q4]; omega, by omega, ?_⟩
    · simp only
      rw [wrap_i64 (by omega)]
      exact a1.diag
    · simp only [toNat_c, Nat.zero_add]
      exact Rn.t (g := fun _ => none) ⟨by omega, by omega, by omega, .inl (by omega)⟩ (Rn.t (g := fun _ => none) (by omega) (Rn.t (g := fun _ => none) ⟨by omega, by omega, by simp [q4]; omega, .inr (by trivial)⟩ (Rn.pure _)))
    · rw [List.append_assoc, List.take_append_of_le_length (by simp [q4]; omega), List.take_take, Nat.min_self]
      exact q5
theorem map_set {α : Type} (n : Nat) (f : Nat → α) (c : Nat) (b : α) : ((List.range n).map f).set c b = (List.range n).map fun k => if k = c then b else f k := by
  apply List.ext_getElem?
  intro i
  rw [List.getElem?_set]
  simp only [List.length_map, List.length_range, List.getElem?_map]
  by_cases hi : c = i
  · subst hi
    by_cases hc : c < n
    · simp [hc]
    · simp [hc]
  · rw [if_neg hi]
    by_cases hc : i < n
    · simp [hc, Ne.symm hi]
    · simp [hc]
/-- The rows that are done. -/
def outR (n : Nat) (m : Nat → Nat → Bool) (r c i : Nat) : List (List Int) := (List.range n).map fun a => if a < i then thin n (el m r c a) else []
theorem outR_next (n : Nat) (m : Nat → Nat → Bool) (r c i : Nat) : (outR n m r c i).set i (thin n (el m r c i)) = outR n m r c (i + 1) := by
  unfold outR
  rw [map_set]
  refine List.map_congr_left fun a _ => ?_
  by_cases h : a = i
  · subst h; rw [if_pos rfl, if_pos (by omega)]
  · rw [if_neg h]
    by_cases h2 : a < i
    · rw [if_pos h2, if_pos (by omega)]
    · rw [if_neg h2, if_neg (by omega)]
theorem el_row (n : Nat) (m : Nat → Nat → Bool) (r c : Nat) : thin n (el m r c r) = [] := by
  unfold thin el
  simp
theorem outR_len (n : Nat) (m : Nat → Nat → Bool) (r c i : Nat) : (outR n m r c i).length = n := by simp [outR]
theorem outR_get (n : Nat) (m : Nat → Nat → Bool) (r c i : Nat) (h : i < n) : (outR n m r c i)[i]? = some [] := by simp [outR, h]
abbrev ElT := List (List Int) × Int × Nat × Int × List (List Int) × Int × Int × Int × List (List Int)
section
variable {n r c : Nat} (m : Nat → Nat → Bool) (hn : n ≤ 48) (hr : r < n) (hc : c < n)
include hn hr hc
theorem thin_has (f : Nat → Bool) : (thin n f).contains (c : Int) = f c := by
  rw [Bool.eq_iff_iff, List.contains_iff_mem, thin_mem, toNat_c]
  exact ⟨fun h => h.2.2, fun h => ⟨by omega, by omega, h⟩⟩
theorem elim_step (i : Nat) (hi : i < n) (hd : ElT → ElT ⊕ ElT) (hh : hd = Sum.inl ∨ hd = Sum.inr) (F : Int) (hF : 0 ≤ F ∧ F ≤ 1000000) :
    ∃ hd' : ElT → ElT ⊕ ElT, (hd' = Sum.inl ∨ hd' = Sum.inr) ∧ ∀ o, Rl (fun k q => Lsparse_eliminate_0 k q (hd' (pat n m, (r : Int), n, F + rowF n m r c i, pat n m, (n : Int), ((i + 1 : Nat) : Int), (c : Int), outR n m r c (i + 1)))) o →
      Rl (fun k q => Lsparse_eliminate_0 k q (hd (pat n m, (r : Int), n, F, pat n m, (n : Int), (i : Int), (c : Int), outR n m r c i))) o := by
  have hrl := rowF_le n m r c i
  by_cases hir : i = r
  · subst hir
    refine ⟨hd, hh, fun o ho => ?_⟩
    have e0 : rowF n m i c i = 0 := by unfold rowF; rw [if_pos rfl]
    have e1 : outR n m i c (i + 1) = outR n m i c i := by
      rw [← outR_next, el_row]
      have := outR_get n m i c i hi
      obtain ⟨h1, h2⟩ := List.getElem?_eq_some_iff.1 this
      conv => lhs; arg 3; rw [← h2]
      rw [List.set_getElem_self]
    rw [e0, e1, Int.natCast_zero, Int.add_zero] at ho
    have hw := wrap_i64 (x := (i : Int) + 1) (by omega)
    refine Rl.up (f := fun k q => Lsparse_eliminate_0 k q (hd (pat n m, (i : Int), n, F, pat n m, (n : Int), (i : Int), (c : Int), outR n m i c i))) ?_
    show Rl (fun k q => Lsparse_eliminate_0s k (Lsparse_eliminate_0 k q) _) _
    unfold Lsparse_eliminate_0s
    rcases hh with rfl | rfl
    · simp only [eitherK]
      refine Rl.t (by first | omega | (simp only [decide_eq_true_eq, decide_eq_false_iff_not, Int.toNat_natCast, beq_iff_eq, bne_iff_ne, ne_eq, Int.not_lt, Int.not_le, ge_iff_le, gt_iff_lt, beq_eq_false_iff_ne, Nat.zero_add]; omega)) (Rl.t (by first | omega | (simp only [decide_eq_true_eq, decide_eq_false_iff_not, Int.toNat_natCast, beq_iff_eq, bne_iff_ne, ne_eq, Int.not_lt, Int.not_le, ge_iff_le, gt_iff_lt, beq_eq_false_iff_ne, Nat.zero_add]; omega)) (Rl.at (by rw [toNat_c]; exact pat_get n m hi) (Rl.t (by simp) ?_)))
      rw [hw]; exact ho
    · simp only [eitherK]
      refine Rl.t (by first | omega | (simp only [decide_eq_true_eq, decide_eq_false_iff_not, Int.toNat_natCast, beq_iff_eq, bne_iff_ne, ne_eq, Int.not_lt, Int.not_le, ge_iff_le, gt_iff_lt, beq_eq_false_iff_ne, Nat.zero_add]; omega)) (Rl.t (by first | omega | (simp only [decide_eq_true_eq, decide_eq_false_iff_not, Int.toNat_natCast, beq_iff_eq, bne_iff_ne, ne_eq, Int.not_lt, Int.not_le, ge_iff_le, gt_iff_lt, beq_eq_false_iff_ne, Nat.zero_add]; omega)) (Rl.at (by rw [toNat_c]; exact pat_get n m hi) (Rl.t (by simp) ?_)))
      rw [hw]; exact ho
  · refine ⟨Sum.inr, .inr rfl, fun o ho => ?_⟩
    have hw := wrap_i64 (x := (i : Int) + 1) (by omega)
    have hlen := thin_le n (m i)
    have hlenr := thin_le n (m r)
    have hin := contains_ev (thin n (m i)) (c : Int) (by omega)
    rw [thin_has hn hr hc] at hin
    have hcl := clone_ev (thin n (m i)) (by omega)
    have hne : ¬ ((i : Int) == (r : Int)) = true := by rw [beq_iff_eq]; omega
    have go : ∀ hd : ElT → ElT ⊕ ElT, hd = Sum.inl ∨ hd = Sum.inr → ∀ o, Rl (fun k q => Lsparse_eliminate_0s k (Lsparse_eliminate_0 k q) (hd (pat n m, (r : Int), n, F, pat n m, (n : Int), (i : Int), (c : Int), outR n m r c i))) o →
        Rl (fun k q => Lsparse_eliminate_0 k q (hd (pat n m, (r : Int), n, F, pat n m, (n : Int), (i : Int), (c : Int), outR n m r c i))) o :=
      fun hd _ o h => Rl.up (f := fun k q => Lsparse_eliminate_0 k q (hd (pat n m, (r : Int), n, F, pat n m, (n : Int), (i : Int), (c : Int), outR n m r c i))) h
    refine go hd hh o ?_
    unfold Lsparse_eliminate_0s
    by_cases hm : m i c = true
    · rw [hm] at hin
      obtain ⟨m1, l1, b1, b2, b3, b4⟩ := compact_ev (sortI (thin n (m i) ++ thin n (m r))) (by rw [sortI_len, List.length_append]; omega) ((thin n (m i)).length + (thin n (m r)).length) (by rw [sortI_len, List.length_append])
      rw [dd_two] at b4
      rw [sortI_len, List.length_append] at b2 b3
      obtain ⟨m2, l2, c1, c2, c3, c4⟩ := deleteF_ev l1 m1 (c : Int) (by omega) (by omega)
      rw [b4, thin_del] at c4
      have hm1 : m1 = (List.range n).countP (m i) + rowF n m r c i := by
        have := congrArg List.length b4
        rw [List.length_take, thin_len, countP_or] at this
        unfold rowF
        rw [if_neg hir]
        have e : (fun k => !m i k && (m i c && m r k)) = fun k => !m i k && m r k := by funext k; rw [hm, Bool.true_and]
        rw [e]
        omega
      have hel : thin n (fun k => (k != c) && (m i k || m r k)) = thin n (el m r c i) := thin_congr fun k _ => by
        unfold el
        have : (i != r) = true := by rw [bne_iff_ne]; exact hir
        rw [this, hm, Bool.true_and, Bool.true_and]
      rw [hel] at c4
      have hll := thin_len n (m i)
      have hfill : IntKind.i64.wrap (F + IntKind.i64.wrap ((m1 : Int) - ((thin n (m i)).length : Nat))) = F + rowF n m r c i := by
        rw [wrap_i64 (x := (m1 : Int) - _) (by omega), wrap_i64 (by omega)]
        omega
      have hso := sort_ev (thin n (m i) ++ thin n (m r)) (by rw [List.length_append]; omega) ((thin n (m i)).length + (thin n (m r)).length) (by rw [List.length_append])
      have ho' : Rl (fun k q => Lsparse_eliminate_0 k q (Sum.inr (pat n m, (r : Int), n, IntKind.i64.wrap (F + IntKind.i64.wrap ((m1 : Int) - ((thin n (m i)).length : Nat))), pat n m, (n : Int), IntKind.i64.wrap ((i : Int) + 1), (c : Int), tset (outR n m r c i) (Int.toNat (i : Int)) (l2.take m2)))) o := by
        rw [hfill, hw, c4, toNat_c, tset_eq (by rw [outR_len]; exact hi), outR_next]; exact ho
      rcases hh with rfl | rfl
      · simp only [eitherK]
        refine Rl.t (by first | omega | (simp only [decide_eq_true_eq, decide_eq_false_iff_not, Int.toNat_natCast, beq_iff_eq, bne_iff_ne, ne_eq, Int.not_lt, Int.not_le, ge_iff_le, gt_iff_lt, beq_eq_false_iff_ne, Nat.zero_add]; omega)) (Rl.t (by first | omega | (simp only [decide_eq_true_eq, decide_eq_false_iff_not, Int.toNat_natCast, beq_iff_eq, bne_iff_ne, ne_eq, Int.not_lt, Int.not_le, ge_iff_le, gt_iff_lt, beq_eq_false_iff_ne, Nat.zero_add]; omega)) (Rl.at (by rw [toNat_c]; exact pat_get n m hi) (Rl.f hne (Rl.bind hcl (Rl.bind hin (Rl.t rfl (Rl.t (by first | omega | (simp only [decide_eq_true_eq, decide_eq_false_iff_not, Int.toNat_natCast, beq_iff_eq, bne_iff_ne, ne_eq, Int.not_lt, Int.not_le, ge_iff_le, gt_iff_lt, beq_eq_false_iff_ne, Nat.zero_add]; omega)) (Rl.at (by rw [toNat_c]; exact pat_get n m hr) (Rl.t (g := fun _ _ => none) (by simp) (Rl.t (g := fun _ _ => none) (by simp only; omega) ?_))))))))))
        simp only [List.take_length]
        exact Rl.bind hso (Rl.bind b1 (Rl.bind c1 (Rl.t (g := fun _ _ => none) (by first | omega | (simp only [decide_eq_true_eq, decide_eq_false_iff_not, Int.toNat_natCast, beq_iff_eq, bne_iff_ne, ne_eq, Int.not_lt, Int.not_le, ge_iff_le, gt_iff_lt, beq_eq_false_iff_ne, Nat.zero_add]; omega)) (Rl.t (g := fun _ _ => none) (by rw [toNat_c, outR_len]; exact hi) (Rl.t (g := fun _ _ => none) (by simp only; omega) ho')))))
      · simp only [eitherK]
        refine Rl.t (by first | omega | (simp only [decide_eq_true_eq, decide_eq_false_iff_not, Int.toNat_natCast, beq_iff_eq, bne_iff_ne, ne_eq, Int.not_lt, Int.not_le, ge_iff_le, gt_iff_lt, beq_eq_false_iff_ne, Nat.zero_add]; omega)) (Rl.t (by first | omega | (simp only [decide_eq_true_eq, decide_eq_false_iff_not, Int.toNat_natCast, beq_iff_eq, bne_iff_ne, ne_eq, Int.not_lt, Int.not_le, ge_iff_le, gt_iff_lt, beq_eq_false_iff_ne, Nat.zero_add]; omega)) (Rl.at (by rw [toNat_c]; exact pat_get n m hi) (Rl.f hne (Rl.bind hcl (Rl.bind hin (Rl.t rfl (Rl.t (by first | omega | (simp only [decide_eq_true_eq, decide_eq_false_iff_not, Int.toNat_natCast, beq_iff_eq, bne_iff_ne, ne_eq, Int.not_lt, Int.not_le, ge_iff_le, gt_iff_lt, beq_eq_false_iff_ne, Nat.zero_add]; omega)) (Rl.at (by rw [toNat_c]; exact pat_get n m hr) (Rl.t (g := fun _ _ => none) (by simp) (Rl.t (g := fun _ _ => none) (by simp only; omega) ?_))))))))))
        simp only [List.take_length]
        exact Rl.bind hso (Rl.bind b1 (Rl.bind c1 (Rl.t (g := fun _ _ => none) (by first | omega | (simp only [decide_eq_true_eq, decide_eq_false_iff_not, Int.toNat_natCast, beq_iff_eq, bne_iff_ne, ne_eq, Int.not_lt, Int.not_le, ge_iff_le, gt_iff_lt, beq_eq_false_iff_ne, Nat.zero_add]; omega)) (Rl.t (g := fun _ _ => none) (by rw [toNat_c, outR_len]; exact hi) (Rl.t (g := fun _ _ => none) (by simp only; omega) ho')))))
    · have hm' : m i c = false := by simpa using hm
      rw [hm'] at hin
      obtain ⟨m2, l2, c1, c2, c3, c4⟩ := deleteF_ev (thin n (m i)) (thin n (m i)).length (c : Int) (by omega) (by omega)
      rw [List.take_length, thin_del] at c4
      have hel : thin n (fun k => (k != c) && m i k) = thin n (el m r c i) := thin_congr fun k _ => by
        unfold el
        have : (i != r) = true := by rw [bne_iff_ne]; exact hir
        rw [this, hm', Bool.true_and, Bool.false_and, Bool.or_false]
      rw [hel] at c4
      have hz : rowF n m r c i = 0 := by
        unfold rowF
        rw [if_neg hir, List.countP_eq_zero]
        intro k _
        rw [hm']; simp
      rw [hz, Int.natCast_zero, Int.add_zero] at ho
      have ho' : Rl (fun k q => Lsparse_eliminate_0 k q (Sum.inr (pat n m, (r : Int), n, F, pat n m, (n : Int), IntKind.i64.wrap ((i : Int) + 1), (c : Int), tset (outR n m r c i) (Int.toNat (i : Int)) (l2.take m2)))) o := by
        rw [hw, c4, toNat_c, tset_eq (by rw [outR_len]; exact hi), outR_next]; exact ho
      rcases hh with rfl | rfl
      · simp only [eitherK]
        exact Rl.t (by first | omega | (simp only [decide_eq_true_eq, decide_eq_false_iff_not, Int.toNat_natCast, beq_iff_eq, bne_iff_ne, ne_eq, Int.not_lt, Int.not_le, ge_iff_le, gt_iff_lt, beq_eq_false_iff_ne, Nat.zero_add]; omega)) (Rl.t (by first | omega | (simp only [decide_eq_true_eq, decide_eq_false_iff_not, Int.toNat_natCast, beq_iff_eq, bne_iff_ne, ne_eq, Int.not_lt, Int.not_le, ge_iff_le, gt_iff_lt, beq_eq_false_iff_ne, Nat.zero_add]; omega)) (Rl.at (by rw [toNat_c]; exact pat_get n m hi) (Rl.f hne (Rl.bind hcl (Rl.bind hin (Rl.f (by simp) (Rl.bind c1 (Rl.t (g := fun _ _ => none) (by first | omega | (simp only [decide_eq_true_eq, decide_eq_false_iff_not, Int.toNat_natCast, beq_iff_eq, bne_iff_ne, ne_eq, Int.not_lt, Int.not_le, ge_iff_le, gt_iff_lt, beq_eq_false_iff_ne, Nat.zero_add]; omega)) (Rl.t (g := fun _ _ => none) (by rw [toNat_c, outR_len]; exact hi) (Rl.t (g := fun _ _ => none) (by simp only; omega) ho'))))))))))
      · simp only [eitherK]
        exact Rl.t (by first | omega | (simp only [decide_eq_true_eq, decide_eq_false_iff_not, Int.toNat_natCast, beq_iff_eq, bne_iff_ne, ne_eq, Int.not_lt, Int.not_le, ge_iff_le, gt_iff_lt, beq_eq_false_iff_ne, Nat.zero_add]; omega)) (Rl.t (by first | omega | (simp only [decide_eq_true_eq, decide_eq_false_iff_not, Int.toNat_natCast, beq_iff_eq, bne_iff_ne, ne_eq, Int.not_lt, Int.not_le, ge_iff_le, gt_iff_lt, beq_eq_false_iff_ne, Nat.zero_add]; omega)) (Rl.at (by rw [toNat_c]; exact pat_get n m hi) (Rl.f hne (Rl.bind hcl (Rl.bind hin (Rl.f (by simp) (Rl.bind c1 (Rl.t (g := fun _ _ => none) (by first | omega | (simp only [decide_eq_true_eq, decide_eq_false_iff_not, Int.toNat_natCast, beq_iff_eq, bne_iff_ne, ne_eq, Int.not_lt, Int.not_le, ge_iff_le, gt_iff_lt, beq_eq_false_iff_ne, Nat.zero_add]; omega)) (Rl.t (g := fun _ _ => none) (by rw [toNat_c, outR_len]; exact hi) (Rl.t (g := fun _ _ => none) (by simp only; omega) ho'))))))))))
theorem elim_ev : Rn (fun k => Fsparse_eliminate k (pat n m) (r : Int) (c : Int)) (pat n (el m r c), ((flS n m r c n : Nat) : Int)) := by
  have hT : outR n m r c 0 = List.replicate n [] := by
    unfold outR
    apply List.ext_getElem?
    intro i
    by_cases h : i < n
    · simp [h]
    · simp [h]
  have hE : outR n m r c n = pat n (el m r c) := List.map_congr_left fun a ha => if_pos (List.mem_range.1 ha)
  obtain ⟨o, h, a1⟩ : ∃ o : (Nat × Int × Int × List (List Int)) ⊕ (Nat × Int × Int × List (List Int)), (o = .inl (n, ((flS n m r c n : Nat) : Int), (c : Int), pat n (el m r c)) ∨ o = .inr (n, ((flS n m r c n : Nat) : Int), (c : Int), pat n (el m r c))) ∧
      Rl (fun k q => Lsparse_eliminate_0 k q (Sum.inl (pat n m, (r : Int), n, (0 : Int), pat n m, (n : Int), ((0 : Nat) : Int), (c : Int), outR n m r c 0))) o := by
    refine loopI (σ := (ElT → ElT ⊕ ElT) × Int × List (List Int)) n (fun k q i s => Lsparse_eliminate_0 k q (s.1 (pat n m, (r : Int), n, s.2.1, pat n m, (n : Int), i, (c : Int), s.2.2)))
      (fun i s => (s.1 = Sum.inl ∨ s.1 = Sum.inr) ∧ s.2.1 = ((flS n m r c i : Nat) : Int) ∧ s.2.2 = outR n m r c i) _ ?_ ?_ n 0 (Sum.inl, 0, outR n m r c 0) (by omega) ⟨.inl rfl, rfl, rfl⟩
    · rintro ⟨hd, F, outs⟩ ⟨h1, h2, h3⟩
      simp only at h1 h2 h3
      subst h2 h3
      rw [hE]
      rcases h1 with rfl | rfl
      · refine ⟨_, .inl rfl, Rl.up (f := fun k q => Lsparse_eliminate_0 k q (Sum.inl (pat n m, (r : Int), n, ((flS n m r c n : Nat) : Int), pat n m, (n : Int), (n : Int), (c : Int), pat n (el m r c)))) (Rl.of 0 fun k q _ => ?_)⟩
        show Lsparse_eliminate_0s k (Lsparse_eliminate_0 k q) _ = _
        unfold Lsparse_eliminate_0s
        exact if_neg (by first | omega | (simp only [decide_eq_true_eq, decide_eq_false_iff_not, Int.toNat_natCast, beq_iff_eq, bne_iff_ne, ne_eq, Int.not_lt, Int.not_le, ge_iff_le, gt_iff_lt, beq_eq_false_iff_ne, Nat.zero_add]; omega))
      · refine ⟨_, .inr rfl, Rl.up (f := fun k q => Lsparse_eliminate_0 k q (Sum.inr (pat n m, (r : Int), n, ((flS n m r c n : Nat) : Int), pat n m, (n : Int), (n : Int), (c : Int), pat n (el m r c)))) (Rl.of 0 fun k q _ => ?_)⟩
        show Lsparse_eliminate_0s k (Lsparse_eliminate_0 k q) _ = _
        unfold Lsparse_eliminate_0s
        exact if_neg (by first | omega | (simp only [decide_eq_true_eq, decide_eq_false_iff_not, Int.toNat_natCast, beq_iff_eq, bne_iff_ne, ne_eq, Int.not_lt, Int.not_le, ge_iff_le, gt_iff_lt, beq_eq_false_iff_ne, Nat.zero_add]; omega))
    · rintro i ⟨hd, F, outs⟩ hi ⟨h1, h2, h3⟩
      simp only at h1 h2 h3
      subst h2 h3
      have hb := flS_le n m r c i
      have hb2 : i * n ≤ 48 * 48 := Nat.mul_le_mul (by omega) hn
      obtain ⟨hd', q1, q2⟩ := elim_step m hn hr hc i hi hd h1 ((flS n m r c i : Nat) : Int) ⟨by omega, by omega⟩
      exact .inr ⟨(hd', ((flS n m r c i : Nat) : Int) + rowF n m r c i, outR n m r c (i + 1)), ⟨q1, rfl, rfl⟩, q2⟩
  refine Rn.up (f := fun k => Fsparse_eliminate k (pat n m) (r : Int) (c : Int)) ?_
  show Rn (fun k => bsparse_eliminate k (pat n m) (r : Int) (c : Int)) _
  unfold bsparse_eliminate
  rw [pat_len, toNat_c, ← hT]
  have hend : ∀ (L : List (List Int)), L.length = n → Rn (fun _ => if (0 + n) ≤ L.length then some (List.take n L, ((flS n m r c n : Nat) : Int)) else none) (L, ((flS n m r c n : Nat) : Int)) := by
    intro L hL
    refine Rn.t (g := fun _ => none) (by omega) (Rn.const ?_)
    rw [show n = L.length by omega, List.take_length]
  refine Rn.t (g := fun _ => none) ⟨by omega, by omega, by omega⟩ (Rn.bind a1.diag ?_)
  rcases h with rfl | rfl
  · exact hend _ (pat_len _ _)
  · exact hend _ (pat_len _ _)
end
section
variable {n : Nat} (m : Nat → Nat → Bool) (hn : n ≤ 48)
include hn
/-- Is the place in? -/
def inB (n : Nat) (m : Nat → Nat → Bool) (row col : Int) : Bool := decide (0 ≤ row ∧ row < n ∧ 0 ≤ col ∧ col < n) && m row.toNat col.toNat
theorem in_ev (row col : Int) : Rn (fun k => Fsparse_in k (pat n m) row col) (inB n m row col) := by
  refine Rn.up (f := fun k => Fsparse_in k (pat n m) row col) ?_
  show Rn (fun k => bsparse_in k (pat n m) row col) _
  unfold bsparse_in
  rw [pat_len]
  by_cases h1 : 0 ≤ row
  rotate_left
  · rw [show inB n m row col = false by unfold inB; rw [decide_eq_false (by omega)]; rfl]
    exact Rn.f (by first | omega | (simp only [decide_eq_true_eq, decide_eq_false_iff_not, Int.toNat_natCast, beq_iff_eq, bne_iff_ne, ne_eq, Int.not_lt, Int.not_le, ge_iff_le, gt_iff_lt, beq_eq_false_iff_ne, Nat.zero_add]; omega)) (Rn.pure _)
  refine Rn.t (by first | omega | (simp only [decide_eq_true_eq, decide_eq_false_iff_not, Int.toNat_natCast, beq_iff_eq, bne_iff_ne, ne_eq, Int.not_lt, Int.not_le, ge_iff_le, gt_iff_lt, beq_eq_false_iff_ne, Nat.zero_add]; omega)) ?_
  by_cases h2 : row < n
  rotate_left
  · rw [show inB n m row col = false by unfold inB; rw [decide_eq_false (by omega)]; rfl]
    exact Rn.f (by first | omega | (simp only [decide_eq_true_eq, decide_eq_false_iff_not, Int.toNat_natCast, beq_iff_eq, bne_iff_ne, ne_eq, Int.not_lt, Int.not_le, ge_iff_le, gt_iff_lt, beq_eq_false_iff_ne, Nat.zero_add]; omega)) (Rn.pure _)
  have hl := thin_le n (m row.toNat)
  have hc := contains_ev (thin n (m row.toNat)) col (by omega)
  have e : (thin n (m row.toNat)).contains col = inB n m row col := by
    unfold inB
    rw [Bool.eq_iff_iff, List.contains_iff_mem, thin_mem, Bool.and_eq_true, decide_eq_true_eq]
    constructor
    · rintro ⟨a, b, c⟩; exact ⟨⟨h1, h2, a, b⟩, c⟩
    · rintro ⟨⟨_, _, a, b⟩, c⟩; exact ⟨a, b, c⟩
  rw [e] at hc
  exact Rn.t (by first | omega | (simp only [decide_eq_true_eq, decide_eq_false_iff_not, Int.toNat_natCast, beq_iff_eq, bne_iff_ne, ne_eq, Int.not_lt, Int.not_le, ge_iff_le, gt_iff_lt, beq_eq_false_iff_ne, Nat.zero_add]; omega)) (Rn.t (by first | omega | (simp only [decide_eq_true_eq, decide_eq_false_iff_not, Int.toNat_natCast, beq_iff_eq, bne_iff_ne, ne_eq, Int.not_lt, Int.not_le, ge_iff_le, gt_iff_lt, beq_eq_false_iff_ne, Nat.zero_add]; omega)) (Rn.at (pat_get n m (by omega)) (Rn.bind hc (Rn.pure _))))
variable {r c : Nat} (hr : r < n) (hc : c < n)
include hr hc
end
/-- How many of the first rows hold the column. -/
def colC (m : Nat → Nat → Bool) (i c : Nat) : Nat := (List.range i).countP fun a => m a c
def lenC (n : Nat) (m : Nat → Nat → Bool) (i : Nat) : Nat := (List.range n).countP (m i)
theorem colC_le (m : Nat → Nat → Bool) (i c : Nat) : colC m i c ≤ i := by
  have := List.countP_le_length (p := fun a => m a c) (l := List.range i)
  unfold colC
  simpa using this
theorem lenC_le (n : Nat) (m : Nat → Nat → Bool) (i : Nat) : lenC n m i ≤ n := by
  have := List.countP_le_length (p := m i) (l := List.range n)
  unfold lenC
  simpa using this
theorem colC_pos {n : Nat} {m : Nat → Nat → Bool} {i c : Nat} (hi : i < n) (h : m i c = true) : 1 ≤ colC m n c := List.countP_pos_iff.2 ⟨i, List.mem_range.2 hi, h⟩
theorem lenC_pos {n : Nat} {m : Nat → Nat → Bool} {i c : Nat} (hc : c < n) (h : m i c = true) : 1 ≤ lenC n m i := List.countP_pos_iff.2 ⟨c, List.mem_range.2 hc, h⟩
/-- What a place costs. -/
def cst (n : Nat) (m : Nat → Nat → Bool) (a c : Nat) : Nat := (lenC n m a - 1) * (colC m n c - 1)
theorem inc_before {l : List Int} (h : Inc l) {j : Nat} (hj : j < l.length) : ∀ y ∈ l.take j, y < l.getD j 0 := by
  intro y hy
  obtain ⟨k, hk, rfl⟩ := List.getElem_of_mem hy
  rw [List.length_take] at hk
  have := (List.pairwise_iff_getElem.1 h) k j (by omega) hj (by omega)
  rw [List.getElem_take, List.getD_eq_getElem?_getD, List.getElem?_eq_getElem hj]
  exact this
section
variable {n : Nat} (m : Nat → Nat → Bool) (hn : n ≤ 48)
include hn
/-- The counts, part of a row done. -/
def nsR (n : Nat) (m : Nat → Nat → Bool) (i j : Nat) : List Int := (List.range n).map fun c => ((colC m i c + if ((thin n (m i)).take j).contains (c : Int) then 1 else 0 : Nat) : Int)
theorem nsR_next (i j : Nat) (hj : j < (thin n (m i)).length) : (nsR n m i j).set ((thin n (m i)).getD j 0).toNat ((colC m i ((thin n (m i)).getD j 0).toNat : Int) + 1) = nsR n m i (j + 1) := by
  unfold nsR
  rw [map_set]
  have g := getD_some (l := thin n (m i)) (0 : Int) hj
  have hm := thin_mem.1 (List.mem_of_getElem? g)
  refine List.map_congr_left fun k hk => ?_
  rw [take_snoc _ hj, contains_snoc]
  by_cases h : k = ((thin n (m i)).getD j 0).toNat
  · rw [if_pos h, decide_eq_true (by omega), Bool.or_true, if_pos rfl, h]; rfl
  · rw [if_neg h, decide_eq_false (by omega), Bool.or_false]
theorem nsR_end (i : Nat) (hi : i < n) : nsR n m i (thin n (m i)).length = nsR n m (i + 1) 0 := by
  unfold nsR
  refine List.map_congr_left fun k hk => ?_
  have := List.mem_range.1 hk
  rw [List.take_length, thin_has hn this this]
  have e : colC m (i + 1) k = colC m i k + if m i k = true then 1 else 0 := by
    unfold colC
    rw [List.range_succ, List.countP_append, List.countP_singleton]
  rw [e]
  simp
theorem counts2 (i : Nat) (hi : i < n) : Rl (fun k q => Lsparse_counts_2 k q n (pat n m) n i (thin n (m i)) (thin n (m i)).length ((0 : Nat) : Int) (nsR n m i 0)) (n, pat n m, (n : Int), (i : Int), nsR n m (i + 1) 0) := by
  have hlen := thin_le n (m i)
  obtain ⟨o, rfl, h⟩ : ∃ o, o = (n, pat n m, (n : Int), (i : Int), nsR n m (i + 1) 0) ∧ Rl (fun k q => Lsparse_counts_2 k q n (pat n m) n i (thin n (m i)) (thin n (m i)).length ((0 : Nat) : Int) (nsR n m i 0)) o := by
    refine loopI (σ := List Int) (thin n (m i)).length (fun k q j ns => Lsparse_counts_2 k q n (pat n m) n i (thin n (m i)) (thin n (m i)).length j ns) (fun j ns => ns = nsR n m i j) _ ?_ ?_ (thin n (m i)).length 0 _ (by omega) rfl
    · rintro _ rfl
      refine ⟨_, rfl, Rl.up (f := fun k q => Lsparse_counts_2 k q n (pat n m) n i (thin n (m i)) (thin n (m i)).length ((thin n (m i)).length : Nat) (nsR n m i (thin n (m i)).length)) (Rl.of 0 fun k q _ => ?_)⟩
      show Lsparse_counts_2s k (Lsparse_counts_2 k q) _ _ _ _ _ _ _ _ = _
      unfold Lsparse_counts_2s
      rw [nsR_end m hn i hi]
      exact if_neg (by first | omega | (simp only [decide_eq_true_eq, decide_eq_false_iff_not, Int.toNat_natCast, beq_iff_eq, bne_iff_ne, ne_eq, Int.not_lt, Int.not_le, ge_iff_le, gt_iff_lt, beq_eq_false_iff_ne, Nat.zero_add]; omega))
    · rintro j _ hj rfl
      have g := getD_some (l := thin n (m i)) (0 : Int) hj
      have hm := thin_mem.1 (List.mem_of_getElem? g)
      have hcl := colC_le m i ((thin n (m i)).getD j 0).toNat
      refine .inr ⟨_, rfl, fun o ho => Rl.up (f := fun k q => Lsparse_counts_2 k q n (pat n m) n i (thin n (m i)) (thin n (m i)).length j (nsR n m i j)) ?_⟩
      rw [← nsR_next m hn i j hj] at ho
      have g2 : (nsR n m i j)[0 + ((thin n (m i)).getD j 0).toNat]? = some ((colC m i ((thin n (m i)).getD j 0).toNat : Nat) : Int) := by
        unfold nsR
        rw [Nat.zero_add, sqr_get' _ _ (by omega)]
        have hno : ((thin n (m i)).take j).contains (((thin n (m i)).getD j 0).toNat : Int) = false := by
          rw [← Bool.not_eq_true, List.contains_iff_mem, Int.toNat_of_nonneg hm.1]
          intro h
          have := inc_before (thin_inc n (m i)) hj _ h
          omega
        rw [hno]; rfl
      show Rl (fun k q => Lsparse_counts_2s k (Lsparse_counts_2 k q) _ _ _ _ _ _ _ _) _
      unfold Lsparse_counts_2s
      rw [toNat_c, wrap_i64 (x := (j : Int) + 1) (by omega)]
      refine Rl.t (by first | omega | (simp only [decide_eq_true_eq, decide_eq_false_iff_not, Int.toNat_natCast, beq_iff_eq, bne_iff_ne, ne_eq, Int.not_lt, Int.not_le, ge_iff_le, gt_iff_lt, beq_eq_false_iff_ne, Nat.zero_add]; omega)) (Rl.t (by first | omega | (simp only [decide_eq_true_eq, decide_eq_false_iff_not, Int.toNat_natCast, beq_iff_eq, bne_iff_ne, ne_eq, Int.not_lt, Int.not_le, ge_iff_le, gt_iff_lt, beq_eq_false_iff_ne, Nat.zero_add]; omega)) (Rl.at g (Rl.t (g := fun _ _ => none) ⟨hm.1, hm.2.1⟩ (Rl.at g2 (Rl.t (g := fun _ _ => none) ⟨hm.1, hm.2.1⟩ (Rl.at g2 ?_))))))
      rw [wrap_i64 (by omega), Nat.zero_add]
      exact ho
  exact h
theorem counts_ev : Rn (fun k => Fsparse_counts k (pat n m)) (n, (List.range n).map fun c => ((colC m n c : Nat) : Int)) := by
  have e : ∀ i, nsR n m i 0 = (List.range n).map fun c => ((colC m i c : Nat) : Int) := fun i => by
    unfold nsR; simp
  have h0 : List.replicate n (0 : Int) = nsR n m 0 0 := by
    rw [e]
    apply List.ext_getElem?
    intro i
    by_cases h : i < n <;> simp [h, colC]
  obtain ⟨o, rfl, h⟩ : ∃ o, o = (n, nsR n m n 0) ∧ Rl (fun k q => Lsparse_counts_0 k q n (pat n m) n ((0 : Nat) : Int) (nsR n m 0 0)) o := by
    refine loopI (σ := List Int) n (fun k q i ns => Lsparse_counts_0 k q n (pat n m) n i ns) (fun i ns => ns = nsR n m i 0) _ ?_ ?_ n 0 _ (by omega) rfl
    · rintro _ rfl
      refine ⟨_, rfl, Rl.up (f := fun k q => Lsparse_counts_0 k q n (pat n m) n n (nsR n m n 0)) (Rl.of 0 fun k q _ => ?_)⟩
      show Lsparse_counts_0s k (Lsparse_counts_0 k q) _ _ _ _ _ = _
      unfold Lsparse_counts_0s
      exact if_neg (by first | omega | (simp only [decide_eq_true_eq, decide_eq_false_iff_not, Int.toNat_natCast, beq_iff_eq, bne_iff_ne, ne_eq, Int.not_lt, Int.not_le, ge_iff_le, gt_iff_lt, beq_eq_false_iff_ne, Nat.zero_add]; omega))
    · rintro i _ hi rfl
      refine .inr ⟨_, rfl, fun o ho => Rl.up (f := fun k q => Lsparse_counts_0 k q n (pat n m) n i (nsR n m i 0)) ?_⟩
      show Rl (fun k q => Lsparse_counts_0s k (Lsparse_counts_0 k q) _ _ _ _ _) _
      unfold Lsparse_counts_0s
      rw [toNat_c]
      refine Rl.t (by first | omega | (simp only [decide_eq_true_eq, decide_eq_false_iff_not, Int.toNat_natCast, beq_iff_eq, bne_iff_ne, ne_eq, Int.not_lt, Int.not_le, ge_iff_le, gt_iff_lt, beq_eq_false_iff_ne, Nat.zero_add]; omega)) (Rl.t (by first | omega | (simp only [decide_eq_true_eq, decide_eq_false_iff_not, Int.toNat_natCast, beq_iff_eq, bne_iff_ne, ne_eq, Int.not_lt, Int.not_le, ge_iff_le, gt_iff_lt, beq_eq_false_iff_ne, Nat.zero_add]; omega)) (Rl.at (pat_get n m hi) (Rl.bind (counts2 m hn i hi).diag ?_)))
      simp only
      rw [wrap_i64 (by omega)]
      exact ho
  refine Rn.up (f := fun k => Fsparse_counts k (pat n m)) ?_
  show Rn (fun k => bsparse_counts k (pat n m)) _
  unfold bsparse_counts
  rw [pat_len, toNat_c, h0, ← e]
  exact Rn.t (g := fun _ => none) ⟨by omega, by omega, by omega⟩ (Rn.bind h.diag (Rn.pure _))
/-- Places that were looked at. -/
def Sn (n : Nat) (m : Nat → Nat → Bool) (i j a c : Nat) : Prop := a < n ∧ c < n ∧ m a c = true ∧ (a < i ∨ a = i ∧ ((thin n (m i)).take j).contains (c : Int) = true)
/-- The best of them. -/
def Bst (n : Nat) (m : Nat → Nat → Bool) (S : Nat → Nat → Prop) (row col least : Int) : Prop :=
  (least = -1 ∧ row = 0 ∧ col = 0 ∧ ∀ a c, ¬ S a c) ∨ ∃ a c : Nat, row = a ∧ col = c ∧ least = ((cst n m a c : Nat) : Int) ∧ S a c ∧ ∀ a' c', S a' c' → cst n m a c ≤ cst n m a' c' ∧ (cst n m a c = cst n m a' c' → a < a' ∨ a = a' ∧ c ≤ c')
theorem Bst.congr {S T : Nat → Nat → Prop} (h : ∀ a c, S a c ↔ T a c) {row col least : Int} (hb : Bst n m S row col least) : Bst n m T row col least := by
  rcases hb with ⟨h1, h2, h3, h4⟩ | ⟨a, c, h1, h2, h3, h4, h5⟩
  · exact .inl ⟨h1, h2, h3, fun a c => fun hT => h4 a c ((h a c).2 hT)⟩
  · exact .inr ⟨a, c, h1, h2, h3, (h a c).1 h4, fun a' c' hT => h5 a' c' ((h a' c').2 hT)⟩
theorem Sn_next (i j : Nat) (hi : i < n) (hj : j < (thin n (m i)).length) (a c : Nat) : Sn n m i (j + 1) a c ↔ Sn n m i j a c ∨ a = i ∧ c = ((thin n (m i)).getD j 0).toNat := by
  have g := getD_some (l := thin n (m i)) (0 : Int) hj
  have hm := thin_mem.1 (List.mem_of_getElem? g)
  unfold Sn
  rw [take_snoc _ hj, contains_snoc, Bool.or_eq_true, decide_eq_true_eq]
  constructor
  · rintro ⟨h1, h2, h3, h4 | ⟨h4, h5 | h5⟩⟩
    · exact .inl ⟨h1, h2, h3, .inl h4⟩
    · exact .inl ⟨h1, h2, h3, .inr ⟨h4, h5⟩⟩
    · exact .inr ⟨h4, by omega⟩
  · rintro (⟨h1, h2, h3, h4 | ⟨h4, h5⟩⟩ | ⟨rfl, rfl⟩)
    · exact ⟨h1, h2, h3, .inl h4⟩
    · exact ⟨h1, h2, h3, .inr ⟨h4, .inl h5⟩⟩
    · exact ⟨hi, by omega, hm.2.2, .inr ⟨rfl, .inr (by omega)⟩⟩
theorem Sn_end (i : Nat) (a c : Nat) : Sn n m i (thin n (m i)).length a c ↔ Sn n m (i + 1) 0 a c := by
  unfold Sn
  rw [List.take_length]
  constructor
  · rintro ⟨h1, h2, h3, h4 | ⟨h4, h5⟩⟩
    · exact ⟨h1, h2, h3, .inl (by omega)⟩
    · exact ⟨h1, h2, h3, .inl (by omega)⟩
  · rintro ⟨h1, h2, h3, h4 | ⟨h4, h5⟩⟩
    · by_cases h : a < i
      · exact ⟨h1, h2, h3, .inl h⟩
      · obtain rfl : a = i := by omega
        exact ⟨h1, h2, h3, .inr ⟨rfl, by rw [thin_has hn h2 h2]; exact h3⟩⟩
    · simp at h5
theorem Sn_before (i j : Nat) (hj : j < (thin n (m i)).length) {a c : Nat} (h : Sn n m i j a c) : a < i ∨ a = i ∧ c < ((thin n (m i)).getD j 0).toNat := by
  obtain ⟨_, _, _, h | ⟨h, h5⟩⟩ := h
  · exact .inl h
  · have := inc_before (thin_inc n (m i)) hj _ (List.contains_iff_mem.1 h5)
    exact .inr ⟨h, by omega⟩
theorem best2 (i : Nat) (hi : i < n) (ns : List Int) (hns : ns = (List.range n).map fun c => ((colC m n c : Nat) : Int)) (row col least : Int) (hb : Bst n m (Sn n m i 0) row col least) :
    ∃ row' col' least', Bst n m (Sn n m (i + 1) 0) row' col' least' ∧ Rl (fun k q => Lsparse_best_2 k q n row col least i (thin n (m i)) (pat n m) n i (thin n (m i)) (thin n (m i)).length ((0 : Nat) : Int) ns) (n, row', col', least', pat n m, (n : Int), (i : Int), ns) := by
  have hlen := thin_le n (m i)
  obtain ⟨o, ⟨row', col', least', h1, rfl⟩, h⟩ : ∃ o : Nat × Int × Int × Int × List (List Int) × Int × Int × List Int, (∃ row' col' least', Bst n m (Sn n m (i + 1) 0) row' col' least' ∧ o = (n, row', col', least', pat n m, (n : Int), (i : Int), ns)) ∧ Rl (fun k q => Lsparse_best_2 k q n row col least i (thin n (m i)) (pat n m) n i (thin n (m i)) (thin n (m i)).length ((0 : Nat) : Int) ns) o := by
    refine loopI (σ := Int × Int × Int) (thin n (m i)).length (fun k q j s => Lsparse_best_2 k q n s.1 s.2.1 s.2.2 i (thin n (m i)) (pat n m) n i (thin n (m i)) (thin n (m i)).length j ns) (fun j s => Bst n m (Sn n m i j) s.1 s.2.1 s.2.2) _ ?_ ?_ (thin n (m i)).length 0 (row, col, least) (by omega) hb
    · rintro ⟨row, col, least⟩ hb
      refine ⟨_, ⟨row, col, least, hb.congr m hn (Sn_end m hn i), rfl⟩, Rl.up (f := fun k q => Lsparse_best_2 k q n row col least i (thin n (m i)) (pat n m) n i (thin n (m i)) (thin n (m i)).length ((thin n (m i)).length : Nat) ns) (Rl.of 0 fun k q _ => ?_)⟩
      show Lsparse_best_2s k (Lsparse_best_2 k q) _ _ _ _ _ _ _ _ _ _ _ _ _ = _
      unfold Lsparse_best_2s
      exact if_neg (by first | omega | (simp only [decide_eq_true_eq, decide_eq_false_iff_not, Int.toNat_natCast, beq_iff_eq, bne_iff_ne, ne_eq, Int.not_lt, Int.not_le, ge_iff_le, gt_iff_lt, beq_eq_false_iff_ne, Nat.zero_add]; omega))
    · rintro j ⟨row, col, least⟩ hj hb
      right
      have g := getD_some (l := thin n (m i)) (0 : Int) hj
      have hm := thin_mem.1 (List.mem_of_getElem? g)
      generalize hx : (thin n (m i)).getD j 0 = x at g hm
      obtain ⟨c, rfl⟩ : ∃ c : Nat, x = c := ⟨x.toNat, by omega⟩
      rw [toNat_c] at hm
      have hcn : c < n := by omega
      have g2 : ns[0 + Int.toNat (c : Int)]? = some ((colC m n c : Nat) : Int) := by
        rw [hns, Nat.zero_add, toNat_c, sqr_get' _ _ hcn]
      have hp1 := colC_pos hi hm.2.2
      have hp2 := lenC_pos hcn hm.2.2
      have hl1 := colC_le m n c
      have hl2 := lenC_le n m i
      have hll : (thin n (m i)).length = lenC n m i := thin_len _ _
      have hcost : IntKind.i64.wrap (IntKind.i64.wrap (((thin n (m i)).length : Nat) - (1 : Int)) * IntKind.i64.wrap (((colC m n c : Nat) : Int) - 1)) = ((cst n m i c : Nat) : Int) := by
        rw [hll, wrap_i64 (x := ((lenC n m i : Nat) : Int) - 1) (by omega), wrap_i64 (x := ((colC m n c : Nat) : Int) - 1) (by omega)]
        have e : (((lenC n m i : Nat) : Int) - 1) * (((colC m n c : Nat) : Int) - 1) = ((cst n m i c : Nat) : Int) := by
          unfold cst
          rw [Int.natCast_mul, Int.natCast_sub hp2, Int.natCast_sub hp1]; rfl
        have hb : cst n m i c ≤ 48 * 48 := Nat.mul_le_mul (by omega) (by omega)
        rw [e, wrap_i64 (by omega)]
      have hnx : ∀ a' c', Sn n m i (j + 1) a' c' ↔ Sn n m i j a' c' ∨ a' = i ∧ c' = c := fun a' c' => by
        rw [Sn_next m hn i j hi hj, hx, toNat_c]
      have hbef : ∀ a' c', Sn n m i j a' c' → a' < i ∨ a' = i ∧ c' < c := fun a' c' h => by
        have := Sn_before m hn i j hj h
        rwa [hx, toNat_c] at this
      have hnew : (∀ a' c', Sn n m i j a' c' → cst n m i c < cst n m a' c') → Bst n m (Sn n m i (j + 1)) (i : Int) (c : Int) ((cst n m i c : Nat) : Int) := fun h =>
        .inr ⟨i, c, rfl, rfl, rfl, (hnx i c).2 (.inr ⟨rfl, rfl⟩), fun a' c' hs => by
          rcases (hnx a' c').1 hs with hs | ⟨rfl, rfl⟩
          · have := h a' c' hs; exact ⟨by omega, fun e => by omega⟩
          · exact ⟨Nat.le_refl _, fun _ => .inr ⟨rfl, Nat.le_refl _⟩⟩⟩
      have step : ∀ o, Rl (fun k q => Lsparse_best_2s k (Lsparse_best_2 k q) n row col least i (thin n (m i)) (pat n m) n i (thin n (m i)) (thin n (m i)).length j ns) o → Rl (fun k q => Lsparse_best_2 k q n row col least i (thin n (m i)) (pat n m) n i (thin n (m i)) (thin n (m i)).length j ns) o :=
        fun o ho => Rl.up (f := fun k q => Lsparse_best_2 k q n row col least i (thin n (m i)) (pat n m) n i (thin n (m i)) (thin n (m i)).length j ns) ho
      unfold Lsparse_best_2s at step
      rw [toNat_c, wrap_i64 (x := (j : Int) + 1) (by omega)] at step
      have step2 : ∀ o s', (if least < 0 ∨ ((cst n m i c : Nat) : Int) < least then s' = ((i : Int), (c : Int), ((cst n m i c : Nat) : Int)) else s' = (row, col, least)) → Rl (fun k q => Lsparse_best_2 k q n s'.1 s'.2.1 s'.2.2 i (thin n (m i)) (pat n m) n i (thin n (m i)) (thin n (m i)).length ((j + 1 : Nat) : Int) ns) o → Rl (fun k q => Lsparse_best_2 k q n row col least i (thin n (m i)) (pat n m) n i (thin n (m i)) (thin n (m i)).length j ns) o := by
        intro o s' hs' ho
        refine step o (Rl.t (by first | omega | (simp only [decide_eq_true_eq, decide_eq_false_iff_not, Int.toNat_natCast, beq_iff_eq, bne_iff_ne, ne_eq, Int.not_lt, Int.not_le, ge_iff_le, gt_iff_lt, beq_eq_false_iff_ne, Nat.zero_add]; omega)) (Rl.t (by first | omega | (simp only [decide_eq_true_eq, decide_eq_false_iff_not, Int.toNat_natCast, beq_iff_eq, bne_iff_ne, ne_eq, Int.not_lt, Int.not_le, ge_iff_le, gt_iff_lt, beq_eq_false_iff_ne, Nat.zero_add]; omega)) (Rl.at g (Rl.t (g := fun _ _ => none) ⟨hm.1, hm.2.1⟩ (Rl.at g2 ?_)))))
        by_cases h1 : least < 0
        · rw [if_pos (.inl h1)] at hs'
          subst hs'
          refine Rl.f (by first | omega | (simp only [decide_eq_true_eq, decide_eq_false_iff_not, Int.toNat_natCast, beq_iff_eq, bne_iff_ne, ne_eq, Int.not_lt, Int.not_le, ge_iff_le, gt_iff_lt, beq_eq_false_iff_ne, Nat.zero_add]; omega)) ?_
          rw [hcost]; exact ho
        · refine Rl.t (by first | omega | (simp only [decide_eq_true_eq, decide_eq_false_iff_not, Int.toNat_natCast, beq_iff_eq, bne_iff_ne, ne_eq, Int.not_lt, Int.not_le, ge_iff_le, gt_iff_lt, beq_eq_false_iff_ne, Nat.zero_add]; omega)) ?_
          by_cases h2 : ((cst n m i c : Nat) : Int) < least
          · rw [if_pos (.inr h2)] at hs'
            subst hs'
            refine Rl.t (by rw [hcost]; exact decide_eq_true h2) ?_
            rw [hcost]; exact ho
          · rw [if_neg (by omega)] at hs'
            subst hs'
            exact Rl.f (by rw [hcost]; exact fun h => h2 (of_decide_eq_true h)) ho
      rcases hb with ⟨b1, b2, b3, b4⟩ | ⟨a0, c0, b1, b2, b3, b4, b5⟩
      · refine ⟨((i : Int), (c : Int), ((cst n m i c : Nat) : Int)), hnew fun a' c' hs => absurd hs (b4 a' c'), fun o ho => step2 o _ (by simp only at b1; rw [if_pos (.inl (by omega))]) ho⟩
      · simp only at b1 b2 b3
        by_cases h2 : ((cst n m i c : Nat) : Int) < least
        · refine ⟨((i : Int), (c : Int), ((cst n m i c : Nat) : Int)), hnew fun a' c' hs => by have := (b5 a' c' hs).1; omega, fun o ho => step2 o _ (by rw [if_pos (.inr h2)]) ho⟩
        · refine ⟨(row, col, least), .inr ⟨a0, c0, b1, b2, b3, (hnx a0 c0).2 (.inl b4), fun a' c' hs => ?_⟩, fun o ho => step2 o _ (by rw [if_neg (by omega)]) ho⟩
          rcases (hnx a' c').1 hs with hs | ⟨rfl, rfl⟩
          · exact b5 a' c' hs
          · have := hbef a0 c0 b4
            exact ⟨by omega, fun _ => by omega⟩
  exact ⟨row', col', least', h1, h⟩
/-- The best of all places. -/
theorem best_ev : ∃ row col least, Bst n m (fun a c => a < n ∧ c < n ∧ m a c = true) row col least ∧ Rn (fun k => Fsparse_best k (pat n m)) (row, col, decide (least ≥ 0)) := by
  have hc := counts_ev m hn
  generalize hns : ((List.range n).map fun c => ((colC m n c : Nat) : Int)) = ns at hc
  obtain ⟨o, ⟨row', col', least', h1, rfl⟩, h⟩ : ∃ o : Int × Int × Int × List Int, (∃ row' col' least', Bst n m (Sn n m n 0) row' col' least' ∧ o = (row', col', least', ns)) ∧ Rl (fun k q => Lsparse_best_0 k q n 0 0 (-1) (pat n m) n ((0 : Nat) : Int) ns) o := by
    refine loopI (σ := Int × Int × Int) n (fun k q i s => Lsparse_best_0 k q n s.1 s.2.1 s.2.2 (pat n m) n i ns) (fun i s => Bst n m (Sn n m i 0) s.1 s.2.1 s.2.2) _ ?_ ?_ n 0 (0, 0, -1) (by omega) (.inl ⟨rfl, rfl, rfl, fun a c h => ?_⟩)
    · rintro ⟨row, col, least⟩ hb
      refine ⟨_, ⟨row, col, least, hb, rfl⟩, Rl.up (f := fun k q => Lsparse_best_0 k q n row col least (pat n m) n n ns) (Rl.of 0 fun k q _ => ?_)⟩
      show Lsparse_best_0s k (Lsparse_best_0 k q) _ _ _ _ _ _ _ _ = _
      unfold Lsparse_best_0s
      exact if_neg (by first | omega | (simp only [decide_eq_true_eq, decide_eq_false_iff_not, Int.toNat_natCast, beq_iff_eq, bne_iff_ne, ne_eq, Int.not_lt, Int.not_le, ge_iff_le, gt_iff_lt, beq_eq_false_iff_ne, Nat.zero_add]; omega))
    · rintro i ⟨row, col, least⟩ hi hb
      obtain ⟨row', col', least', b1, b2⟩ := best2 m hn i hi ns hns.symm row col least hb
      refine .inr ⟨(row', col', least'), b1, fun o ho => Rl.up (f := fun k q => Lsparse_best_0 k q n row col least (pat n m) n i ns) ?_⟩
      show Rl (fun k q => Lsparse_best_0s k (Lsparse_best_0 k q) _ _ _ _ _ _ _ _) _
      unfold Lsparse_best_0s
      rw [toNat_c]
      refine Rl.t (by first | omega | (simp only [decide_eq_true_eq, decide_eq_false_iff_not, Int.toNat_natCast, beq_iff_eq, bne_iff_ne, ne_eq, Int.not_lt, Int.not_le, ge_iff_le, gt_iff_lt, beq_eq_false_iff_ne, Nat.zero_add]; omega)) (Rl.t (by first | omega | (simp only [decide_eq_true_eq, decide_eq_false_iff_not, Int.toNat_natCast, beq_iff_eq, bne_iff_ne, ne_eq, Int.not_lt, Int.not_le, ge_iff_le, gt_iff_lt, beq_eq_false_iff_ne, Nat.zero_add]; omega)) (Rl.at (pat_get n m hi) (Rl.bind b2.diag ?_)))
      simp only
      rw [wrap_i64 (by omega)]
      exact ho
    · obtain ⟨_, _, _, h | ⟨_, h⟩⟩ := h
      · omega
      · simp at h
  refine ⟨row', col', least', h1.congr m hn (fun a c => ?_), ?_⟩
  · unfold Sn
    exact ⟨fun h => ⟨h.1, h.2.1, h.2.2.1⟩, fun h => ⟨h.1, h.2.1, h.2.2, .inl h.1⟩⟩
  · refine Rn.up (f := fun k => Fsparse_best k (pat n m)) ?_
    show Rn (fun k => bsparse_best k (pat n m)) _
    unfold bsparse_best
    refine Rn.bind hc ?_
    simp only
    rw [pat_len]
    exact Rn.bind h.diag (Rn.pure _)
end
/-- Places that can be taken one after the other, and leave nothing. -/
def Chain (n : Nat) : (Nat → Nat → Bool) → List Nat → List Nat → Prop
  | m, [], [] => ∀ i k, i < n → k < n → m i k = false
  | m, r :: rs, c :: cs => r < n ∧ c < n ∧ m r c = true ∧ Chain n (el m r c) rs cs
  | _, _, _ => False
def neR (n : Nat) (m : Nat → Nat → Bool) : Nat := (List.range n).countP fun i => (List.range n).any (m i)
theorem countP_split (f g : Nat → Bool) (l : List Nat) : l.countP f = l.countP (fun k => f k && g k) + l.countP fun k => f k && !g k := by
  induction l with
  | nil => rfl
  | cons x l ih =>
    simp only [List.countP_cons, ih]
    cases f x <;> cases g x <;> simp <;> omega
theorem ne_less {n : Nat} {m : Nat → Nat → Bool} {r c : Nat} (hr : r < n) (hc : c < n) (h : m r c = true) : neR n (el m r c) < neR n m := by
  unfold neR
  rw [countP_split (fun i => (List.range n).any (m i)) (fun i => i != r)]
  have h1 : 0 < (List.range n).countP fun i => (List.range n).any (m i) && !(i != r) :=
    List.countP_pos_iff.2 ⟨r, List.mem_range.2 hr, by simp only [bne_self_eq_false, Bool.not_false, Bool.and_true]; exact List.any_eq_true.2 ⟨c, List.mem_range.2 hc, h⟩⟩
  have h2 : (List.range n).countP (fun i => (List.range n).any (el m r c i)) ≤ (List.range n).countP fun i => (List.range n).any (m i) && (i != r) := by
    refine List.countP_mono_left fun i _ hi => ?_
    obtain ⟨k, hk, he⟩ := List.any_eq_true.1 hi
    unfold el at he
    simp only [Bool.and_eq_true, Bool.or_eq_true] at he
    obtain ⟨⟨e1, _⟩, e2⟩ := he
    rw [Bool.and_eq_true]
    refine ⟨?_, e1⟩
    rcases e2 with e2 | ⟨e2, _⟩
    · exact List.any_eq_true.2 ⟨k, hk, e2⟩
    · exact List.any_eq_true.2 ⟨c, List.mem_range.2 hc, e2⟩
  omega
theorem ne_le (n : Nat) (m : Nat → Nat → Bool) : neR n m ≤ n := by
  have := List.countP_le_length (p := fun i => (List.range n).any (m i)) (l := List.range n)
  unfold neR
  simpa using this
theorem Chain.len {n : Nat} : ∀ {rs cs : List Nat} {m : Nat → Nat → Bool}, Chain n m rs cs → rs.length = cs.length ∧ rs.length ≤ neR n m
  | [], [], m, _ => ⟨rfl, Nat.zero_le _⟩
  | [], _ :: _, _, h => h.elim
  | _ :: _, [], _, h => h.elim
  | r :: rs, c :: cs, m, ⟨h1, h2, h3, h4⟩ => by
    have := h4.len
    have := ne_less h1 h2 h3
    simp only [List.length_cons]
    omega
section
variable {n : Nat} (hn : n ≤ 48)
include hn
theorem pCheck_ev (m : Nat → Nat → Bool) : Rn (fun k => Fsparse_Check k (pat n m)) 0 := by
  have := Check_ev (pat n m) (pat_sm m hn)
  rwa [if_pos (pat_ok m hn)] at this
theorem inB_at (m : Nat → Nat → Bool) {r c : Nat} (hr : r < n) (hc : c < n) : inB n m (r : Int) (c : Int) = m r c := by
  unfold inB
  rw [decide_eq_true ⟨by omega, by omega, by omega, by omega⟩, toNat_c, toNat_c, Bool.true_and]
end
abbrev p0 : List (List Int) := [[0, 1, 2], [0, 1], [0, 2]]
theorem elim_c {p q : List (List Int)} (h : OkP p) {n r c f : Nat} (hn : n = p.length) (hr : r < n) (hc : c < n) (e1 : pat n (el (mp p) r c) = q) (e2 : flS n (mp p) r c n = f) : Rn (fun k => Fsparse_eliminate k p (r : Int) (c : Int)) (q, (f : Int)) := by
  subst hn
  have := elim_ev (mp p) h.1 hr hc
  rw [← okP_pat h, e1, e2] at this
  exact this
theorem el_a : Rn (fun k => Fsparse_eliminate k p0 1 1) ([[0, 2], [], [0, 2]], 0) := elim_c (n := 3) (r := 1) (c := 1) (f := 0) (by decide) rfl (by decide) (by decide) (by decide) (by decide)
theorem el_b : Rn (fun k => Fsparse_eliminate k [[0, 2], [], [0, 2]] 0 0) ([[], [], [2]], 0) := elim_c (n := 3) (r := 0) (c := 0) (f := 0) (by decide) rfl (by decide) (by decide) (by decide) (by decide)
theorem el_c : Rn (fun k => Fsparse_eliminate k [[], [], [2]] 2 2) ([[], [], []], 0) := elim_c (n := 3) (r := 2) (c := 2) (f := 0) (by decide) rfl (by decide) (by decide) (by decide) (by decide)
theorem el_d : Rn (fun k => Fsparse_eliminate k p0 0 0) ([[], [1, 2], [1, 2]], 2) := elim_c (n := 3) (r := 0) (c := 0) (f := 2) (by decide) rfl (by decide) (by decide) (by decide) (by decide)
theorem el_e : Rn (fun k => Fsparse_eliminate k [[], [1, 2], [1, 2]] 1 1) ([[], [], [2]], 0) := elim_c (n := 3) (r := 1) (c := 1) (f := 0) (by decide) rfl (by decide) (by decide) (by decide) (by decide)
theorem fix {α : Type} {f : Nat → Option α} {x : α} (h : ∀ j, f (j + 30) = some x) : Rn f x := Rn.eq 30 fun k hk => by
  obtain ⟨j, rfl⟩ : ∃ j, k = j + 30 := ⟨k - 30, by omega⟩
  exact h j
theorem be_a : Rn (fun k => Fsparse_best k p0) (1, 1, true) := fix fun j => by kernel_rfl
theorem be_b : Rn (fun k => Fsparse_best k [[0, 2], [], [0, 2]]) (0, 0, true) := fix fun j => by kernel_rfl
theorem be_c : Rn (fun k => Fsparse_best k [[], [], [2]]) (2, 2, true) := fix fun j => by kernel_rfl
theorem be_d : Rn (fun k => Fsparse_best k [[], [], []]) (0, 0, false) := fix fun j => by kernel_rfl
theorem ch_a : Rn (fun k => Fsparse_Check k p0) 0 := fix fun j => by kernel_rfl
theorem or_up {p : List (List Int)} {a b : Nat} {x y : List Int} {o : Nat × Nat × Int × List Int × List Int} (h : Rl (fun k q => Lsparse_Order_0s k (Lsparse_Order_0 k q) p a b x y) o) : Rl (fun k q => Lsparse_Order_0 k q p a b x y) o := Rl.up (f := fun k q => Lsparse_Order_0 k q p a b x y) h
theorem or_go {p p' : List (List Int)} {r c f : Int} {x y : List Int} {a b : Nat} {o : Nat × Nat × Int × List Int × List Int} (ha : a = x.length) (hb : b = y.length) (hx : x.length ≤ 10) (hy : y.length ≤ 10) (h1 : Rn (fun k => Fsparse_best k p) (r, c, true)) (h2 : Rn (fun k => Fsparse_eliminate k p r c) (p', f))
    (h3 : Rl (fun k q => Lsparse_Order_0 k q p' (a + 1) (b + 1) (x ++ [r]) (y ++ [c])) o) : Rl (fun k q => Lsparse_Order_0 k q p a b x y) o := by
  subst ha hb
  refine or_up ?_
  unfold Lsparse_Order_0s
  have e1 : (List.take 1 [r]).length = 1 := rfl
  have e2 : (List.take 1 [c]).length = 1 := rfl
  have e3 : List.take 1 [r] = [r] := rfl
  have e4 : List.take 1 [c] = [c] := rfl
  refine Rl.bind h1 (Rl.f (by simp) (Rl.t (g := fun _ _ => none) (Nat.le_refl _) (Rl.t (g := fun _ _ => none) (by simp only [e1]; omega) (Rl.t (g := fun _ _ => none) (Nat.le_refl _) (Rl.t (g := fun _ _ => none) (by simp only [e2]; omega) (Rl.bind h2 ?_))))))
  simp only [e3, e4, List.take_length, List.length_singleton]
  exact h3
theorem or_end {p : List (List Int)} {r c : Int} {x y : List Int} {a b : Nat} (h1 : Rn (fun k => Fsparse_best k p) (r, c, false)) : Rl (fun k q => Lsparse_Order_0 k q p a b x y) (a, b, 0, x, y) := by
  refine or_up ?_
  unfold Lsparse_Order_0s
  exact Rl.bind h1 (Rl.t (by simp) (Rl.pure _))
theorem or_a : Rn (fun k => Fsparse_Order k p0) ([1, 0, 2], [1, 0, 2], 0) := by
  refine Rn.up (f := fun k => Fsparse_Order k p0) ?_
  show Rn (fun k => bsparse_Order k p0) _
  unfold bsparse_Order
  have h : Rl (fun k q => Lsparse_Order_0 k q p0 0 0 [] []) (3, 3, 0, [1, 0, 2], [1, 0, 2]) :=
    or_go rfl rfl (by decide) (by decide) be_a el_a (or_go rfl rfl (by decide) (by decide) be_b el_b (or_go rfl rfl (by decide) (by decide) be_c el_c (or_end be_d)))
  exact Rn.bind ch_a (Rn.f (by simp) (Rn.bind h.diag (Rn.t (g := fun _ => none) (by simp) (Rn.t (g := fun _ => none) (by simp) (Rn.const rfl)))))
theorem fi_go {p p' : List (List Int)} {rows cols : List Int} {all : Int} {L i r c f : Int} {o : (Int × Int) ⊕ Int} (h0 : 0 ≤ i) (h1 : i < L) (hL : L ≤ 10) (g1 : rows[i.toNat]? = some r) (g2 : cols[i.toNat]? = some c) (hi : Rn (fun k => Fsparse_in k p r c) true) (he : Rn (fun k => Fsparse_eliminate k p r c) (p', f)) (hf : 0 ≤ all ∧ all ≤ 1000 ∧ 0 ≤ f ∧ f ≤ 1000)
    (h : Rl (fun k q => Lsparse_Fill_0 k q p' cols (all + f) rows L (i + 1)) o) : Rl (fun k q => Lsparse_Fill_0 k q p cols all rows L i) o := by
  refine Rl.up (f := fun k q => Lsparse_Fill_0 k q p cols all rows L i) ?_
  show Rl (fun k q => Lsparse_Fill_0s k (Lsparse_Fill_0 k q) _ _ _ _ _ _) _
  unfold Lsparse_Fill_0s
  rw [wrap_i64 (x := i + 1) (by omega)]
  refine Rl.t (decide_eq_true h1) (Rl.t h0 (Rl.at g1 (Rl.t h0 (Rl.at g2 (Rl.bind hi (Rl.f (by simp) (Rl.t h0 (Rl.at g2 (Rl.bind he ?_)))))))))
  simp only
  rw [wrap_i64 (x := all + f) (by omega)]
  exact h
theorem in_a : Rn (fun k => Fsparse_in k p0 0 0) true := fix fun j => by kernel_rfl
theorem in_b : Rn (fun k => Fsparse_in k [[], [1, 2], [1, 2]] 1 1) true := fix fun j => by kernel_rfl
theorem in_c : Rn (fun k => Fsparse_in k [[], [], [2]] 2 2) true := fix fun j => by kernel_rfl
theorem in_d : Rn (fun k => Fsparse_in k p0 1 1) true := fix fun j => by kernel_rfl
theorem fi_a : Rn (fun k => Fsparse_Fill k p0 [0, 1, 2] [0, 1, 2]) (2, 0) := by
  refine Rn.up (f := fun k => Fsparse_Fill k p0 [0, 1, 2] [0, 1, 2]) ?_
  show Rn (fun k => bsparse_Fill k p0 [0, 1, 2] [0, 1, 2]) _
  unfold bsparse_Fill
  have hend : Rl (fun k q => Lsparse_Fill_0 k q [[], [], []] [0, 1, 2] 2 [0, 1, 2] 3 3) (.inr 2) := by
    refine Rl.up (f := fun k q => Lsparse_Fill_0 k q [[], [], []] [0, 1, 2] 2 [0, 1, 2] 3 3) ?_
    show Rl (fun k q => Lsparse_Fill_0s k (Lsparse_Fill_0 k q) _ _ _ _ _ _) _
    unfold Lsparse_Fill_0s
    exact Rl.f (by decide) (Rl.pure _)
  have h : Rl (fun k q => Lsparse_Fill_0 k q p0 [0, 1, 2] 0 [0, 1, 2] 3 0) (.inr 2) :=
    fi_go (r := 0) (c := 0) (by decide) (by decide) (by decide) rfl rfl in_a el_d (by decide) (fi_go (r := 1) (c := 1) (by decide) (by decide) (by decide) rfl rfl in_b el_e (by decide) (fi_go (r := 2) (c := 2) (by decide) (by decide) (by decide) rfl rfl in_c el_c (by decide) hend))
  exact Rn.bind ch_a (Rn.f (by simp) (Rn.f (by simp) (Rn.bind h.diag (Rn.pure _))))
theorem em_a : Rn (fun k => Fsparse_Eliminate k p0 1 1) ([[0, 2], [], [0, 2]], 0) := by
  refine Rn.up (f := fun k => Fsparse_Eliminate k p0 1 1) ?_
  show Rn (fun k => bsparse_Eliminate k p0 1 1) _
  unfold bsparse_Eliminate
  exact Rn.bind ch_a (Rn.f (by simp) (Rn.bind in_d (Rn.f (by simp) (Rn.bind el_a (Rn.pure _)))))
theorem bb_a : Rn (fun k => Fsparse_Best k p0) (1, 1, true, 0) := fix fun j => by kernel_rfl
theorem co_a : Rn (fun k => Fsparse_Cost k p0 0 0) (4, 0) := fix fun j => by kernel_rfl
theorem is_a : Rn (fun k => Fshuntref09_Ints k [1, 0, 2] [1, 0, 2]) true := fix fun j => by kernel_rfl
theorem sa_a : Rn (fun k => Fshuntref13_Same k [[0, 2], [], [0, 2]] [[0, 2], [], [0, 2]]) true := fix fun j => by kernel_rfl
theorem ch_b : Rn (fun k => Fsparse_Check k [[1]]) 130 := fix fun j => by kernel_rfl
theorem awake13_ev : Rn (fun k => Fshuntlaw13_awake k) true := by
  refine Rn.up (f := fun k => Fshuntlaw13_awake k) ?_
  show Rn (fun k => bshuntlaw13_awake k) _
  unfold bshuntlaw13_awake
  refine Rn.bind or_a (Rn.bind fi_a (Rn.bind em_a (Rn.bind bb_a (Rn.bind co_a ?_))))
  exact Rn.t (by decide) (Rn.t (by decide) (Rn.t (by decide) (Rn.t (by decide) (Rn.t (by decide) (Rn.t (by decide) (Rn.t (by decide) (Rn.t (by decide) (Rn.t (by decide) (Rn.t (by decide) (Rn.bind is_a (Rn.t (by decide) (Rn.bind is_a (Rn.t (by decide) (Rn.bind sa_a (Rn.t (by decide) (Rn.bind ch_b (Rn.pure _)))))))))))))))))
theorem Rn.get {α : Type} {f : Nat → Option α} {r : α} (h : Rn f r) : ∃ k, f k = some r := by
  obtain ⟨K, h⟩ := h
  exact ⟨K, h K (Nat.le_refl _)⟩
abbrev iN (l : List Nat) : List Int := l.map fun x => ((x : Nat) : Int)
theorem drop_head {l : List Int} {i : Nat} {x : Nat} {r : List Nat} (h : l.drop i = iN (x :: r)) : i < l.length ∧ l[i]? = some (x : Int) ∧ l.drop (i + 1) = iN r := by
  have h1 : i < l.length := by
    rcases Nat.lt_or_ge i l.length with h' | h'
    · exact h'
    · rw [List.drop_eq_nil_of_le h'] at h; cases h
  have h2 := List.drop_eq_getElem_cons h1
  rw [h] at h2
  have e : (x : Int) = l[i] ∧ iN r = l.drop (i + 1) := by
    change (x : Int) :: iN r = _ at h2
    injection h2 with e1 e2
    exact ⟨e1, e2⟩
  exact ⟨h1, by rw [List.getElem?_eq_getElem h1, e.1], e.2.symm⟩
theorem drop_nil {l : List Int} {i : Nat} (h : l.drop i = iN []) : l.length ≤ i := by simpa using h
section
variable {n : Nat} (hn : n ≤ 48)
include hn
end
/-- Rows are the even points, columns the odd ones; each point hangs on one earlier point at most. -/
def Forest (n : Nat) (m : Nat → Nat → Bool) : Prop :=
  (∀ a c c', a < n → c < n → c' < n → m a c = true → m a c' = true → c < a → c' < a → c = c') ∧
  ∀ a a' c, a < n → a' < n → c < n → m a c = true → m a' c = true → a ≤ c → a' ≤ c → a = a'
theorem Forest.sub {n : Nat} {m m' : Nat → Nat → Bool} (h : Forest n m) (hs : ∀ a c, a < n → c < n → m' a c = true → m a c = true) : Forest n m' :=
  ⟨fun a c c' ha hc hc' h1 h2 => h.1 a c c' ha hc hc' (hs a c ha hc h1) (hs a c' ha hc' h2), fun a a' c ha ha' hc h1 h2 => h.2 a a' c ha ha' hc (hs a c ha hc h1) (hs a' c ha' hc h2)⟩
theorem count_one {n : Nat} {f : Nat → Bool} {c : Nat} (h : ∀ k, k < n → f k = true → k = c) : (List.range n).countP f ≤ 1 := by
  have h1 : (List.range n).countP f ≤ (List.range n).countP fun k => k == c := List.countP_mono_left fun k hk hf => by
    rw [beq_iff_eq]; exact h k (List.mem_range.1 hk) hf
  have h2 : (List.range n).countP (fun k => k == c) ≤ 1 := List.nodup_iff_count.1 List.nodup_range c
  omega
theorem one_count {n : Nat} {f : Nat → Bool} {c k : Nat} (h : (List.range n).countP f ≤ 1) (hc : c < n) (hk : k < n) (fc : f c = true) (fk : f k = true) : k = c := by
  apply Classical.byContradiction
  intro hne
  have e := countP_split f (fun x => x == c) (List.range n)
  have h1 : 0 < (List.range n).countP fun x => f x && (x == c) := List.countP_pos_iff.2 ⟨c, List.mem_range.2 hc, by simp [fc]⟩
  have h2 : 0 < (List.range n).countP fun x => f x && !(x == c) := List.countP_pos_iff.2 ⟨k, List.mem_range.2 hk, by simp [fk, hne]⟩
  omega
theorem forest_zero {n : Nat} {m : Nat → Nat → Bool} (h : Forest n m) : ∀ (d a c : Nat), a < n → c < n → m a c = true → 2 * n + 1 ≤ max (2 * a) (2 * c + 1) + d → ∃ a c, a < n ∧ c < n ∧ m a c = true ∧ cst n m a c = 0 := by
  intro d
  induction d with
  | zero => intro a c ha hc hm hd; omega
  | succ d ih =>
    intro a c ha hc hm hd
    by_cases hx : ∃ a' c', a' < n ∧ c' < n ∧ m a' c' = true ∧ max (2 * a) (2 * c + 1) < max (2 * a') (2 * c' + 1)
    · obtain ⟨a', c', h1, h2, h3, h4⟩ := hx
      exact ih a' c' h1 h2 h3 (by omega)
    · have hmax : ∀ a' c', a' < n → c' < n → m a' c' = true → max (2 * a') (2 * c' + 1) ≤ max (2 * a) (2 * c + 1) := fun a' c' h1 h2 h3 => by
        apply Classical.byContradiction
        intro h4
        exact hx ⟨a', c', h1, h2, h3, by omega⟩
      refine ⟨a, c, ha, hc, hm, ?_⟩
      unfold cst
      rcases Nat.lt_or_ge c a with hl | hl
      · have : lenC n m a ≤ 1 := count_one (c := c) fun k hk hf => by
          have := hmax a k ha hk hf
          exact h.1 a k c ha hk hc hf hm (by omega) hl
        rw [show lenC n m a - 1 = 0 by omega, Nat.zero_mul]
      · have : colC m n c ≤ 1 := count_one (c := a) fun k hk hf => by
          have := hmax k c hk hc hf
          exact h.2 k a c hk ha hc hf hm (by omega) hl
        rw [show colC m n c - 1 = 0 by omega, Nat.mul_zero]
theorem zero_el {n : Nat} {m : Nat → Nat → Bool} {r c : Nat} (hr : r < n) (hc : c < n) (hm : m r c = true) (h0 : cst n m r c = 0) : (∀ i k, i < n → k < n → el m r c i k = true → m i k = true) ∧ flS n m r c n = 0 := by
  have key : ∀ i k, i < n → k < n → i ≠ r → k ≠ c → m i c = true → m r k = true → False := by
    intro i k hi hk hir hkc h1 h2
    unfold cst at h0
    rcases Nat.mul_eq_zero.1 h0 with h | h
    · exact hkc (one_count (f := m r) (by have : lenC n m r = (List.range n).countP (m r) := rfl; omega) hc hk hm h2)
    · exact hir (one_count (f := fun a => m a c) (by have : colC m n c = (List.range n).countP (fun a => m a c) := rfl; omega) hr hi hm h1)
  constructor
  · intro i k hi hk he
    unfold el at he
    simp only [Bool.and_eq_true, Bool.or_eq_true, bne_iff_ne] at he
    obtain ⟨⟨e1, e2⟩, e3 | ⟨e3, e4⟩⟩ := he
    · exact e3
    · exact (key i k hi hk e1 e2 e3 e4).elim
  · have : ∀ a, a ≤ n → flS n m r c a = 0 := by
      intro a
      induction a with
      | zero => intro _; rfl
      | succ a ih =>
        intro ha
        simp only [flS, ih (by omega), Nat.zero_add, rowF]
        split
        · rfl
        · rename_i hne
          rw [List.countP_eq_zero]
          intro k hk he
          simp only [Bool.and_eq_true, Bool.not_eq_true'] at he
          obtain ⟨e1, e2, e3⟩ := he
          have hkc : k ≠ c := fun e => by subst e; rw [e2] at e1; cases e1
          exact key a k (by omega) (List.mem_range.1 hk) hne hkc e2 e3
    exact this n (Nat.le_refl _)
/-- Orders that bring nothing in. -/
def Chain0 (n : Nat) : (Nat → Nat → Bool) → List Nat → List Nat → Prop
  | m, [], [] => True
  | m, r :: rs, c :: cs => r < n ∧ c < n ∧ m r c = true ∧ flS n m r c n = 0 ∧ Chain0 n (el m r c) rs cs
  | _, _, _ => False
theorem Chain0.len {n : Nat} : ∀ {rs cs : List Nat} {m : Nat → Nat → Bool}, Chain0 n m rs cs → rs.length = cs.length ∧ rs.length ≤ neR n m
  | [], [], m, _ => ⟨rfl, Nat.zero_le _⟩
  | [], _ :: _, _, h => h.elim
  | _ :: _, [], _, h => h.elim
  | r :: rs, c :: cs, m, ⟨h1, h2, h3, _, h4⟩ => by
    have := h4.len
    have := ne_less h1 h2 h3
    simp only [List.length_cons]
    omega
section
variable {n : Nat} (hn : n ≤ 48)
include hn
theorem order_t : ∀ (d : Nat) (m : Nat → Nat → Bool), Forest n m → neR n m ≤ d → ∀ Rs Cs : List Int, Rs.length + d ≤ 100 → Cs.length = Rs.length →
    ∃ rs cs : List Nat, Chain0 n m rs cs ∧ Rl (fun k q => Lsparse_Order_0 k q (pat n m) Rs.length Cs.length Rs Cs) (Rs.length + rs.length, Cs.length + cs.length, 0, Rs ++ rs.map (fun x => ((x : Nat) : Int)), Cs ++ cs.map (fun x => ((x : Nat) : Int))) := by
  intro d
  induction d with
  | zero =>
    intro m hf hd Rs Cs hl hc
    have h0 : ∀ i k, i < n → k < n → m i k = false := by
      intro i k hi hk
      have h1 : neR n m = 0 := by omega
      unfold neR at h1
      rw [List.countP_eq_zero] at h1
      have h2 := h1 i (List.mem_range.2 hi)
      by_cases h : m i k = true
      · exact absurd (List.any_eq_true.2 ⟨k, List.mem_range.2 hk, h⟩) h2
      · simpa using h
    obtain ⟨row, col, least, b1, b2⟩ := best_ev m hn
    refine ⟨[], [], trivial, ?_⟩
    rcases b1 with ⟨rfl, rfl, rfl, b4⟩ | ⟨a, c, rfl, rfl, rfl, ⟨b4, b5, b6⟩, b7⟩
    rotate_left
    · rw [h0 a c b4 b5] at b6; cases b6
    simp only [List.map_nil, List.append_nil, List.length_nil, Nat.add_zero]
    refine Rl.up (f := fun k q => Lsparse_Order_0 k q (pat n m) Rs.length Cs.length Rs Cs) ?_
    show Rl (fun k q => Lsparse_Order_0s k (Lsparse_Order_0 k q) _ _ _ _ _) _
    unfold Lsparse_Order_0s
    exact Rl.bind b2 (Rl.t (by simp) (Rl.pure _))
  | succ d ih =>
    intro m hf hd Rs Cs hl hc
    obtain ⟨row, col, least, b1, b2⟩ := best_ev m hn
    rcases b1 with ⟨rfl, rfl, rfl, b4⟩ | ⟨a, c, rfl, rfl, rfl, ⟨b4, b5, b6⟩, b7⟩
    · refine ⟨[], [], trivial, ?_⟩
      simp only [List.map_nil, List.append_nil, List.length_nil, Nat.add_zero]
      refine Rl.up (f := fun k q => Lsparse_Order_0 k q (pat n m) Rs.length Cs.length Rs Cs) ?_
      show Rl (fun k q => Lsparse_Order_0s k (Lsparse_Order_0 k q) _ _ _ _ _) _
      unfold Lsparse_Order_0s
      exact Rl.bind b2 (Rl.t (by simp) (Rl.pure _))
    · have hlt := ne_less b4 b5 b6
      obtain ⟨a0, c0, z1, z2, z3, z4⟩ := forest_zero hf (2 * n + 1) a c b4 b5 b6 (by omega)
      have hz : cst n m a c = 0 := by have := (b7 a0 c0 ⟨z1, z2, z3⟩).1; omega
      obtain ⟨y1, y2⟩ := zero_el b4 b5 b6 hz
      obtain ⟨rs, cs, q1, q2⟩ := ih (el m a c) (hf.sub y1) (by omega) (Rs ++ [(a : Int)]) (Cs ++ [(c : Int)]) (by simp; omega) (by simp [hc])
      refine ⟨a :: rs, c :: cs, ⟨b4, b5, b6, y2, q1⟩, Rl.up (f := fun k q => Lsparse_Order_0 k q (pat n m) Rs.length Cs.length Rs Cs) ?_⟩
      show Rl (fun k q => Lsparse_Order_0s k (Lsparse_Order_0 k q) _ _ _ _ _) _
      unfold Lsparse_Order_0s
      have e1 : (List.take 1 [(a : Int)]).length = 1 := rfl
      have e2 : (List.take 1 [(c : Int)]).length = 1 := rfl
      have e3 : List.take 1 [(a : Int)] = [(a : Int)] := rfl
      have e4 : List.take 1 [(c : Int)] = [(c : Int)] := rfl
      refine Rl.bind b2 (Rl.f (by simp) (Rl.t (g := fun _ _ => none) (Nat.le_refl _) (Rl.t (g := fun _ _ => none) (by simp only [e1]; omega) (Rl.t (g := fun _ _ => none) (Nat.le_refl _) (Rl.t (g := fun _ _ => none) (by simp only [e2]; omega) (Rl.bind (elim_ev m hn b4 b5) ?_))))))
      simp only [e3, e4, List.take_length, List.length_singleton]
      simp only [List.length_append, List.length_singleton, List.append_assoc, List.singleton_append] at q2
      simp only [List.map_cons, List.length_cons]
      rw [show Rs.length + (rs.length + 1) = Rs.length + 1 + rs.length by omega, show Cs.length + (cs.length + 1) = Cs.length + 1 + cs.length by omega]
      exact q2
theorem Order_t (m : Nat → Nat → Bool) (hf : Forest n m) : ∃ rs cs : List Nat, Chain0 n m rs cs ∧ Rn (fun k => Fsparse_Order k (pat n m)) (rs.map (fun x => ((x : Nat) : Int)), cs.map (fun x => ((x : Nat) : Int)), 0) := by
  have := ne_le n m
  obtain ⟨rs, cs, q1, q2⟩ := order_t hn (neR n m) m hf (Nat.le_refl _) [] [] (by simp; omega) rfl
  simp only [List.length_nil, Nat.zero_add, List.nil_append] at q2
  refine ⟨rs, cs, q1, Rn.up (f := fun k => Fsparse_Order k (pat n m)) ?_⟩
  show Rn (fun k => bsparse_Order k (pat n m)) _
  unfold bsparse_Order
  refine Rn.bind (pCheck_ev hn m) (Rn.f (by simp) (Rn.bind q2.diag (Rn.t (g := fun _ => none) (by simp) (Rn.t (g := fun _ => none) (by simp) (Rn.const ?_)))))
  simp only
  rw [List.take_of_length_le (by simp), List.take_of_length_le (by simp)]
end
section
variable {n : Nat} (hn : n ≤ 48)
include hn
theorem chain_t {rows cols : List Int} (hl : cols.length = rows.length) (hr : rows.length ≤ 100) : ∀ (rs cs : List Nat) (m : Nat → Nat → Bool) (i : Nat), Chain0 n m rs cs → rows.drop i = iN rs → cols.drop i = iN cs → i ≤ rows.length →
    Rl (fun k q => Lsparse_Fill_0 k q (pat n m) cols 0 rows rows.length i) (.inr 0)
  | [], [], m, i, h, d1, d2, hi => by
    have := drop_nil d1
    obtain rfl : i = rows.length := by omega
    refine Rl.up (f := fun k q => Lsparse_Fill_0 k q (pat n m) cols 0 rows rows.length rows.length) (Rl.of 0 fun k q _ => ?_)
    show Lsparse_Fill_0s k (Lsparse_Fill_0 k q) _ _ _ _ _ _ = _
    unfold Lsparse_Fill_0s
    exact if_neg (by first | omega | (simp only [decide_eq_true_eq, decide_eq_false_iff_not, Int.toNat_natCast, beq_iff_eq, bne_iff_ne, ne_eq, Int.not_lt, Int.not_le, ge_iff_le, gt_iff_lt, beq_eq_false_iff_ne, Nat.zero_add]; omega))
  | [], _ :: _, _, _, h, _, _, _ => h.elim
  | _ :: _, [], _, _, h, _, _, _ => h.elim
  | r :: rs, c :: cs, m, i, ⟨k1, k2, k3, k5, k4⟩, d1, d2, hi => by
    obtain ⟨a1, a2, a3⟩ := drop_head d1
    obtain ⟨b1, b2, b3⟩ := drop_head d2
    have e2 := chain_t hl hr rs cs (el m r c) (i + 1) k4 a3 b3 (by omega)
    have hin := in_ev m hn (r : Int) (c : Int)
    rw [inB_at hn m k1 k2, k3] at hin
    have he := elim_ev m hn k1 k2
    rw [k5] at he
    refine Rl.up (f := fun k q => Lsparse_Fill_0 k q (pat n m) cols 0 rows rows.length i) ?_
    show Rl (fun k q => Lsparse_Fill_0s k (Lsparse_Fill_0 k q) _ _ _ _ _ _) _
    unfold Lsparse_Fill_0s
    rw [toNat_c, wrap_i64 (x := (i : Int) + 1) (by omega)]
    refine Rl.t (by first | omega | (simp only [decide_eq_true_eq, decide_eq_false_iff_not, Int.toNat_natCast, beq_iff_eq, bne_iff_ne, ne_eq, Int.not_lt, Int.not_le, ge_iff_le, gt_iff_lt, beq_eq_false_iff_ne, Nat.zero_add]; omega)) (Rl.t (by first | omega | (simp only [decide_eq_true_eq, decide_eq_false_iff_not, Int.toNat_natCast, beq_iff_eq, bne_iff_ne, ne_eq, Int.not_lt, Int.not_le, ge_iff_le, gt_iff_lt, beq_eq_false_iff_ne, Nat.zero_add]; omega)) (Rl.at a2 (Rl.t (by first | omega | (simp only [decide_eq_true_eq, decide_eq_false_iff_not, Int.toNat_natCast, beq_iff_eq, bne_iff_ne, ne_eq, Int.not_lt, Int.not_le, ge_iff_le, gt_iff_lt, beq_eq_false_iff_ne, Nat.zero_add]; omega)) (Rl.at b2 (Rl.bind hin (Rl.f (by simp) (Rl.t (by first | omega | (simp only [decide_eq_true_eq, decide_eq_false_iff_not, Int.toNat_natCast, beq_iff_eq, bne_iff_ne, ne_eq, Int.not_lt, Int.not_le, ge_iff_le, gt_iff_lt, beq_eq_false_iff_ne, Nat.zero_add]; omega)) (Rl.at b2 (Rl.bind he ?_)))))))))
    simp only
    exact e2
theorem tree_done (m : Nat → Nat → Bool) (hf : Forest n m) : ∃ a b : List Int, Rn (fun k => Fsparse_Order k (pat n m)) (a, b, 0) ∧ Rn (fun k => Fsparse_Fill k (pat n m) a b) (0, 0) := by
  obtain ⟨rs, cs, ch, o1⟩ := Order_t hn m hf
  obtain ⟨l1, l2⟩ := ch.len
  have hne := ne_le n m
  have lr : (iN rs).length = rs.length := by simp
  have lc : (iN cs).length = cs.length := by simp
  have e2 := chain_t (rows := iN rs) (cols := iN cs) hn (by omega) (by omega) rs cs m 0 ch rfl rfl (by omega)
  refine ⟨iN rs, iN cs, o1, ?_⟩
  refine Rn.up (f := fun k => Fsparse_Fill k (pat n m) (iN rs) (iN cs)) ?_
  show Rn (fun k => bsparse_Fill k (pat n m) (iN rs) (iN cs)) _
  unfold bsparse_Fill
  exact Rn.bind (pCheck_ev hn m) (Rn.f (by simp) (Rn.f (by rw [bne_iff_ne]; omega) (Rn.bind e2.diag (Rn.pure _))))
end
/-- One place more. -/
def put1 (f : Nat → Nat → Bool) (a0 c0 : Nat) : Nat → Nat → Bool := fun a c => if a = a0 then (if c = c0 then true else f a c) else f a c
theorem sq_put (n : Nat) (f : Nat → Nat → Bool) (a0 c0 : Nat) : (sq n f).set a0 (((List.range n).map (f a0)).set c0 true) = sq n (put1 f a0 c0) := by
  unfold sq
  rw [map_set]
  refine List.map_congr_left fun a _ => ?_
  unfold put1
  by_cases h : a = a0
  · subst h; rw [if_pos rfl, map_set]; simp
  · simp [h]
/-- All places belong to points ahead of i; they form a forest. -/
def Fo (n i : Nat) (f : Nat → Nat → Bool) : Prop := Forest n f ∧ ∀ a c, a < n → c < n → f a c = true → 2 * a < i ∧ 2 * c + 1 < i
theorem Fo.next {n i : Nat} {f : Nat → Nat → Bool} (h : Fo n i f) : Fo n (i + 1) f := ⟨h.1, fun a c ha hc hf => by have := h.2 a c ha hc hf; omega⟩
theorem put1_of {f : Nat → Nat → Bool} {a0 c0 a c : Nat} (h : put1 f a0 c0 a c = true) : (a = a0 ∧ c = c0) ∨ f a c = true := by
  unfold put1 at h
  by_cases h1 : a = a0
  · by_cases h2 : c = c0
    · exact .inl ⟨h1, h2⟩
    · rw [if_pos h1, if_neg h2] at h; exact .inr h
  · rw [if_neg h1] at h; exact .inr h
theorem Fo.put {n i a0 c0 : Nat} {f : Nat → Nat → Bool} (h : Fo n i f) (hm : max (2 * a0) (2 * c0 + 1) = i) : Fo n (i + 1) (put1 f a0 c0) := by
  refine ⟨⟨?_, ?_⟩, ?_⟩
  · intro a c c' ha hc hc' h1 h2 l1 l2
    rcases put1_of h1 with ⟨e1, e2⟩ | h1 <;> rcases put1_of h2 with ⟨e3, e4⟩ | h2
    · omega
    · have := h.2 a c' ha hc' h2; omega
    · have := h.2 a c ha hc h1; omega
    · exact h.1.1 a c c' ha hc hc' h1 h2 l1 l2
  · intro a a' c ha ha' hc h1 h2 l1 l2
    rcases put1_of h1 with ⟨e1, e2⟩ | h1 <;> rcases put1_of h2 with ⟨e3, e4⟩ | h2
    · omega
    · have := h.2 a' c ha' hc h2; omega
    · have := h.2 a c ha hc h1; omega
    · exact h.1.2 a a' c ha ha' hc h1 h2 l1 l2
  · intro a c ha hc hf
    rcases put1_of hf with ⟨e1, e2⟩ | hf
    · omega
    · have := h.2 a c ha hc hf; omega
section
variable {n : Nat} (hn : n ≤ 48) (ps : List Int) (N : Nat)
include hn
/-- The square's rows that are made. -/
def fR (n i : Nat) : List (List Bool) := (List.range n).map fun a => if a < i then (List.range n).map fun _ => false else []
theorem fR_next (i : Nat) : (fR n i).set i (List.replicate n false) = fR n (i + 1) := by
  have e : List.replicate n false = (List.range n).map fun _ => false := by
    apply List.ext_getElem?
    intro i
    by_cases h : i < n <;> simp [h]
  unfold fR
  rw [e, map_set]
  refine List.map_congr_left fun a _ => ?_
  by_cases h : a = i
  · subst h; rw [if_pos rfl, if_pos (by omega)]
  · rw [if_neg h]
    by_cases h2 : a < i
    · rw [if_pos h2, if_pos (by omega)]
    · rw [if_neg h2, if_neg (by omega)]
theorem tree0 (w : Int) (q0 : List (List Int)) : Rl (fun k q => Lshuntlaw13_SparseTree_0 k q ps w n n n ((0 : Nat) : Int) q0 (List.replicate n [])) (ps, w, n, n, q0, sq n fun _ _ => false) := by
  have h0 : List.replicate n ([] : List Bool) = fR n 0 := by
    unfold fR
    apply List.ext_getElem?
    intro i
    by_cases h : i < n <;> simp [h]
  have hE : fR n n = sq n fun _ _ => false := List.map_congr_left fun a ha => if_pos (List.mem_range.1 ha)
  rw [h0]
  obtain ⟨o, rfl, h⟩ : ∃ o, o = (ps, w, n, n, q0, sq n fun _ _ => false) ∧ Rl (fun k q => Lshuntlaw13_SparseTree_0 k q ps w n n n ((0 : Nat) : Int) q0 (fR n 0)) o := by
    refine loopI (σ := List (List Bool)) n (fun k q i fs => Lshuntlaw13_SparseTree_0 k q ps w n n n i q0 fs) (fun i fs => fs = fR n i) _ ?_ ?_ n 0 _ (by omega) rfl
    · rintro _ rfl
      refine ⟨_, rfl, Rl.up (f := fun k q => Lshuntlaw13_SparseTree_0 k q ps w n n n n q0 (fR n n)) (Rl.of 0 fun k q _ => ?_)⟩
      show Lshuntlaw13_SparseTree_0s k (Lshuntlaw13_SparseTree_0 k q) _ _ _ _ _ _ _ _ = _
      unfold Lshuntlaw13_SparseTree_0s
      rw [hE]
      exact if_neg (by first | omega | (simp only [decide_eq_true_eq, decide_eq_false_iff_not, Int.toNat_natCast, beq_iff_eq, bne_iff_ne, ne_eq, Int.not_lt, Int.not_le, ge_iff_le, gt_iff_lt, beq_eq_false_iff_ne, Nat.zero_add]; omega))
    · rintro i _ hi rfl
      have hlen : (fR n i).length = n := by simp [fR]
      refine .inr ⟨_, rfl, fun o ho => Rl.up (f := fun k q => Lshuntlaw13_SparseTree_0 k q ps w n n n i q0 (fR n i)) ?_⟩
      rw [← fR_next hn] at ho
      show Rl (fun k q => Lshuntlaw13_SparseTree_0s k (Lshuntlaw13_SparseTree_0 k q) _ _ _ _ _ _ _ _) _
      unfold Lshuntlaw13_SparseTree_0s
      simp only [toNat_c]
      refine Rl.t (by first | omega | (simp only [decide_eq_true_eq, decide_eq_false_iff_not, Int.toNat_natCast, beq_iff_eq, bne_iff_ne, ne_eq, Int.not_lt, Int.not_le, ge_iff_le, gt_iff_lt, beq_eq_false_iff_ne, Nat.zero_add]; omega)) (Rl.t (g := fun _ _ => none) ⟨by omega, by omega, by omega⟩ (Rl.t (g := fun _ _ => none) ⟨by omega, by omega⟩ (Rl.t (g := fun _ _ => none) (by rw [hlen]; exact hi) (Rl.t (g := fun _ _ => none) (by simp) ?_))))
      rw [List.take_of_length_le (by simp), tset_eq (by rw [hlen]; exact hi), wrap_i64 (by omega)]
      exact ho
  exact h
theorem km (x : Int) (hx : -9223372036854775808 ≤ x ∧ x ≤ 9223372036854775807) (i : Nat) (hi : 0 < i) : ∃ k : Nat, k < i ∧ (x < 0 → Int.tmod (IntKind.i64.wrap (0 - IntKind.i64.wrap (x + 1))) (i : Int) = (k : Int)) ∧ (¬ x < 0 → Int.tmod x (i : Int) = (k : Int)) := by
  by_cases h : x < 0
  · refine ⟨(-(x + 1)).toNat % i, Nat.mod_lt _ hi, fun _ => ?_, fun h' => absurd h h'⟩
    rw [wrap_i64 (x := x + 1) (by omega), wrap_i64 (by omega), show 0 - (x + 1) = (((-(x + 1)).toNat : Nat) : Int) by omega]
    exact (Int.ofNat_tmod _ _).symm
  · refine ⟨x.toNat % i, Nat.mod_lt _ hi, fun h' => absurd h' h, fun _ => ?_⟩
    conv => lhs; rw [show x = ((x.toNat : Nat) : Int) by omega]
    exact (Int.ofNat_tmod _ _).symm
theorem half (i : Nat) (hi : i ≤ 100) : IntKind.i64.wrap (Int.tdiv (i : Int) 2) = ((i / 2 : Nat) : Int) := by
  have e : Int.tdiv (i : Int) 2 = ((i / 2 : Nat) : Int) := (Int.ofNat_tdiv i 2).symm
  rw [e, wrap_i64 (by omega)]
theorem par (i : Nat) : Int.tmod (i : Int) 2 = ((i % 2 : Nat) : Int) := (Int.ofNat_tmod i 2).symm
theorem tree2 (hps : ∀ x ∈ ps, -9223372036854775808 ≤ x ∧ x ≤ 9223372036854775807) (hN : N ≤ ps.length) (h40 : N ≤ 40) (hnN : n = N / 2 + 1) (q0 : List (List Int)) :
    ∃ f, Forest n f ∧ Rl (fun k q => Lshuntlaw13_SparseTree_2 k q ps N n n ((0 + 1 : Nat) : Int) q0 (sq n fun _ _ => false)) (n, n, q0, sq n f) := by
  obtain ⟨o, ⟨f, h1, rfl⟩, h⟩ : ∃ o, (∃ f, Forest n f ∧ o = (n, n, q0, sq n f)) ∧ Rl (fun k q => Lshuntlaw13_SparseTree_2 k q ps N n n ((0 + 1 : Nat) : Int) q0 (sq n fun _ _ => false)) o := by
    have z0 : Fo n (0 + 1) fun _ _ => false := ⟨⟨fun a c c' _ _ _ h => by (simp at h), fun a a' c _ _ _ h => by (simp at h)⟩, fun a c _ _ h => by (simp at h)⟩
    refine loopI (σ := List (List Bool)) (N - 1) (fun k q j fs => Lshuntlaw13_SparseTree_2 k q ps N n n (j + 1) q0 fs) (fun j fs => ∃ f, Fo n (j + 1) f ∧ fs = sq n f) _ ?_ ?_ (N - 1) 0 _ (by omega) ⟨_, z0, rfl⟩
    · rintro _ ⟨f, hf, rfl⟩
      refine ⟨_, ⟨f, hf.1, rfl⟩, Rl.up (f := fun k q => Lshuntlaw13_SparseTree_2 k q ps N n n (((N - 1 : Nat) : Int) + 1) q0 (sq n f)) (Rl.of 0 fun k q _ => ?_)⟩
      show Lshuntlaw13_SparseTree_2s k (Lshuntlaw13_SparseTree_2 k q) _ _ _ _ _ _ _ = _
      unfold Lshuntlaw13_SparseTree_2s
      exact if_neg (by first | omega | (simp only [decide_eq_true_eq, decide_eq_false_iff_not, Int.toNat_natCast, beq_iff_eq, bne_iff_ne, ne_eq, Int.not_lt, Int.not_le, ge_iff_le, gt_iff_lt, beq_eq_false_iff_ne, Nat.zero_add]; omega))
    · rintro j _ hj ⟨f, hf, rfl⟩
      obtain ⟨i, hi⟩ : ∃ i, i = j + 1 := ⟨_, rfl⟩
      have hiN : i < N := by omega
      have g : ps[Int.toNat (i : Int)]? = some (ps.getD i 0) := by rw [toNat_c]; exact getD_some 0 (by omega)
      have hx := hps _ (List.mem_of_getElem? g)
      generalize ps.getD i 0 = x at g hx
      obtain ⟨kn, hk, k1, k2⟩ := km hn x hx i (by omega)
      have hi2 := half hn i (by omega)
      have hk2 := half hn kn (by omega)
      have hw := wrap_i64 (x := (i : Int) + 1) (by omega)
      have hsl : (sq n f).length = n := sq_len n f
      rw [show ((j : Int) + 1) = (i : Int) by omega]
      rw [show j + 1 = i from hi.symm] at hf
      have step : ∀ fs o, Rl (fun k q => Lshuntlaw13_SparseTree_2s k (Lshuntlaw13_SparseTree_2 k q) ps N n n i q0 fs) o → Rl (fun k q => Lshuntlaw13_SparseTree_2 k q ps N n n i q0 fs) o :=
        fun fs o ho => Rl.up (f := fun k q => Lshuntlaw13_SparseTree_2 k q ps N n n i q0 fs) ho
      unfold Lshuntlaw13_SparseTree_2s at step
      have nxt : (((j + 1 : Nat) : Int) + 1) = (i : Int) + 1 := by omega
      have hi0 : ¬ (i : Int) = 0 := by omega
      by_cases hp : kn % 2 = i % 2
      · refine .inr ⟨sq n f, ⟨f, by rw [show j + 1 + 1 = i + 1 by omega]; exact hf.next, rfl⟩, fun o ho => step _ o ?_⟩
        rw [nxt] at ho
        refine Rl.t (by first | omega | (simp only [decide_eq_true_eq, decide_eq_false_iff_not, Int.toNat_natCast, beq_iff_eq, bne_iff_ne, ne_eq, Int.not_lt, Int.not_le, ge_iff_le, gt_iff_lt, beq_eq_false_iff_ne, Nat.zero_add]; omega)) (Rl.t (by first | omega | (simp only [decide_eq_true_eq, decide_eq_false_iff_not, Int.toNat_natCast, beq_iff_eq, bne_iff_ne, ne_eq, Int.not_lt, Int.not_le, ge_iff_le, gt_iff_lt, beq_eq_false_iff_ne, Nat.zero_add]; omega)) (Rl.at g ?_))
        by_cases hx0 : x < 0
        · refine Rl.t (decide_eq_true hx0) (Rl.f hi0 ?_)
          simp only [k1 hx0, par hn, hw]
          exact Rl.t (by rw [hp]; simp) ho
        · refine Rl.f (by simpa using hx0) (Rl.f hi0 ?_)
          simp only [k2 hx0, par hn, hw]
          exact Rl.t (by rw [hp]; simp) ho
      · have hpf : ¬ (((kn % 2 : Nat) : Int) == ((i % 2 : Nat) : Int)) = true := by rw [beq_iff_eq]; omega
        by_cases he : i % 2 = 0
        · have het : (((i % 2 : Nat) : Int) == 0) = true := by rw [beq_iff_eq]; omega
          refine .inr ⟨sq n (put1 f (i / 2) (kn / 2)), ⟨_, by rw [show j + 1 + 1 = i + 1 by omega]; exact hf.put (by omega), rfl⟩, fun o ho => step _ o ?_⟩
          rw [nxt, ← sq_put] at ho
          have g1 : (sq n f)[Int.toNat ((i / 2 : Nat) : Int)]? = some ((List.range n).map (f (i / 2))) := by rw [toNat_c]; exact sq_get n f (by omega)
          have g2 : ((List.range n).map (f (i / 2)))[0 + Int.toNat ((kn / 2 : Nat) : Int)]? = some (f (i / 2) (kn / 2)) := by rw [toNat_c, Nat.zero_add]; exact sqr_get n _ (by omega)
          have hv : tset (sq n f) (Int.toNat ((i / 2 : Nat) : Int)) (List.take ((List.range n).map (f (i / 2))).length (List.set ((List.range n).map (f (i / 2))) (0 + Int.toNat ((kn / 2 : Nat) : Int)) true)) = (sq n f).set (i / 2) (((List.range n).map (f (i / 2))).set (kn / 2) true) := by
            rw [toNat_c, toNat_c, Nat.zero_add, List.take_of_length_le (by simp), tset_eq (by rw [hsl]; omega)]
          refine Rl.t (by first | omega | (simp only [decide_eq_true_eq, decide_eq_false_iff_not, Int.toNat_natCast, beq_iff_eq, bne_iff_ne, ne_eq, Int.not_lt, Int.not_le, ge_iff_le, gt_iff_lt, beq_eq_false_iff_ne, Nat.zero_add]; omega)) (Rl.t (by first | omega | (simp only [decide_eq_true_eq, decide_eq_false_iff_not, Int.toNat_natCast, beq_iff_eq, bne_iff_ne, ne_eq, Int.not_lt, Int.not_le, ge_iff_le, gt_iff_lt, beq_eq_false_iff_ne, Nat.zero_add]; omega)) (Rl.at g ?_))
          by_cases hx0 : x < 0
          · refine Rl.t (decide_eq_true hx0) (Rl.f hi0 ?_)
            simp only [k1 hx0, par hn, hw, hi2, hk2]
            refine Rl.f hpf (Rl.t het (Rl.t (g := fun _ _ => none) ⟨by omega, by omega⟩ (Rl.at g1 (Rl.t (g := fun _ _ => none) ⟨by omega, by simp only [List.length_map, List.length_range]; omega⟩ (Rl.at g2 (Rl.t (g := fun _ _ => none) (by simp) ?_))))))
            rw [hv]; exact ho
          · refine Rl.f (by simpa using hx0) (Rl.f hi0 ?_)
            simp only [k2 hx0, par hn, hw, hi2, hk2]
            refine Rl.f hpf (Rl.t het (Rl.t (g := fun _ _ => none) ⟨by omega, by omega⟩ (Rl.at g1 (Rl.t (g := fun _ _ => none) ⟨by omega, by simp only [List.length_map, List.length_range]; omega⟩ (Rl.at g2 (Rl.t (g := fun _ _ => none) (by simp) ?_))))))
            rw [hv]; exact ho
        · have het : ¬ (((i % 2 : Nat) : Int) == 0) = true := by rw [beq_iff_eq]; omega
          refine .inr ⟨sq n (put1 f (kn / 2) (i / 2)), ⟨_, by rw [show j + 1 + 1 = i + 1 by omega]; exact hf.put (by omega), rfl⟩, fun o ho => step _ o ?_⟩
          rw [nxt, ← sq_put] at ho
          have g1 : (sq n f)[Int.toNat ((kn / 2 : Nat) : Int)]? = some ((List.range n).map (f (kn / 2))) := by rw [toNat_c]; exact sq_get n f (by omega)
          have g2 : ((List.range n).map (f (kn / 2)))[0 + Int.toNat ((i / 2 : Nat) : Int)]? = some (f (kn / 2) (i / 2)) := by rw [toNat_c, Nat.zero_add]; exact sqr_get n _ (by omega)
          have hv : tset (sq n f) (Int.toNat ((kn / 2 : Nat) : Int)) (List.take ((List.range n).map (f (kn / 2))).length (List.set ((List.range n).map (f (kn / 2))) (0 + Int.toNat ((i / 2 : Nat) : Int)) true)) = (sq n f).set (kn / 2) (((List.range n).map (f (kn / 2))).set (i / 2) true) := by
            rw [toNat_c, toNat_c, Nat.zero_add, List.take_of_length_le (by simp), tset_eq (by rw [hsl]; omega)]
          refine Rl.t (by first | omega | (simp only [decide_eq_true_eq, decide_eq_false_iff_not, Int.toNat_natCast, beq_iff_eq, bne_iff_ne, ne_eq, Int.not_lt, Int.not_le, ge_iff_le, gt_iff_lt, beq_eq_false_iff_ne, Nat.zero_add]; omega)) (Rl.t (by first | omega | (simp only [decide_eq_true_eq, decide_eq_false_iff_not, Int.toNat_natCast, beq_iff_eq, bne_iff_ne, ne_eq, Int.not_lt, Int.not_le, ge_iff_le, gt_iff_lt, beq_eq_false_iff_ne, Nat.zero_add]; omega)) (Rl.at g ?_))
          by_cases hx0 : x < 0
          · refine Rl.t (decide_eq_true hx0) (Rl.f hi0 ?_)
            simp only [k1 hx0, par hn, hw, hi2, hk2]
            refine Rl.f hpf (Rl.f het (Rl.t (g := fun _ _ => none) ⟨by omega, by omega⟩ (Rl.at g1 (Rl.t (g := fun _ _ => none) ⟨by omega, by simp only [List.length_map, List.length_range]; omega⟩ (Rl.at g2 (Rl.t (g := fun _ _ => none) (by simp) ?_))))))
            rw [hv]; exact ho
          · refine Rl.f (by simpa using hx0) (Rl.f hi0 ?_)
            simp only [k2 hx0, par hn, hw, hi2, hk2]
            refine Rl.f hpf (Rl.f het (Rl.t (g := fun _ _ => none) ⟨by omega, by omega⟩ (Rl.at g1 (Rl.t (g := fun _ _ => none) ⟨by omega, by simp only [List.length_map, List.length_range]; omega⟩ (Rl.at g2 (Rl.t (g := fun _ _ => none) (by simp) ?_))))))
            rw [hv]; exact ho
  exact ⟨f, h1, h⟩
end
theorem thin_succ (i : Nat) (f : Nat → Bool) : thin (i + 1) f = thin i f ++ if f i = true then [(i : Int)] else [] := by
  unfold thin
  rw [List.range_succ, List.filter_append, List.map_append]
  cases h : f i <;> simp [h]
section
variable {n : Nat} (m : Nat → Nat → Bool) (hn : n ≤ 48)
include hn
end
section
variable {n : Nat} (hn : n ≤ 48) (f : Nat → Nat → Bool)
include hn
/-- The pattern's rows, part of a row done. -/
def pR (n : Nat) (f : Nat → Nat → Bool) (i j : Nat) : List (List Int) := (List.range n).map fun a => if a < i then thin n (f a) else if a = i then thin j (f i) else []
theorem pR_len (i j : Nat) : (pR n f i j).length = n := by simp [pR]
theorem pR_next (i j : Nat) : (pR n f i j).set i (thin j (f i) ++ if f i j = true then [(j : Int)] else []) = pR n f i (j + 1) := by
  unfold pR
  rw [map_set]
  refine List.map_congr_left fun a _ => ?_
  by_cases h : a = i
  · subst h; rw [if_pos rfl]; simp [thin_succ]
  · rw [if_neg h]
    by_cases h2 : a < i
    · rw [if_pos h2, if_pos h2]
    · rw [if_neg h2, if_neg h2, if_neg h, if_neg h]
theorem pR_stay (i j : Nat) (h : f i j = false) : pR n f i (j + 1) = pR n f i j := by
  unfold pR
  refine List.map_congr_left fun a _ => ?_
  rw [thin_succ, h]; simp
theorem pR_end (i : Nat) : pR n f i n = pR n f (i + 1) 0 := by
  unfold pR
  refine List.map_congr_left fun a _ => ?_
  by_cases h : a < i
  · rw [if_pos h, if_pos (by omega)]
  · by_cases h2 : a = i
    · subst h2; rw [if_neg h, if_pos rfl, if_pos (by omega)]
    · rw [if_neg h, if_neg h2, if_neg (by omega)]
      split
      · rfl
      · rfl
theorem sq_self (i : Nat) (hi : i < n) : tset (sq n f) (Int.toNat (i : Int)) (List.take ((List.range n).map (f i)).length ((List.range n).map (f i))) = sq n f := by
  rw [toNat_c, List.take_length, tset_eq (by rw [sq_len]; exact hi)]
  unfold sq
  rw [map_set]
  refine List.map_congr_left fun a _ => ?_
  by_cases h : a = i
  · subst h; rw [if_pos rfl]
  · rw [if_neg h]
theorem tree6 (i : Nat) (hi : i < n) : Rl (fun k q => Lshuntlaw13_SparseTree_6 k q n n i n i n ((0 : Nat) : Int) (pR n f i 0) (sq n f)) (n, n, (n : Int), (i : Int), pR n f (i + 1) 0, sq n f) := by
  obtain ⟨o, rfl, h⟩ : ∃ o, o = (n, n, (n : Int), (i : Int), pR n f (i + 1) 0, sq n f) ∧ Rl (fun k q => Lshuntlaw13_SparseTree_6 k q n n i n i n ((0 : Nat) : Int) (pR n f i 0) (sq n f)) o := by
    refine loopI (σ := List (List Int)) n (fun k q j qs => Lshuntlaw13_SparseTree_6 k q n n i n i n j qs (sq n f)) (fun j qs => qs = pR n f i j) _ ?_ ?_ n 0 _ (by omega) rfl
    · rintro _ rfl
      refine ⟨_, rfl, Rl.up (f := fun k q => Lshuntlaw13_SparseTree_6 k q n n i n i n n (pR n f i n) (sq n f)) (Rl.of 0 fun k q _ => ?_)⟩
      show Lshuntlaw13_SparseTree_6s k (Lshuntlaw13_SparseTree_6 k q) _ _ _ _ _ _ _ _ _ = _
      unfold Lshuntlaw13_SparseTree_6s
      rw [pR_end hn f i]
      exact if_neg (by first | omega | (simp only [decide_eq_true_eq, decide_eq_false_iff_not, Int.toNat_natCast, beq_iff_eq, bne_iff_ne, ne_eq, Int.not_lt, Int.not_le, ge_iff_le, gt_iff_lt, beq_eq_false_iff_ne, Nat.zero_add]; omega))
    · rintro j _ hj rfl
      refine .inr ⟨_, rfl, fun o ho => Rl.up (f := fun k q => Lshuntlaw13_SparseTree_6 k q n n i n i n j (pR n f i j) (sq n f)) ?_⟩
      have hq := pR_len hn f i j
      have g1 : (sq n f)[Int.toNat (i : Int)]? = some ((List.range n).map (f i)) := by rw [toNat_c]; exact sq_get n f hi
      have g2 : ((List.range n).map (f i))[0 + Int.toNat (j : Int)]? = some (f i j) := by rw [toNat_c, Nat.zero_add]; exact sqr_get n _ hj
      have g3 : (pR n f i j)[Int.toNat (i : Int)]? = some (thin j (f i)) := by
        rw [toNat_c]
        unfold pR
        rw [sqr_get' _ _ hi, if_neg (by omega), if_pos rfl]
      have hl := thin_le j (f i)
      have hs := sq_self hn f i hi
      have hw := wrap_i64 (x := (j : Int) + 1) (by omega)
      show Rl (fun k q => Lshuntlaw13_SparseTree_6s k (Lshuntlaw13_SparseTree_6 k q) _ _ _ _ _ _ _ _ _) _
      unfold Lshuntlaw13_SparseTree_6s
      refine Rl.t (by first | omega | (simp only [decide_eq_true_eq, decide_eq_false_iff_not, Int.toNat_natCast, beq_iff_eq, bne_iff_ne, ne_eq, Int.not_lt, Int.not_le, ge_iff_le, gt_iff_lt, beq_eq_false_iff_ne, Nat.zero_add]; omega)) (Rl.t (g := fun _ _ => none) ⟨by omega, by omega⟩ (Rl.at g1 (Rl.t (g := fun _ _ => none) ⟨by omega, by simp only [List.length_map, List.length_range]; omega⟩ (Rl.at g2 ?_))))
      by_cases hf : f i j = true
      · rw [← pR_next hn f i j, if_pos hf] at ho
        generalize hx : thin j (f i) = x7 at *
        have hv : List.take (x7.length + (List.take 1 [(j : Int)]).length) (List.take x7.length x7 ++ List.take 1 [(j : Int)]) = x7 ++ [(j : Int)] := by
          rw [List.take_length, List.take_of_length_le (by simp)]; rfl
        refine Rl.t hf (Rl.t (g := fun _ _ => none) ⟨by omega, by omega⟩ (Rl.at g3 (Rl.t (g := fun _ _ => none) (Nat.le_refl _) (Rl.t (g := fun _ _ => none) (by simp only [List.length_take, List.length_cons, List.length_nil]; omega) (Rl.t (g := fun _ _ => none) ⟨by omega, by omega⟩ (Rl.t (g := fun _ _ => none) rfl (Rl.t (g := fun _ _ => none) (by rw [hq, toNat_c]; exact hi) (Rl.t (g := fun _ _ => none) (by simp) (Rl.t (g := fun _ _ => none) (Nat.le_refl _) ?_)))))))))
        rw [hv, hs, hw, toNat_c, tset_eq (by rw [hq]; exact hi)]
        exact ho
      · rw [pR_stay hn f i j (by simpa using hf)] at ho
        refine Rl.f hf (Rl.t (g := fun _ _ => none) (Nat.le_refl _) ?_)
        rw [hs, hw]
        exact ho
  exact h
theorem tree4 : Rl (fun k q => Lshuntlaw13_SparseTree_4 k q n n n ((0 : Nat) : Int) (List.replicate n []) (sq n f)) (n, pat n f, sq n f) := by
  have h0 : List.replicate n ([] : List Int) = pR n f 0 0 := by
    unfold pR
    apply List.ext_getElem?
    intro i
    by_cases h : i < n <;> simp [h, thin]
  have hE : pR n f n 0 = pat n f := List.map_congr_left fun a ha => if_pos (List.mem_range.1 ha)
  rw [h0]
  obtain ⟨o, rfl, h⟩ : ∃ o, o = (n, pat n f, sq n f) ∧ Rl (fun k q => Lshuntlaw13_SparseTree_4 k q n n n ((0 : Nat) : Int) (pR n f 0 0) (sq n f)) o := by
    refine loopI (σ := List (List Int)) n (fun k q i qs => Lshuntlaw13_SparseTree_4 k q n n n i qs (sq n f)) (fun i qs => qs = pR n f i 0) _ ?_ ?_ n 0 _ (by omega) rfl
    · rintro _ rfl
      refine ⟨_, rfl, Rl.up (f := fun k q => Lshuntlaw13_SparseTree_4 k q n n n n (pR n f n 0) (sq n f)) (Rl.of 0 fun k q _ => ?_)⟩
      show Lshuntlaw13_SparseTree_4s k (Lshuntlaw13_SparseTree_4 k q) _ _ _ _ _ _ = _
      unfold Lshuntlaw13_SparseTree_4s
      rw [hE]
      exact if_neg (by first | omega | (simp only [decide_eq_true_eq, decide_eq_false_iff_not, Int.toNat_natCast, beq_iff_eq, bne_iff_ne, ne_eq, Int.not_lt, Int.not_le, ge_iff_le, gt_iff_lt, beq_eq_false_iff_ne, Nat.zero_add]; omega))
    · rintro i _ hi rfl
      refine .inr ⟨_, rfl, fun o ho => Rl.up (f := fun k q => Lshuntlaw13_SparseTree_4 k q n n n i (pR n f i 0) (sq n f)) ?_⟩
      have g1 : (sq n f)[Int.toNat (i : Int)]? = some ((List.range n).map (f i)) := by rw [toNat_c]; exact sq_get n f hi
      have hs := sq_self hn f i hi
      have h6 := (tree6 hn f i hi).diag
      have hll : ((((List.range n).map (f i)).length : Nat) : Int) = (n : Int) := by simp
      show Rl (fun k q => Lshuntlaw13_SparseTree_4s k (Lshuntlaw13_SparseTree_4 k q) _ _ _ _ _ _) _
      unfold Lshuntlaw13_SparseTree_4s
      refine Rl.t (by first | omega | (simp only [decide_eq_true_eq, decide_eq_false_iff_not, Int.toNat_natCast, beq_iff_eq, bne_iff_ne, ne_eq, Int.not_lt, Int.not_le, ge_iff_le, gt_iff_lt, beq_eq_false_iff_ne, Nat.zero_add]; omega)) (Rl.t (g := fun _ _ => none) ⟨by omega, by omega⟩ (Rl.at g1 (Rl.t (g := fun _ _ => none) (Nat.le_refl _) ?_)))
      rw [hs, hll]
      refine Rl.bind h6 ?_
      simp only
      rw [wrap_i64 (by omega)]
      exact ho
  exact h
end
theorem wfd_i64 {r : List Int} (h : Wfd (.sl (.int .i64)) r) : ∀ x ∈ r, -9223372036854775808 ≤ x ∧ x ≤ 9223372036854775807 := by
  intro x hx
  have h := h.2 x hx
  simp only [Wfd, Lit.wf, IntKind.min, IntKind.max, IntKind.signed, IntKind.bits] at h
  simp at h
  omega
set_option maxHeartbeats 2000000 in
theorem pure_SparseTree (ps : List Int) (wp : Wfd (.sl (.int .i64)) ps) : ∃ k, Fshuntlaw13_SparseTree k ps = some true := by
  refine Rn.get (f := fun k => Fshuntlaw13_SparseTree k ps) (Rn.up (f := fun k => Fshuntlaw13_SparseTree k ps) ?_)
  show Rn (fun k => bshuntlaw13_SparseTree k ps) _
  unfold bshuntlaw13_SparseTree
  obtain ⟨N, hN⟩ : ∃ N, N = min ps.length 40 := ⟨_, rfl⟩
  obtain ⟨n, hnN⟩ : ∃ n, n = N / 2 + 1 := ⟨_, rfl⟩
  have hn : n ≤ 48 := by omega
  have e1 : min ((ps.length : Nat) : Int) (40 : Int) = (N : Int) := by omega
  have e2 : IntKind.i64.wrap (IntKind.i64.wrap (Int.tdiv (N : Int) (2 : Int)) + (1 : Int)) = (n : Int) := by
    rw [half hn N (by omega), wrap_i64 (by omega)]; omega
  simp only [e1, e2, toNat_c]
  obtain ⟨f, hf, h2⟩ := tree2 hn ps N (wfd_i64 wp) (by omega) (by omega) hnN (List.replicate n [])
  obtain ⟨a, b, o1, o2⟩ := tree_done hn f hf
  have ht : List.take n (pat n f) = pat n f := List.take_of_length_le (by rw [pat_len]; exact Nat.le_refl _)
  have h0 := (tree0 hn ps (N : Int) (List.replicate n [])).diag
  refine Rn.bind awake13_ev (Rn.f (by simp) (Rn.t (g := fun _ => none) ⟨by omega, by omega, by omega⟩ (Rn.t (g := fun _ => none) ⟨by omega, by omega, by omega⟩ (Rn.bind h0 ?_))))
  simp only
  refine Rn.bind h2.diag ?_
  simp only
  refine Rn.bind (tree4 hn f).diag ?_
  simp only [ht]
  exact Rn.t (g := fun _ => none) (by rw [pat_len]; omega) (Rn.bind o1 (Rn.t (g := fun _ => none) (by rw [pat_len]; omega) (Rn.bind o2 (Rn.t (by simp) (Rn.t (by simp) (Rn.const (by simp)))))))
end Go.Proofs.Ytgiamleohegjeaa.Am

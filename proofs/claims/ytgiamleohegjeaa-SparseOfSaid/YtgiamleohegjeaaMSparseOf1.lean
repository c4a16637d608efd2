/- Plain reckoning: rounds enough, and what rows of digits are worth. -/
import Derived.Test.YtgiamleohegjeaaMP1
import Derived.KernelRfl

set_option linter.unusedVariables false
set_option linter.unusedSimpArgs false
namespace Go.Proofs.Ytgiamleohegjeaa.Am

/-- With rounds enough the answer is r. -/
def Rn {α : Type} (f : Nat → Option α) (r : α) : Prop := ∃ K, ∀ k, K ≤ k → f k = some r
/-- The same, where a loop's rounds count for themselves. -/
def Rl {α : Type} (f : Nat → Nat → Option α) (r : α) : Prop := ∃ K, ∀ k n, K ≤ k → K ≤ n → f k n = some r
section
variable {α β γ : Type}
theorem Rn.pure (r : α) : Rn (fun _ => some r) r := ⟨0, fun _ _ => rfl⟩
theorem Rn.eq {f : Nat → Option α} {r : α} (K : Nat) (h : ∀ k, K ≤ k → f k = some r) : Rn f r := ⟨K, h⟩
theorem Rn.bind {f : Nat → Option α} {g : Nat → α → Option β} {x : α} {r : β} (h1 : Rn f x) (h2 : Rn (fun k => g k x) r) : Rn (fun k => Option.bind (f k) (g k)) r := by
 obtain ⟨K1, h1⟩ := h1
 obtain ⟨K2, h2⟩ := h2
 exact ⟨max K1 K2, fun k hk => by show Option.bind (f k) (g k) = _; rw [h1 k (by omega)]; exact h2 k (by omega)⟩
/-- A function's rounds are one more than its body's. -/
theorem Rn.up {f : Nat → Option α} {r : α} (h : Rn (fun k => f (k + 1)) r) : Rn f r := by
 obtain ⟨K, h⟩ := h
 refine ⟨K + 1, fun k hk => ?_⟩
 obtain ⟨j, rfl⟩ : ∃ j, k = j + 1 := ⟨k - 1, by omega⟩
 exact h j (by omega)
theorem Rn.const {e : Option α} {r : α} (h : e = some r) : Rn (fun _ => e) r := ⟨0, fun _ _ => h⟩
theorem Rn.t {c : Prop} [Decidable c] {f g : Nat → Option α} {r : α} (h : c) (hf : Rn f r) : Rn (fun k => if c then f k else g k) r := by
 simpa only [if_pos h] using hf
theorem Rn.f {c : Prop} [Decidable c] {f g : Nat → Option α} {r : α} (h : ¬ c) (hg : Rn g r) : Rn (fun k => if c then f k else g k) r := by
 simpa only [if_neg h] using hg
theorem Rn.at {o : Option α} {g : Nat → α → Option β} {x : α} {r : β} (h : o = some x) (hg : Rn (fun k => g k x) r) : Rn (fun k => Option.bind o (g k)) r := by
 simpa only [h, Option.bind_some] using hg
theorem Rl.diag {f : Nat → Nat → Option α} {r : α} (h : Rl f r) : Rn (fun k => f k k) r := by
 obtain ⟨K, h⟩ := h
 exact ⟨K, fun k hk => h k k hk hk⟩
theorem Rl.pure (r : α) : Rl (fun _ _ => some r) r := ⟨0, fun _ _ _ _ => rfl⟩
theorem Rl.bind {f : Nat → Option α} {g : Nat → Nat → α → Option β} {x : α} {r : β} (h1 : Rn f x) (h2 : Rl (fun k n => g k n x) r) : Rl (fun k n => Option.bind (f k) (g k n)) r := by
 obtain ⟨K1, h1⟩ := h1
 obtain ⟨K2, h2⟩ := h2
 exact ⟨max K1 K2, fun k n hk hn => by show Option.bind (f k) (g k n) = _; rw [h1 k (by omega)]; exact h2 k n (by omega) (by omega)⟩
theorem Rl.up {f : Nat → Nat → Option α} {r : α} (h : Rl (fun k n => f k (n + 1)) r) : Rl f r := by
 obtain ⟨K, h⟩ := h
 refine ⟨K + 1, fun k n hk hn => ?_⟩
 obtain ⟨j, rfl⟩ : ∃ j, n = j + 1 := ⟨n - 1, by omega⟩
 exact h k j (by omega) (by omega)
theorem Rl.of {f : Nat → Nat → Option α} {r : α} (K : Nat) (h : ∀ k n, K ≤ n → f k n = some r) : Rl f r := ⟨K, fun k n _ hn => h k n hn⟩
end

theorem wrap_u32_id {x : Int} (h : 0 ≤ x ∧ x < 4294967296) : IntKind.u32.wrap x = x := by rw [wrap_u32]; omega
theorem wrap_u64_id {x : Int} (h : 0 ≤ x ∧ x < 18446744073709551616) : IntKind.u64.wrap x = x := by rw [wrap_u64]; omega
theorem wrap_u8_id {x : Int} (h : 0 ≤ x ∧ x < 256) : IntKind.u8.wrap x = x := by rw [wrap_u8]; omega
theorem tdiv_pos {x d : Int} (h : 0 ≤ x) : x.tdiv d = x / d := Int.tdiv_eq_ediv_of_nonneg h
theorem tmod_pos {x d : Int} (h : 0 ≤ x) : x.tmod d = x % d := Int.tmod_eq_emod_of_nonneg h
/-- What reckons, in one. -/
theorem ps :
 (∀ {p : Prop} [inst : Decidable p], (Decidable.decide p = Bool.true) = p) ∧
 (∀ {p : Prop} {x : Decidable p}, Decidable.decide p = Bool.false ↔ ¬p) ∧
 (∀ {α : Type} [inst : BEq α] [LawfulBEq α] {a b : α}, (a == b) = Bool.true ↔ a = b) ∧
 (∀ {α : Type} [inst : BEq α] [LawfulBEq α] {a b : α}, (a != b) = Bool.true ↔ a ≠ b) ∧
 (∀ {α : Type} (a b : α), (a ≠ b) = ¬a = b) ∧
 (∀ {α : Type} [inst : LT α] {x y : α}, x > y ↔ y < x) ∧
 (∀ {α : Type} [inst : LE α] {x y : α}, x ≥ y ↔ y ≤ x) ∧
 (∀ {a b : Int}, a ≤ b → (a ≤ b) = True) ∧
 (∀ {a b : Int}, ¬a ≤ b → (a ≤ b) = False) ∧
 (∀ {a b : Int}, a < b → (a < b) = True) ∧
 (∀ {a b : Int}, ¬a < b → (a < b) = False) ∧
 (∀ {a b : Int}, a = b → (a = b) = True) ∧
 (∀ {a b : Int}, ¬a = b → (a = b) = False) ∧
 (∀ {a b : Nat}, a ≤ b → (a ≤ b) = True) ∧
 (∀ {a b : Nat}, ¬a ≤ b → (a ≤ b) = False) ∧
 (∀ {a b : Nat}, a < b → (a < b) = True) ∧
 (∀ {a b : Nat}, ¬a < b → (a < b) = False) ∧
 ((¬True) = False) ∧
 ((¬False) = True) ∧
 (∀ (p : Prop), (True ∧ p) = p) ∧
 (∀ (p : Prop), (p ∧ True) = p) ∧
 (∀ (p : Prop), (False ∧ p) = False) ∧
 (∀ (p : Prop), (p ∧ False) = False) ∧
 (∀ (p : Prop), (p ∧ p) = p) ∧
 (∀ (p : Prop), (p ∨ True) = True) ∧
 (∀ (p : Prop), (True ∨ p) = True) ∧
 (∀ (p : Prop), (p ∨ False) = p) ∧
 (∀ (p : Prop), (False ∨ p) = p) ∧
 (∀ {α β : Type} (a : α) (f : α → Option β), (Option.some a).bind f = f a) ∧
 (∀ (n : Nat), (0 : Nat) + n = n) ∧
 (∀ (n : Nat), n + (0 : Nat) = n) ∧
 (∀ (n : Nat), n - (0 : Nat) = n) ∧
 (∀ (n : Nat), (↑n : Int).toNat = n) ∧
 (Int.toNat (0 : Int) = (0 : Nat)) ∧
 (∀ {x : Int}, (-9223372036854775808 : Int) ≤ x ∧ x ≤ (9223372036854775807 : Int) → Go.IntKind.i64.wrap x = x) ∧
 (∀ {x : Int}, (0 : Int) ≤ x ∧ x < (4294967296 : Int) → Go.IntKind.u32.wrap x = x) ∧
 (∀ {x : Int}, (0 : Int) ≤ x ∧ x < (18446744073709551616 : Int) → Go.IntKind.u64.wrap x = x) ∧
 (∀ {x : Int}, (0 : Int) ≤ x ∧ x < (256 : Int) → Go.IntKind.u8.wrap x = x) ∧
 (∀ {α : Type} {l : List α}, List.take (0 : Nat) l = []) ∧
 (∀ {α : Type} (zs : List α), [] ++ zs = zs) ∧
 (∀ {α : Type} [inst : BEq α] [ReflBEq α] (a : α), (a == a) = Bool.true) ∧
 (∀ {α : Type} [inst : BEq α] [LawfulBEq α] (a : α), (a != a) = Bool.false) ∧
 (∀ {α : Type} (a : α), (a = a) = True) ∧
 ((Bool.false = Bool.true) = False) ∧
 ((Bool.true = Bool.false) = False) ∧
 (∀ {α : Type}, ([] : List α).length = (0 : Nat)) ∧
 ((↑(0 : Nat) : Int) = (0 : Int)) ∧
 ((!Bool.true) = Bool.false) ∧
 ((!Bool.false) = Bool.true) ∧
 (∀ {α β : Type} (f : α → Option β), Option.none.bind f = Option.none) ∧
 (∀ {α : Type} [inst : BEq α] [LawfulBEq α] {a b : α}, (a != b) = Bool.false ↔ a = b) ∧
 (∀ {α : Type} [inst : BEq α] [LawfulBEq α] {a b : α}, (a == b) = Bool.false ↔ a ≠ b) ∧
 (∀ (b : Bool), ((!b) = Bool.true) = (b = Bool.false)) ∧
 (∀ (b : Bool), ((!b) = Bool.false) = (b = Bool.true)) :=
 ⟨@decide_eq_true_eq, @decide_eq_false_iff_not, @beq_iff_eq.{0}, @bne_iff_ne.{0}, @ne_eq.{1}, @gt_iff_lt.{0}, @ge_iff_le.{0}, @ile_t, @ile_f, @ilt_t, @ilt_f, @ieq_t, @ieq_f, @nle_t, @nle_f, @nlt_t, @nlt_f, @not_true_eq_false, @not_false_eq_true, @true_and, @and_true, @false_and, @and_false, @and_self, @or_true, @true_or, @or_false, @false_or, @Option.bind_some.{0,0}, @Nat.zero_add, @Nat.add_zero, @Nat.sub_zero, @Int.toNat_natCast, @Int.toNat_zero, @wrap_i64, @wrap_u32_id, @wrap_u64_id, @wrap_u8_id, @List.take_zero.{0}, @List.nil_append.{0}, @beq_self_eq_true.{0}, @bne_self_eq_false.{0}, @eq_self.{1}, @Bool.false_eq_true, @Bool.true_eq_false, @List.length_nil.{0}, @Int.natCast_zero, @Bool.not_true, @Bool.not_false, @Option.bind_none.{0,0}, @bne_eq_false_iff_eq.{0}, @beq_eq_false_iff_ne.{0}, @Bool.not_eq_true', @Bool.not_eq_false'⟩
/-- What digits are worth, the lowest first. -/
def V (B : Int) : List Int → Int
 | [] => 0
 | x :: r => x + B * V B r
/-- Digits of the base. -/
def Dg (B : Int) (l : List Int) : Prop := ∀ x ∈ l, 0 ≤ x ∧ x < B
/-- Without the noughts at the end. -/
def tl : List Int → List Int
 | [] => []
 | x :: r => if x = 0 ∧ tl r = [] then [] else x :: tl r
theorem tl_snoc (l : List Int) (x : Int) : tl (l ++ [x]) = if x = 0 then tl l else l ++ [x] := by
 induction l with
 | nil => by_cases h : x = 0 <;> simp [tl, h]
 | cons y l ih =>
  simp only [List.cons_append, tl, ih]
  by_cases h : x = 0
  ·simp [h]
  ·simp [h]
theorem tl_len (l : List Int) : (tl l).length ≤ l.length := by
 induction l with
 | nil => exact Nat.le_refl _
 | cons x r ih => simp only [tl]; split <;> simp; omega
theorem tl_take (l : List Int) : l.take (tl l).length = tl l := by
 induction l with
 | nil => rfl
 | cons x r ih =>
  simp only [tl]
  split
  ·rfl
  ·simp [ih]
theorem tl_tl (l : List Int) : tl (tl l) = tl l := by
 induction l with
 | nil => rfl
 | cons x r ih =>
  simp only [tl]
  split
  ·rfl
  ·rename_i h
   simp only [tl, ih]
   rw [if_neg h]
section
variable {B : Int}
theorem V_append (l m : List Int) : V B (l ++ m) = V B l + B ^ l.length * V B m := by
 induction l with
 | nil => simp [V]
 | cons x l ih =>
  simp only [List.cons_append, V, ih, List.length_cons, Int.pow_succ]
  rw [Int.mul_add, Int.add_assoc, Int.mul_comm (B ^ l.length) B, Int.mul_assoc]
theorem V_snoc (l : List Int) (x : Int) : V B (l ++ [x]) = V B l + B ^ l.length * x := by rw [V_append]; simp [V]
theorem Dg.nil : Dg B [] := fun x h => by cases h
theorem Dg.cons {x : Int} {l : List Int} (h : 0 ≤ x ∧ x < B) (hl : Dg B l) : Dg B (x :: l) := fun y hy => by
 rcases List.mem_cons.1 hy with rfl | hy
 ·exact h
 ·exact hl y hy
theorem Dg.tail {x : Int} {l : List Int} (h : Dg B (x :: l)) : Dg B l := fun y hy => h y (List.mem_cons_of_mem _ hy)
theorem Dg.head {x : Int} {l : List Int} (h : Dg B (x :: l)) : 0 ≤ x ∧ x < B := h x (List.mem_cons_self ..)
theorem Dg.append {l m : List Int} (h1 : Dg B l) (h2 : Dg B m) : Dg B (l ++ m) := fun y hy => by
 rcases List.mem_append.1 hy with hy | hy
 ·exact h1 y hy
 ·exact h2 y hy
theorem Dg.take {l : List Int} (h : Dg B l) (n : Nat) : Dg B (l.take n) := fun y hy => h y (List.mem_of_mem_take hy)
theorem Dg.drop {l : List Int} (h : Dg B l) (n : Nat) : Dg B (l.drop n) := fun y hy => h y (List.mem_of_mem_drop hy)
theorem Dg.get {l : List Int} (h : Dg B l) {i : Nat} {x : Int} (e : l[i]? = some x) : 0 ≤ x ∧ x < B := h x (List.mem_of_getElem? e)
theorem Dg.set {l : List Int} (h : Dg B l) (i : Nat) {x : Int} (hx : 0 ≤ x ∧ x < B) : Dg B (l.set i x) := fun y hy => by
 rcases List.mem_or_eq_of_mem_set hy with hy | rfl
 ·exact h y hy
 ·exact hx
theorem Dg.tl {l : List Int} (h : Dg B l) : Dg B (tl l) := by rw [← tl_take]; exact h.take _
theorem V_nonneg (hB : 0 ≤ B) {l : List Int} (h : Dg B l) : 0 ≤ V B l := by
 induction l with
 | nil => exact Int.le_refl _
 | cons x l ih => have := Int.mul_nonneg hB (ih h.tail); have := h.head; simp only [V]; omega
theorem V_tl (l : List Int) : V B (tl l) = V B l := by
 induction l with
 | nil => rfl
 | cons x l ih =>
  simp only [tl]
  split
  ·rename_i h
   rw [h.2] at ih
   simp only [V] at ih ⊢
   rw [← ih, h.1]; simp
  ·simp only [V, ih]
/-- Digits in the one form. -/
def Cn (B : Int) (l : List Int) : Prop := Dg B l ∧ tl l = l
theorem Cn.of {l : List Int} (h : Dg B l) : Cn B (tl l) := ⟨h.tl, tl_tl l⟩
theorem Cn.nil : Cn B [] := ⟨Dg.nil, rfl⟩
theorem Cn.tail {x : Int} {l : List Int} (h : Cn B (x :: l)) : Cn B l := by
 refine ⟨h.1.tail, ?_⟩
 have := h.2
 simp only [tl] at this
 split at this
 ·cases this
 ·simpa using this
theorem Cn.pos {x : Int} {l : List Int} (hB : 0 < B) (h : Cn B (x :: l)) : 0 < V B (x :: l) := by
 induction l generalizing x with
 | nil =>
  have h1 := h.1.head
  have h2 := h.2
  simp only [tl, and_true] at h2
  simp only [V, Int.mul_zero, Int.add_zero]
  split at h2
  ·cases h2
  ·omega
 | cons y l ih =>
  have := ih h.tail
  have := Int.mul_pos hB this
  have := h.1.head
  rw [V]
  omega
theorem Cn.ext (hB : 0 < B) : ∀ {l m : List Int}, Cn B l → Cn B m → V B l = V B m → l = m := by
 intro l
 induction l with
 | nil =>
  intro m h1 h2 e
  cases m with
  | nil => rfl
  | cons y m => have := h2.pos hB; rw [← e] at this; simp [V] at this
 | cons x l ih =>
  intro m h1 h2 e
  cases m with
  | nil => have := h1.pos hB; rw [e] at this; simp [V] at this
  | cons y m =>
   have hx := h1.1.head
   have hy := h2.1.head
   simp only [V] at e
   have e1 : x = y := by
    have a1 : (x + B * V B l) % B = x := by rw [Int.add_mul_emod_self_left]; exact Int.emod_eq_of_lt hx.1 hx.2
    have a2 : (y + B * V B m) % B = y := by rw [Int.add_mul_emod_self_left]; exact Int.emod_eq_of_lt hy.1 hy.2
    rw [← a1, ← a2, e]
   subst e1
   have e2 : B * V B l = B * V B m := by omega
   have e3 := Int.eq_of_mul_eq_mul_left (by omega) e2
   rw [ih h1.tail h2.tail e3]
theorem Cn.nil_iff (hB : 0 < B) {l : List Int} (h : Cn B l) : l = [] ↔ V B l = 0 := by
 constructor
 ·rintro rfl; rfl
 ·intro e; exact Cn.ext hB h Cn.nil e
/-- The last digit isn't 0. -/
theorem Cn.last {l : List Int} (h : Dg B l) : tl l = l ↔ l = [] ∨ ∃ m x, l = m ++ [x] ∧ x ≠ 0 := by
 rcases List.eq_nil_or_concat l with rfl | ⟨m, x, rfl⟩
 ·simp [tl]
 ·simp only [List.concat_eq_append, tl_snoc]
  constructor
  ·intro e
   refine .inr ⟨m, x, rfl, fun h0 => ?_⟩
   rw [if_pos h0] at e
   have := tl_len m
   rw [e] at this
   simp at this
   omega
  ·rintro (e | ⟨m', x', e, h0⟩)
   ·simp at e
   ·obtain ⟨h1, h2⟩ := List.append_inj' e rfl
    simp only [List.cons.injEq, and_true] at h2
    rw [h2, if_neg h0]
theorem V_take_succ {l : List Int} {i : Nat} {x : Int} (e : l[i]? = some x) : V B (l.take (i + 1)) = V B (l.take i) + B ^ i * x := by
 rw [List.take_add_one, e]
 have : (l.take i).length = i := by rw [List.length_take]; have := (List.getElem?_eq_some_iff.1 e).1; omega
 simp only [Option.toList_some]
 rw [V_snoc, this]
end
theorem get_of {l : List Int} {i : Nat} (h : i < l.length) : ∃ x, l[i]? = some x := ⟨l[i], List.getElem?_eq_getElem h⟩
/-- A signed number: its sign and its digits in the one form. -/
structure Nm (B : Int) (s : Bool) (l : List Int) (z : Int) : Prop where
 c : Cn B l
 sg : s = true → l ≠ []
 z : (if s then -(V B l) else V B l) = z
theorem Nm.ext {B : Int} (hB : 0 < B) {s t : Bool} {l m : List Int} {z : Int} (h1 : Nm B s l z) (h2 : Nm B t m z) : s = t ∧ l = m := by
 have p1 := V_nonneg (B := B) (by omega) h1.c.1
 have p2 := V_nonneg (B := B) (by omega) h2.c.1
 have q1 := h1.c.nil_iff hB
 have q2 := h2.c.nil_iff hB
 have e1 := h1.z
 have e2 := h2.z
 have s1 := h1.sg
 have s2 := h2.sg
 cases s <;> cases t
 ·refine ⟨rfl, Cn.ext hB h1.c h2.c ?_⟩
  simp at e1 e2; omega
 ·have := s2 rfl
  simp at e1 e2
  exact absurd (q2.2 (by omega)) this
 ·have := s1 rfl
  simp at e1 e2
  exact absurd (q1.2 (by omega)) this
 ·refine ⟨rfl, Cn.ext hB h1.c h2.c ?_⟩
  simp at e1 e2; omega
theorem Nm.neg {B : Int} (hB : 0 < B) {s : Bool} {l : List Int} {z : Int} (h : Nm B s l z) : s = decide (z < 0) := by
 have p := V_nonneg (B := B) (by omega) h.c.1
 have e := h.z
 cases s
 ·simp at e
  rw [eq_comm, decide_eq_false_iff_not]; omega
 ·have := h.sg rfl
  have q := mt (h.c.nil_iff hB).2 this
  simp at e
  rw [eq_comm, decide_eq_true_eq]; omega
theorem Nm.of {B : Int} (hB : 0 < B) {l : List Int} (h : Cn B l) {z : Int} (e : V B l = z.natAbs) : Nm B (decide (z < 0)) l z := by
 have p := V_nonneg (B := B) (by omega) h.1
 refine ⟨h, fun hs h0 => ?_, ?_⟩
 ·have := (h.nil_iff hB).1 h0
  simp at hs; omega
 ·by_cases hz : z < 0
  ·simp [hz]; omega
  ·simp [hz]; omega
end Go.Proofs.Ytgiamleohegjeaa.Am
namespace Go.Proofs.Ytgiamleohegjeaa.Am
open Go
theorem Rl.t {α : Type} {c : Prop} [Decidable c] {f g : Nat → Nat → Option α} {r : α} (h : c) (hf : Rl f r) : Rl (fun k n => if c then f k n else g k n) r := by
 simpa only [if_pos h] using hf
theorem Rl.f {α : Type} {c : Prop} [Decidable c] {f g : Nat → Nat → Option α} {r : α} (h : ¬ c) (hg : Rl g r) : Rl (fun k n => if c then f k n else g k n) r := by
 simpa only [if_neg h] using hg
theorem Rl.at {α β : Type} {o : Option α} {g : Nat → Nat → α → Option β} {x : α} {r : β} (h : o = some x) (hg : Rl (fun k n => g k n x) r) : Rl (fun k n => Option.bind o (g k n)) r := by
 simpa only [h, Option.bind_some] using hg
theorem getD_some {α : Type} {l : List α} {i : Nat} (d : α) (h : i < l.length) : l[i]? = some (l.getD i d) := by
 rw [List.getElem?_eq_getElem h]; simp [List.getD, h]
/-- A loop that looks at each place, and leaves at the first that isn't right. -/
theorem scan {A B : Type} (L s : Nat) (F : Nat → Nat → Int → Option (A ⊕ B)) (b : B) (P : A → Prop) (ok : Nat → Prop)
  (hend : Rl (fun k n => F k n (L : Int)) (.inr b))
  (hgo : ∀ i : Nat, s ≤ i → i < L → ok i → ∀ o, Rl (fun k n => F k n ((i : Int) + 1)) o → Rl (fun k n => F k n (i : Int)) o)
  (hno : ∀ i : Nat, s ≤ i → i < L → ¬ ok i → ∃ a, P a ∧ Rl (fun k n => F k n (i : Int)) (.inl a)) :
  ∀ d i : Nat, s ≤ i → i + d = L → ∃ o, Rl (fun k n => F k n (i : Int)) o ∧ ((∀ j, i ≤ j → j < L → ok j) ∧ o = .inr b ∨ (¬ ∀ j, i ≤ j → j < L → ok j) ∧ ∃ a, P a ∧ o = .inl a) := by
 intro d
 induction d with
 | zero =>
  intro i hs hi
  obtain rfl : i = L := by omega
  exact ⟨_, hend, .inl ⟨fun j h1 h2 => absurd h2 (by omega), rfl⟩⟩
 | succ d ih =>
  intro i hs hi
  by_cases h : ok i
  ·obtain ⟨o, h1, h2⟩ := ih (i + 1) (by omega) (by omega)
   refine ⟨o, hgo i hs (by omega) h o h1, ?_⟩
   have e : (∀ j, i + 1 ≤ j → j < L → ok j) ↔ (∀ j, i ≤ j → j < L → ok j) := ⟨fun g j j1 j2 => by
    rcases Nat.lt_or_ge i j with k | k
    ·exact g j k j2
    ·exact (show i = j by omega) ▸ h, fun g j j1 j2 => g j (by omega) j2⟩
   rwa [e] at h2
  ·obtain ⟨a, h1, h2⟩ := hno i hs (by omega) h
   exact ⟨_, h2, .inr ⟨fun g => h (g i (Nat.le_refl _) (by omega)), a, h1, rfl⟩⟩
/-- As scan, where what lies behind is known to be right. -/
theorem scan2 {A B : Type} (L s : Nat) (F : Nat → Nat → Int → Option (A ⊕ B)) (b : B) (P : A → Prop) (ok : Nat → Prop)
  (hend : Rl (fun k n => F k n (L : Int)) (.inr b))
  (hgo : ∀ i : Nat, s ≤ i → i < L → (∀ j, s ≤ j → j < i → ok j) → ok i → ∀ o, Rl (fun k n => F k n ((i : Int) + 1)) o → Rl (fun k n => F k n (i : Int)) o)
  (hno : ∀ i : Nat, s ≤ i → i < L → (∀ j, s ≤ j → j < i → ok j) → ¬ ok i → ∃ a, P a ∧ Rl (fun k n => F k n (i : Int)) (.inl a)) :
  ∀ d i : Nat, s ≤ i → i + d = L → (∀ j, s ≤ j → j < i → ok j) → ∃ o, Rl (fun k n => F k n (i : Int)) o ∧ ((∀ j, s ≤ j → j < L → ok j) ∧ o = .inr b ∨ (¬ ∀ j, s ≤ j → j < L → ok j) ∧ ∃ a, P a ∧ o = .inl a) := by
 intro d
 induction d with
 | zero =>
  intro i hs hi hp
  obtain rfl : i = L := by omega
  exact ⟨_, hend, .inl ⟨hp, rfl⟩⟩
 | succ d ih =>
  intro i hs hi hp
  by_cases h : ok i
  ·obtain ⟨o, h1, h2⟩ := ih (i + 1) (by omega) (by omega) (fun j j1 j2 => by
    rcases Nat.lt_or_ge j i with k | k
    ·exact hp j j1 k
    ·exact (show i = j by omega) ▸ h)
   exact ⟨o, hgo i hs (by omega) hp h o h1, h2⟩
  ·obtain ⟨a, h1, h2⟩ := hno i hs (by omega) hp h
   exact ⟨_, h2, .inr ⟨fun g => h (g i hs (by omega)), a, h1, rfl⟩⟩
end Go.Proofs.Ytgiamleohegjeaa.Am
set_option linter.unusedSectionVars false
set_option maxRecDepth 10000
namespace Go.Proofs.Ytgiamleohegjeaa.Am
open Go

/-- A loop over places, by what holds at each. -/
theorem loopI {σ β : Type} (L : Nat) (G : Nat → Nat → Int → σ → Option β) (Inv : Nat → σ → Prop) (Q : β → Prop)
    (hend : ∀ s, Inv L s → ∃ o, Q o ∧ Rl (fun k n => G k n (L : Int) s) o)
    (hgo : ∀ (i : Nat) (s : σ), i < L → Inv i s → (∃ o, Q o ∧ Rl (fun k n => G k n (i : Int) s) o) ∨ ∃ s', Inv (i + 1) s' ∧ ∀ o, Rl (fun k n => G k n ((i + 1 : Nat) : Int) s') o → Rl (fun k n => G k n (i : Int) s) o) :
    ∀ (d i : Nat) (s : σ), i + d = L → Inv i s → ∃ o, Q o ∧ Rl (fun k n => G k n (i : Int) s) o := by
  intro d
  induction d with
  | zero => intro i s hi hs; obtain rfl : i = L := by omega
            exact hend s hs
  | succ d ih =>
    intro i s hi hs
    rcases hgo i s (by omega) hs with h | ⟨s', h1, h2⟩
    · exact h
    · obtain ⟨o, h3, h4⟩ := ih (i + 1) s' (by omega) h1
      exact ⟨o, h3, h2 o h4⟩
/-- The places of a row that hold. -/
def thin (n : Nat) (f : Nat → Bool) : List Int := ((List.range n).filter f).map fun k => ((k : Nat) : Int)
def pat (n : Nat) (m : Nat → Nat → Bool) : List (List Int) := (List.range n).map fun i => thin n (m i)
def Inc (l : List Int) : Prop := l.Pairwise (· < ·)
theorem thin_inc (n : Nat) (f : Nat → Bool) : Inc (thin n f) := by
  unfold Inc thin
  rw [List.pairwise_map]
  exact (List.pairwise_lt_range.filter f).imp (fun h => by omega)
theorem thin_mem {n : Nat} {f : Nat → Bool} {x : Int} : x ∈ thin n f ↔ 0 ≤ x ∧ x < n ∧ f x.toNat = true := by
  unfold thin
  simp only [List.mem_map, List.mem_filter, List.mem_range]
  constructor
  · rintro ⟨k, ⟨h1, h2⟩, rfl⟩
    exact ⟨by omega, by omega, by rwa [Int.toNat_natCast]⟩
  · rintro ⟨h1, h2, h3⟩
    exact ⟨x.toNat, ⟨by omega, h3⟩, by omega⟩
theorem inc_eq {l m : List Int} (hl : Inc l) (hm : Inc m) (h : ∀ x, x ∈ l ↔ x ∈ m) : l = m := by
  refine List.Perm.eq_of_pairwise (le := (· < ·)) (fun a b _ _ h1 h2 => by omega) hl hm ?_
  exact (List.perm_ext_iff_of_nodup (hl.imp (fun h => by omega)) (hm.imp (fun h => by omega))).2 h
theorem inc_thin {l : List Int} (hl : Inc l) {n : Nat} (hr : ∀ x ∈ l, 0 ≤ x ∧ x < n) : l = thin n fun k => l.contains (k : Int) := by
  refine inc_eq hl (thin_inc _ _) fun x => ?_
  rw [thin_mem]
  constructor
  · intro h
    obtain ⟨h1, h2⟩ := hr x h
    refine ⟨h1, h2, ?_⟩
    rw [Int.toNat_of_nonneg h1]
    simpa using h
  · rintro ⟨h1, h2, h3⟩
    rw [Int.toNat_of_nonneg h1] at h3
    simpa using h3
theorem thin_congr {n : Nat} {f g : Nat → Bool} (h : ∀ k, k < n → f k = g k) : thin n f = thin n g := by
  unfold thin
  congr 1
  exact List.filter_congr fun k hk => h k (List.mem_range.1 hk)
theorem thin_len (n : Nat) (f : Nat → Bool) : (thin n f).length = (List.range n).countP f := by
  unfold thin
  rw [List.length_map, List.countP_eq_length_filter]
theorem thin_le (n : Nat) (f : Nat → Bool) : (thin n f).length ≤ n := by
  rw [thin_len]
  have := List.countP_le_length (p := f) (l := List.range n)
  simpa using this
theorem pat_len (n : Nat) (m : Nat → Nat → Bool) : (pat n m).length = n := by simp [pat]
theorem pat_get (n : Nat) (m : Nat → Nat → Bool) {i : Nat} (h : i < n) : (pat n m)[i]? = some (thin n (m i)) := by
  simp [pat, h]
/-- What is left behind a place. -/
def el (m : Nat → Nat → Bool) (r c i k : Nat) : Bool := (i != r) && (k != c) && (m i k || m i c && m r k)
def rowF (n : Nat) (m : Nat → Nat → Bool) (r c i : Nat) : Nat := if i = r then 0 else (List.range n).countP fun k => !m i k && (m i c && m r k)
/-- How many came in, in the first rows. -/
def flS (n : Nat) (m : Nat → Nat → Bool) (r c : Nat) : Nat → Nat
  | 0 => 0
  | i + 1 => flS n m r c i + rowF n m r c i
theorem rowF_le (n : Nat) (m : Nat → Nat → Bool) (r c i : Nat) : rowF n m r c i ≤ n := by
  unfold rowF
  split
  · omega
  · have := List.countP_le_length (p := fun k => !m i k && (m i c && m r k)) (l := List.range n)
    simpa using this
theorem flS_le (n : Nat) (m : Nat → Nat → Bool) (r c : Nat) : ∀ i, flS n m r c i ≤ i * n
  | 0 => by simp [flS]
  | i + 1 => by
    have := flS_le n m r c i
    have := rowF_le n m r c i
    simp only [flS, Nat.add_mul, Nat.one_mul]
    omega
theorem countP_or (f g : Nat → Bool) (l : List Nat) : l.countP (fun k => f k || g k) = l.countP f + l.countP fun k => !f k && g k := by
  induction l with
  | nil => rfl
  | cons x l ih =>
    simp only [List.countP_cons, ih]
    cases f x <;> cases g x <;> simp <;> omega
/-- Neighbours that are alike taken once. -/
def dd : List Int → List Int := List.foldl (fun acc x => if acc.getLast? = some x then acc else acc ++ [x]) []
theorem dd_snoc (l : List Int) (x : Int) : dd (l ++ [x]) = if (dd l).getLast? = some x then dd l else dd l ++ [x] := by
  unfold dd; rw [List.foldl_append]; rfl
theorem dd_last (l : List Int) : (dd l).getLast? = l.getLast? := by
  rcases List.eq_nil_or_concat l with rfl | ⟨m, x, rfl⟩
  · rfl
  · rw [List.concat_eq_append, dd_snoc]
    split
    · rename_i h; rw [h]; simp
    · simp
theorem dd_mem (l : List Int) (y : Int) : y ∈ dd l ↔ y ∈ l := by
  induction h : l.length generalizing l with
  | zero => rw [List.eq_nil_of_length_eq_zero h]; exact Iff.rfl
  | succ n ih =>
    rcases List.eq_nil_or_concat l with rfl | ⟨m, x, rfl⟩
    · cases h
    · rw [List.concat_eq_append] at h ⊢
      have hm := ih m (by simpa using h)
      rw [dd_snoc]
      split
      · rename_i hl
        rw [List.mem_append, hm, List.mem_singleton]
        constructor
        · exact .inl
        · rintro (h | rfl)
          · exact h
          · exact hm.1 (List.mem_of_getLast? hl)
      · rw [List.mem_append, List.mem_append, hm]
theorem dd_inc {l : List Int} (h : l.Pairwise (· ≤ ·)) : Inc (dd l) := by
  induction hn : l.length generalizing l with
  | zero => rw [List.eq_nil_of_length_eq_zero hn]; exact List.Pairwise.nil
  | succ n ih =>
    rcases List.eq_nil_or_concat l with rfl | ⟨m, x, rfl⟩
    · cases hn
    · rw [List.concat_eq_append] at h hn ⊢
      obtain ⟨h1, _, h2⟩ := List.pairwise_append.1 h
      have hm := ih h1 (by simpa using hn)
      rw [dd_snoc]
      split
      · exact hm
      · rename_i hl
        refine List.pairwise_append.2 ⟨hm, List.pairwise_singleton _ _, fun a ha b hb => ?_⟩
        rw [List.mem_singleton] at hb
        subst hb
        have hle := h2 a ((dd_mem m a).1 ha) b (List.mem_singleton_self b)
        rcases Int.lt_or_eq_of_le hle with h | rfl
        · exact h
        · exfalso
          rcases List.eq_nil_or_concat (dd m) with e | ⟨q, z, e⟩
          · rw [e] at ha; cases ha
          · rw [List.concat_eq_append] at e
            rw [e] at ha hl hm
            simp only [List.getLast?_append, List.getLast?_singleton, Option.some_or, Option.some.injEq] at hl
            have hz : z ≤ a := h2 z ((dd_mem m z).1 (by rw [e]; simp)) a (List.mem_singleton_self a)
            rcases List.mem_append.1 ha with ha | ha
            · have := (List.pairwise_append.1 hm).2.2 a ha z (List.mem_singleton_self z)
              omega
            · rw [List.mem_singleton] at ha; omega
theorem sortI_le (l : List Int) : (sortI l).Pairwise (· ≤ ·) := by
  have := List.pairwise_mergeSort (le := fun x y : Int => decide (x ≤ y)) (fun a b c h1 h2 => by simp at *; omega) (fun a b => by simp; omega) l
  exact this.imp (fun h => by simpa using h)
theorem sortI_mem (l : List Int) (x : Int) : x ∈ sortI l ↔ x ∈ l := (List.mergeSort_perm l _).mem_iff
theorem sortI_len (l : List Int) : (sortI l).length = l.length := List.length_mergeSort l
/-- Two rows together. -/
theorem dd_two (n : Nat) (f g : Nat → Bool) : dd (sortI (thin n f ++ thin n g)) = thin n fun k => f k || g k := by
  refine inc_eq (dd_inc (sortI_le _)) (thin_inc _ _) fun x => ?_
  rw [dd_mem, sortI_mem, List.mem_append, thin_mem, thin_mem, thin_mem, Bool.or_eq_true]
  constructor
  · rintro (⟨h1, h2, h3⟩ | ⟨h1, h2, h3⟩)
    · exact ⟨h1, h2, .inl h3⟩
    · exact ⟨h1, h2, .inr h3⟩
  · rintro ⟨h1, h2, h3 | h3⟩
    · exact .inl ⟨h1, h2, h3⟩
    · exact .inr ⟨h1, h2, h3⟩
theorem thin_del (n : Nat) (f : Nat → Bool) (c : Nat) : (thin n f).filter (fun x => x != (c : Int)) = thin n fun k => (k != c) && f k := by
  refine inc_eq ((thin_inc n f).filter _) (thin_inc _ _) fun x => ?_
  rw [List.mem_filter, thin_mem, thin_mem]
  simp only [bne_iff_ne, ne_eq, Bool.and_eq_true]
  constructor
  · rintro ⟨⟨h1, h2, h3⟩, h4⟩; exact ⟨h1, h2, by omega, h3⟩
  · rintro ⟨h1, h2, h4, h3⟩; exact ⟨⟨h1, h2, h3⟩, by omega⟩
instance (l : List Int) : Decidable (Inc l) := inferInstanceAs (Decidable (l.Pairwise (· < ·)))
def OkR (n : Nat) (r : List Int) : Prop := Inc r ∧ ∀ x ∈ r, 0 ≤ x ∧ x < (n : Int)
instance (n : Nat) (r : List Int) : Decidable (OkR n r) := inferInstanceAs (Decidable (_ ∧ _))
/-- A right pattern. -/
def OkP (p : List (List Int)) : Prop := p.length ≤ 48 ∧ ∀ r ∈ p, OkR p.length r
instance (p : List (List Int)) : Decidable (OkP p) := inferInstanceAs (Decidable (_ ∧ _))
/-- Not longer than memory. -/
def Sm (p : List (List Int)) : Prop := p.length ≤ 1000000000000000000 ∧ ∀ r ∈ p, r.length ≤ 1000000000000000000
theorem inc_steps {l : List Int} : Inc l ↔ ∀ j, 0 < j → j < l.length → l.getD (j - 1) 0 < l.getD j 0 := by
  constructor
  · intro h j h0 hj
    have := (List.pairwise_iff_getElem.1 h) (j - 1) j (by omega) hj (by omega)
    rwa [List.getD_eq_getElem?_getD, List.getD_eq_getElem?_getD, List.getElem?_eq_getElem (by omega), List.getElem?_eq_getElem hj]
  · induction l with
    | nil => intro _; exact List.Pairwise.nil
    | cons x l ih =>
      intro h
      have hi := ih fun j h0 hj => by
        have := h (j + 1) (by omega) (by simpa using hj)
        rw [show j + 1 - 1 = (j - 1) + 1 by omega, List.getD_cons_succ, List.getD_cons_succ] at this
        exact this
      refine List.Pairwise.cons (fun y hy => ?_) hi
      cases l with
      | nil => cases hy
      | cons z l =>
        have h1 : x < z := by simpa using h 1 (by omega) (by simp)
        rcases List.mem_cons.1 hy with rfl | hy
        · exact h1
        · exact Int.lt_trans h1 ((List.pairwise_cons.1 hi).1 y hy)
theorem mem_getD {l : List Int} {P : Int → Prop} : (∀ x ∈ l, P x) ↔ ∀ j, j < l.length → P (l.getD j 0) := by
  constructor
  · intro h j hj
    have hg := getD_some (l := l) (0 : Int) hj
    exact h _ (List.mem_of_getElem? hg)
  · intro h x hx
    obtain ⟨j, hj, e⟩ := List.getElem_of_mem hx
    have := h j hj
    rwa [List.getD_eq_getElem?_getD, List.getElem?_eq_getElem hj, Option.getD_some, e] at this
theorem mem_getDL {l : List (List Int)} {P : List Int → Prop} : (∀ x ∈ l, P x) ↔ ∀ j, 0 ≤ j → j < l.length → P (l.getD j []) := by
  constructor
  · intro h j _ hj
    have hg := getD_some (l := l) ([] : List Int) hj
    exact h _ (List.mem_of_getElem? hg)
  · intro h x hx
    obtain ⟨j, hj, e⟩ := List.getElem_of_mem hx
    have := h j (Nat.zero_le _) hj
    rwa [List.getD_eq_getElem?_getD, List.getElem?_eq_getElem hj, Option.getD_some, e] at this
theorem okR_iff (n : Nat) (r : List Int) : OkR n r ↔ ∀ j, 0 ≤ j → j < r.length → (0 ≤ r.getD j 0 ∧ r.getD j 0 < (n : Int)) ∧ (0 < j → r.getD (j - 1) 0 < r.getD j 0) := by
  unfold OkR
  rw [inc_steps, mem_getD]
  exact ⟨fun h j _ hj => ⟨h.2 j hj, fun h0 => h.1 j h0 hj⟩, fun h => ⟨fun j h0 hj => (h j (Nat.zero_le _) hj).2 h0, fun j hj => (h j (Nat.zero_le _) hj).1⟩⟩
section
variable (p : List (List Int)) (hb : Sm p)
include hb
theorem check2 (r x : List (List Int)) (q : List Int) (x1 x2 : Int) (hq : q.length ≤ 1000000000000000000) : ∃ o, Rl (fun k n => Lsparse_Check_2 k n p q x x1 x2 q q.length (0 : Nat)) o ∧
    (OkR p.length q ∧ o = .inr (p, x, x1, x2) ∨ ¬ OkR p.length q ∧ ∃ a : Int, a = 130 ∧ o = .inl a) := by
  rw [okR_iff]
  refine scan q.length 0 (fun k n i => Lsparse_Check_2 k n p q x x1 x2 q q.length i) (p, x, x1, x2) (fun a => a = 130) _ ?_ ?_ ?_ q.length 0 (by omega) (by omega)
  · refine Rl.up (f := fun k n => Lsparse_Check_2 k n p q x x1 x2 q q.length q.length) (Rl.of 0 fun k n _ => ?_)
    show Lsparse_Check_2s k (Lsparse_Check_2 k n) _ _ _ _ _ _ _ _ = _
    unfold Lsparse_Check_2s
    exact if_neg (by first | omega | (simp only [decide_eq_true_eq, decide_eq_false_iff_not, Int.toNat_natCast, beq_iff_eq, bne_iff_ne, ne_eq, Int.not_lt, Int.not_le, ge_iff_le, gt_iff_lt, beq_eq_false_iff_ne, Nat.zero_add]; omega))
  · intro i hs hi hok o ho
    refine Rl.up (f := fun k n => Lsparse_Check_2 k n p q x x1 x2 q q.length i) ?_
    show Rl (fun k n => Lsparse_Check_2s k (Lsparse_Check_2 k n) _ _ _ _ _ _ _ _) _
    unfold Lsparse_Check_2s
    obtain ⟨h1, h2⟩ := hok
    refine Rl.t (by first | omega | (simp only [decide_eq_true_eq, decide_eq_false_iff_not, Int.toNat_natCast, beq_iff_eq, bne_iff_ne, ne_eq, Int.not_lt, Int.not_le, ge_iff_le, gt_iff_lt, beq_eq_false_iff_ne, Nat.zero_add]; omega)) (Rl.t (by first | omega | (simp only [decide_eq_true_eq, decide_eq_false_iff_not, Int.toNat_natCast, beq_iff_eq, bne_iff_ne, ne_eq, Int.not_lt, Int.not_le, ge_iff_le, gt_iff_lt, beq_eq_false_iff_ne, Nat.zero_add]; omega)) (Rl.at (getD_some 0 (by first | omega | (simp only [decide_eq_true_eq, decide_eq_false_iff_not, Int.toNat_natCast, beq_iff_eq, bne_iff_ne, ne_eq, Int.not_lt, Int.not_le, ge_iff_le, gt_iff_lt, beq_eq_false_iff_ne, Nat.zero_add]; omega))) ?_))
    rw [Int.toNat_natCast, wrap_i64 (x := (i : Int) + 1) (by omega)]
    refine Rl.t (by first | omega | (simp only [decide_eq_true_eq, decide_eq_false_iff_not, Int.toNat_natCast, beq_iff_eq, bne_iff_ne, ne_eq, Int.not_lt, Int.not_le, ge_iff_le, gt_iff_lt, beq_eq_false_iff_ne, Nat.zero_add]; omega)) (Rl.t (by first | omega | (simp only [decide_eq_true_eq, decide_eq_false_iff_not, Int.toNat_natCast, beq_iff_eq, bne_iff_ne, ne_eq, Int.not_lt, Int.not_le, ge_iff_le, gt_iff_lt, beq_eq_false_iff_ne, Nat.zero_add]; omega)) ?_)
    by_cases h0 : 0 < i
    · have e1 : (IntKind.i64.wrap ((i : Int) - 1)) = ((i - 1 : Nat) : Int) := by rw [wrap_i64 (by omega)]; omega
      rw [e1]
      refine Rl.t (by first | omega | (simp only [decide_eq_true_eq, decide_eq_false_iff_not, Int.toNat_natCast, beq_iff_eq, bne_iff_ne, ne_eq, Int.not_lt, Int.not_le, ge_iff_le, gt_iff_lt, beq_eq_false_iff_ne, Nat.zero_add]; omega)) (Rl.t (by first | omega | (simp only [decide_eq_true_eq, decide_eq_false_iff_not, Int.toNat_natCast, beq_iff_eq, bne_iff_ne, ne_eq, Int.not_lt, Int.not_le, ge_iff_le, gt_iff_lt, beq_eq_false_iff_ne, Nat.zero_add]; omega)) (Rl.at (getD_some 0 (by first | omega | (simp only [decide_eq_true_eq, decide_eq_false_iff_not, Int.toNat_natCast, beq_iff_eq, bne_iff_ne, ne_eq, Int.not_lt, Int.not_le, ge_iff_le, gt_iff_lt, beq_eq_false_iff_ne, Nat.zero_add]; omega))) ?_))
      rw [Int.toNat_natCast]
      have := h2 h0
      exact Rl.f (by first | omega | (simp only [decide_eq_true_eq, decide_eq_false_iff_not, Int.toNat_natCast, beq_iff_eq, bne_iff_ne, ne_eq, Int.not_lt, Int.not_le, ge_iff_le, gt_iff_lt, beq_eq_false_iff_ne, Nat.zero_add]; omega)) ho
    · exact Rl.f (by first | omega | (simp only [decide_eq_true_eq, decide_eq_false_iff_not, Int.toNat_natCast, beq_iff_eq, bne_iff_ne, ne_eq, Int.not_lt, Int.not_le, ge_iff_le, gt_iff_lt, beq_eq_false_iff_ne, Nat.zero_add]; omega)) ho
  · intro i hs hi hok
    refine ⟨130, rfl, Rl.up (f := fun k n => Lsparse_Check_2 k n p q x x1 x2 q q.length i) ?_⟩
    show Rl (fun k n => Lsparse_Check_2s k (Lsparse_Check_2 k n) _ _ _ _ _ _ _ _) _
    unfold Lsparse_Check_2s
    refine Rl.t (by first | omega | (simp only [decide_eq_true_eq, decide_eq_false_iff_not, Int.toNat_natCast, beq_iff_eq, bne_iff_ne, ne_eq, Int.not_lt, Int.not_le, ge_iff_le, gt_iff_lt, beq_eq_false_iff_ne, Nat.zero_add]; omega)) (Rl.t (by first | omega | (simp only [decide_eq_true_eq, decide_eq_false_iff_not, Int.toNat_natCast, beq_iff_eq, bne_iff_ne, ne_eq, Int.not_lt, Int.not_le, ge_iff_le, gt_iff_lt, beq_eq_false_iff_ne, Nat.zero_add]; omega)) (Rl.at (getD_some 0 (by first | omega | (simp only [decide_eq_true_eq, decide_eq_false_iff_not, Int.toNat_natCast, beq_iff_eq, bne_iff_ne, ne_eq, Int.not_lt, Int.not_le, ge_iff_le, gt_iff_lt, beq_eq_false_iff_ne, Nat.zero_add]; omega))) ?_))
    rw [Int.toNat_natCast]
    by_cases h1 : q.getD i 0 < 0
    · exact Rl.f (by first | omega | (simp only [decide_eq_true_eq, decide_eq_false_iff_not, Int.toNat_natCast, beq_iff_eq, bne_iff_ne, ne_eq, Int.not_lt, Int.not_le, ge_iff_le, gt_iff_lt, beq_eq_false_iff_ne, Nat.zero_add]; omega)) (Rl.pure _)
    refine Rl.t (by first | omega | (simp only [decide_eq_true_eq, decide_eq_false_iff_not, Int.toNat_natCast, beq_iff_eq, bne_iff_ne, ne_eq, Int.not_lt, Int.not_le, ge_iff_le, gt_iff_lt, beq_eq_false_iff_ne, Nat.zero_add]; omega)) ?_
    by_cases h2 : q.getD i 0 ≥ (p.length : Int)
    · exact Rl.f (by first | omega | (simp only [decide_eq_true_eq, decide_eq_false_iff_not, Int.toNat_natCast, beq_iff_eq, bne_iff_ne, ne_eq, Int.not_lt, Int.not_le, ge_iff_le, gt_iff_lt, beq_eq_false_iff_ne, Nat.zero_add]; omega)) (Rl.pure _)
    refine Rl.t (by first | omega | (simp only [decide_eq_true_eq, decide_eq_false_iff_not, Int.toNat_natCast, beq_iff_eq, bne_iff_ne, ne_eq, Int.not_lt, Int.not_le, ge_iff_le, gt_iff_lt, beq_eq_false_iff_ne, Nat.zero_add]; omega)) ?_
    have h0 : 0 < i ∧ q.getD i 0 ≤ q.getD (i - 1) 0 := by
      by_cases h0 : 0 < i
      · exact ⟨h0, by by_cases h3 : q.getD (i - 1) 0 < q.getD i 0; exact absurd ⟨⟨by omega, by omega⟩, fun _ => h3⟩ hok; omega⟩
      · exact absurd ⟨⟨by omega, by omega⟩, fun h => absurd h h0⟩ hok
    have e1 : (IntKind.i64.wrap ((i : Int) - 1)) = ((i - 1 : Nat) : Int) := by rw [wrap_i64 (by omega)]; omega
    rw [e1]
    refine Rl.t (by first | omega | (simp only [decide_eq_true_eq, decide_eq_false_iff_not, Int.toNat_natCast, beq_iff_eq, bne_iff_ne, ne_eq, Int.not_lt, Int.not_le, ge_iff_le, gt_iff_lt, beq_eq_false_iff_ne, Nat.zero_add]; omega)) (Rl.t (by first | omega | (simp only [decide_eq_true_eq, decide_eq_false_iff_not, Int.toNat_natCast, beq_iff_eq, bne_iff_ne, ne_eq, Int.not_lt, Int.not_le, ge_iff_le, gt_iff_lt, beq_eq_false_iff_ne, Nat.zero_add]; omega)) (Rl.at (getD_some 0 (by first | omega | (simp only [decide_eq_true_eq, decide_eq_false_iff_not, Int.toNat_natCast, beq_iff_eq, bne_iff_ne, ne_eq, Int.not_lt, Int.not_le, ge_iff_le, gt_iff_lt, beq_eq_false_iff_ne, Nat.zero_add]; omega))) ?_))
    rw [Int.toNat_natCast]
    exact Rl.t (by first | omega | (simp only [decide_eq_true_eq, decide_eq_false_iff_not, Int.toNat_natCast, beq_iff_eq, bne_iff_ne, ne_eq, Int.not_lt, Int.not_le, ge_iff_le, gt_iff_lt, beq_eq_false_iff_ne, Nat.zero_add]; omega)) (Rl.pure _)
theorem check0 : ∃ o, Rl (fun k n => Lsparse_Check_0 k n p p p.length (0 : Nat)) o ∧
    ((∀ r ∈ p, OkR p.length r) ∧ o = .inr () ∨ (¬ ∀ r ∈ p, OkR p.length r) ∧ ∃ a : Int, a = 130 ∧ o = .inl a) := by
  rw [mem_getDL]
  refine scan p.length 0 (fun k n i => Lsparse_Check_0 k n p p p.length i) () (fun a => a = 130) _ ?_ ?_ ?_ p.length 0 (by omega) (by omega)
  · refine Rl.up (f := fun k n => Lsparse_Check_0 k n p p p.length p.length) (Rl.of 0 fun k n _ => ?_)
    show Lsparse_Check_0s k (Lsparse_Check_0 k n) _ _ _ _ = _
    unfold Lsparse_Check_0s
    exact if_neg (by first | omega | (simp only [decide_eq_true_eq, decide_eq_false_iff_not, Int.toNat_natCast, beq_iff_eq, bne_iff_ne, ne_eq, Int.not_lt, Int.not_le, ge_iff_le, gt_iff_lt, beq_eq_false_iff_ne, Nat.zero_add]; omega))
  · intro i hs hi hok o ho
    have hl := hb.1
    have hg := getD_some (l := p) ([] : List Int) hi
    obtain ⟨o2, a1, a2⟩ := check2 p hb p p (p.getD i []) p.length i (hb.2 _ (List.mem_of_getElem? hg))
    rcases a2 with ⟨a2, rfl⟩ | ⟨a2, _⟩
    rotate_left
    · exact absurd hok a2
    refine Rl.up (f := fun k n => Lsparse_Check_0 k n p p p.length i) ?_
    show Rl (fun k n => Lsparse_Check_0s k (Lsparse_Check_0 k n) _ _ _ _) _
    unfold Lsparse_Check_0s
    refine Rl.t (by first | omega | (simp only [decide_eq_true_eq, decide_eq_false_iff_not, Int.toNat_natCast, beq_iff_eq, bne_iff_ne, ne_eq, Int.not_lt, Int.not_le, ge_iff_le, gt_iff_lt, beq_eq_false_iff_ne, Nat.zero_add]; omega)) (Rl.t (by first | omega | (simp only [decide_eq_true_eq, decide_eq_false_iff_not, Int.toNat_natCast, beq_iff_eq, bne_iff_ne, ne_eq, Int.not_lt, Int.not_le, ge_iff_le, gt_iff_lt, beq_eq_false_iff_ne, Nat.zero_add]; omega)) (Rl.at (by rw [Int.toNat_natCast]; exact hg) (Rl.bind a1.diag ?_)))
    show Rl (fun k n => Lsparse_Check_0 k n p p p.length (IntKind.i64.wrap ((i : Int) + 1))) o
    rw [wrap_i64 (by omega)]
    exact ho
  · intro i hs hi hok
    have hg := getD_some (l := p) ([] : List Int) hi
    obtain ⟨o2, a1, a2⟩ := check2 p hb p p (p.getD i []) p.length i (hb.2 _ (List.mem_of_getElem? hg))
    rcases a2 with ⟨a2, _⟩ | ⟨a2, a, rfl, rfl⟩
    · exact absurd a2 hok
    refine ⟨130, rfl, Rl.up (f := fun k n => Lsparse_Check_0 k n p p p.length i) ?_⟩
    show Rl (fun k n => Lsparse_Check_0s k (Lsparse_Check_0 k n) _ _ _ _) _
    unfold Lsparse_Check_0s
    exact Rl.t (by first | omega | (simp only [decide_eq_true_eq, decide_eq_false_iff_not, Int.toNat_natCast, beq_iff_eq, bne_iff_ne, ne_eq, Int.not_lt, Int.not_le, ge_iff_le, gt_iff_lt, beq_eq_false_iff_ne, Nat.zero_add]; omega)) (Rl.t (by first | omega | (simp only [decide_eq_true_eq, decide_eq_false_iff_not, Int.toNat_natCast, beq_iff_eq, bne_iff_ne, ne_eq, Int.not_lt, Int.not_le, ge_iff_le, gt_iff_lt, beq_eq_false_iff_ne, Nat.zero_add]; omega)) (Rl.at (by rw [Int.toNat_natCast]; exact hg) (Rl.bind a1.diag (Rl.pure _))))
theorem Check_ev : Rn (fun k => Fsparse_Check k p) (if OkP p then 0 else 130) := by
  refine Rn.up (f := fun k => Fsparse_Check k p) ?_
  show Rn (fun k => bsparse_Check k p) _
  unfold bsparse_Check
  by_cases hl : 48 < p.length
  · rw [if_neg (fun h => by have := h.1; omega)]
    exact Rn.t (by first | omega | (simp only [decide_eq_true_eq, decide_eq_false_iff_not, Int.toNat_natCast, beq_iff_eq, bne_iff_ne, ne_eq, Int.not_lt, Int.not_le, ge_iff_le, gt_iff_lt, beq_eq_false_iff_ne, Nat.zero_add]; omega)) (Rn.pure _)
  refine Rn.f (by first | omega | (simp only [decide_eq_true_eq, decide_eq_false_iff_not, Int.toNat_natCast, beq_iff_eq, bne_iff_ne, ne_eq, Int.not_lt, Int.not_le, ge_iff_le, gt_iff_lt, beq_eq_false_iff_ne, Nat.zero_add]; omega)) ?_
  obtain ⟨o, a1, a2⟩ := check0 p hb
  refine Rn.bind a1.diag ?_
  rcases a2 with ⟨a2, rfl⟩ | ⟨a2, a, rfl, rfl⟩
  · rw [if_pos ⟨by omega, a2⟩]
    exact Rn.pure _
  · rw [if_neg fun h => a2 h.2]
    exact Rn.pure _
end
/-- A right pattern as places. -/
def mp (p : List (List Int)) (i k : Nat) : Bool := (p.getD i []).contains (k : Int)
theorem okP_pat {p : List (List Int)} (h : OkP p) : p = pat p.length (mp p) := by
  apply List.ext_getElem?
  intro i
  by_cases hi : i < p.length
  · rw [pat_get _ _ hi, getD_some ([] : List Int) hi]
    have hg := getD_some (l := p) ([] : List Int) hi
    have hr := h.2 _ (List.mem_of_getElem? hg)
    exact congrArg some (inc_thin hr.1 hr.2)
  · rw [List.getElem?_eq_none (by omega), List.getElem?_eq_none (by rw [pat_len]; omega)]
theorem pat_sm {n : Nat} (m : Nat → Nat → Bool) (h : n ≤ 48) : Sm (pat n m) := by
  refine ⟨by rw [pat_len]; omega, fun r hr => ?_⟩
  obtain ⟨i, _, rfl⟩ := List.mem_map.1 hr
  have := thin_le n (m i); omega
theorem toNat_c (i : Nat) : Int.toNat (i : Int) = i := Int.toNat_natCast i
theorem contains_ev (s : List Int) (v : Int) (h : s.length ≤ 1000000000000000000) : Rn (fun k => Fslices_Contains_int_int_ k s v) (s.contains v) := by
  obtain ⟨o, a1, a2⟩ : ∃ o, Rl (fun k n => Lslices_Index_int_int__0 k n s v s.length (0 : Nat)) o ∧
      ((∀ j, 0 ≤ j → j < s.length → s.getD j 0 ≠ v) ∧ o = .inr () ∨ (¬ ∀ j, 0 ≤ j → j < s.length → s.getD j 0 ≠ v) ∧ ∃ a : Int, 0 ≤ a ∧ o = .inl a) := by
    refine scan s.length 0 (fun k n i => Lslices_Index_int_int__0 k n s v s.length i) () (fun a => 0 ≤ a) _ ?_ ?_ ?_ s.length 0 (by omega) (by omega)
    · refine Rl.up (f := fun k n => Lslices_Index_int_int__0 k n s v s.length s.length) (Rl.of 0 fun k n _ => ?_)
      show Lslices_Index_int_int__0s k (Lslices_Index_int_int__0 k n) _ _ _ _ = _
      unfold Lslices_Index_int_int__0s
      exact if_neg (by first | omega | (simp only [decide_eq_true_eq, decide_eq_false_iff_not, Int.toNat_natCast, beq_iff_eq, bne_iff_ne, ne_eq, Int.not_lt, Int.not_le, ge_iff_le, gt_iff_lt, beq_eq_false_iff_ne, Nat.zero_add]; omega))
    · intro i hs hi hok o ho
      refine Rl.up (f := fun k n => Lslices_Index_int_int__0 k n s v s.length i) ?_
      show Rl (fun k n => Lslices_Index_int_int__0s k (Lslices_Index_int_int__0 k n) _ _ _ _) _
      unfold Lslices_Index_int_int__0s
      refine Rl.t (by first | omega | (simp only [decide_eq_true_eq, decide_eq_false_iff_not, Int.toNat_natCast, beq_iff_eq, bne_iff_ne, ne_eq, Int.not_lt, Int.not_le, ge_iff_le, gt_iff_lt, beq_eq_false_iff_ne, Nat.zero_add]; omega)) (Rl.t (by first | omega | (simp only [decide_eq_true_eq, decide_eq_false_iff_not, Int.toNat_natCast, beq_iff_eq, bne_iff_ne, ne_eq, Int.not_lt, Int.not_le, ge_iff_le, gt_iff_lt, beq_eq_false_iff_ne, Nat.zero_add]; omega)) (Rl.at (by rw [toNat_c]; exact getD_some 0 hi) (Rl.f (by rw [beq_iff_eq]; exact fun h => hok h.symm) ?_)))
      rw [wrap_i64 (by omega)]
      exact ho
    · intro i hs hi hok
      refine ⟨(i : Int), by omega, Rl.up (f := fun k n => Lslices_Index_int_int__0 k n s v s.length i) ?_⟩
      show Rl (fun k n => Lslices_Index_int_int__0s k (Lslices_Index_int_int__0 k n) _ _ _ _) _
      unfold Lslices_Index_int_int__0s
      exact Rl.t (by first | omega | (simp only [decide_eq_true_eq, decide_eq_false_iff_not, Int.toNat_natCast, beq_iff_eq, bne_iff_ne, ne_eq, Int.not_lt, Int.not_le, ge_iff_le, gt_iff_lt, beq_eq_false_iff_ne, Nat.zero_add]; omega)) (Rl.t (by first | omega | (simp only [decide_eq_true_eq, decide_eq_false_iff_not, Int.toNat_natCast, beq_iff_eq, bne_iff_ne, ne_eq, Int.not_lt, Int.not_le, ge_iff_le, gt_iff_lt, beq_eq_false_iff_ne, Nat.zero_add]; omega)) (Rl.at (by rw [toNat_c]; exact getD_some 0 hi) (Rl.t (by rw [beq_iff_eq]; exact (Decidable.not_not.1 hok).symm) (Rl.pure _))))
  have hc : (∀ j, 0 ≤ j → j < s.length → s.getD j 0 ≠ v) ↔ s.contains v = false := by
    have := mem_getD (l := s) (P := fun x => x ≠ v)
    rw [← Bool.not_eq_true, List.contains_iff_mem]
    constructor
    · intro h hm; exact (this.2 fun j hj => h j (Nat.zero_le _) hj) v hm rfl
    · intro h j _ hj; exact this.1 (fun x hx e => h (e ▸ hx)) j hj
  refine Rn.up (f := fun k => Fslices_Contains_int_int_ k s v) ?_
  show Rn (fun k => bslices_Contains_int_int_ k s v) _
  unfold bslices_Contains_int_int_
  have ix : ∀ r, Rn (fun k => bslices_Index_int_int_ k s v) r → Rn (fun k => Fslices_Index_int_int_ k s v) r := fun r h => Rn.up (f := fun k => Fslices_Index_int_int_ k s v) h
  unfold bslices_Index_int_int_ at ix
  rcases a2 with ⟨a2, rfl⟩ | ⟨a2, a, h0, rfl⟩
  · refine Rn.bind (ix (-1) (Rn.bind a1.diag (Rn.pure _))) ?_
    rw [hc.1 a2]
    exact Rn.pure _
  · refine Rn.bind (ix a (Rn.bind a1.diag (Rn.pure _))) ?_
    rw [hc, Bool.not_eq_false] at a2
    rw [a2]
    exact Rn.const (by rw [decide_eq_true (by omega)])
theorem clone_ev (s : List Int) (h : s.length ≤ 1000000000) : Rn (fun k => Fslices_Clone_int_int_ k s) (s.length, s) := by
  refine Rn.up (f := fun k => Fslices_Clone_int_int_ k s) ?_
  show Rn (fun k => bslices_Clone_int_int_ k s) _
  unfold bslices_Clone_int_int_
  exact Rn.t (g := fun _ => none) (by omega) (Rn.pure _)
theorem sort_ev (s : List Int) (h : s.length ≤ 1000000000) (n : Nat) (hn : n = s.length) : Rn (fun k => Fslices_Sort_int_int__mfi k n s) (sortI s) := by
  subst hn
  refine Rn.up (f := fun k => Fslices_Sort_int_int__mfi k s.length s) ?_
  show Rn (fun k => bslices_Sort_int_int__mfi k s.length s) _
  unfold bslices_Sort_int_int__mfi
  refine Rn.t (g := fun _ => none) (by omega) (Rn.const ?_)
  simp
theorem take_get {α : Type} {l m : List α} {k : Nat} (h : l.drop k = m.drop k) {j : Nat} (hj : k ≤ j) : l[j]? = m[j]? := by
  have := congrArg (fun x : List α => x[j - k]?) h
  simp only [List.getElem?_drop] at this
  rwa [show k + (j - k) = j by omega] at this
theorem take_set_snoc {l : List Int} {k : Nat} {x : Int} (h : k < l.length) : (l.set k x).take (k + 1) = l.take k ++ [x] := by
  apply List.ext_getElem?
  intro i
  rw [List.getElem?_take, List.getElem?_append, List.length_take, List.getElem?_set, List.getElem?_take]
  by_cases h1 : i < k
  · rw [if_pos (by omega), if_neg (by omega), if_pos (by omega), if_pos h1]
  · by_cases h2 : i = k
    · subst h2; rw [if_pos (by omega), if_pos rfl, if_pos h, if_neg (by omega)]; simp [show min i l.length = i by omega]
    · rw [if_neg (by omega), if_neg (by omega), show min k l.length = k by omega, List.getElem?_eq_none (by simp; omega)]
theorem drop_set (l : List Int) (k : Nat) (x : Int) : (l.set k x).drop (k + 1) = l.drop (k + 1) := by
  rw [List.drop_set, if_pos (by omega)]
theorem drop_next {l m : List Int} {k : Nat} (h : l.drop k = m.drop k) : l.drop (k + 1) = m.drop (k + 1) := by
  rw [← List.drop_drop, ← List.drop_drop, h]
theorem last_take {l : List Int} {i : Nat} (h0 : 0 < i) (hi : i ≤ l.length) : (l.take i).getLast? = some (l.getD (i - 1) 0) := by
  rw [List.getLast?_eq_getElem?, List.length_take, List.getElem?_take, if_pos (by omega), show min i l.length - 1 = i - 1 by omega]
  exact getD_some 0 (by omega)
theorem take_snoc (l : List Int) {i : Nat} (hi : i < l.length) : l.take (i + 1) = l.take i ++ [l.getD i 0] := by
  rw [List.take_add_one, getD_some (0 : Int) hi]; rfl
theorem compact2 (ss : List Int) (a : Nat) (ha : 0 < a) (hl : ss.length ≤ 1000000000) (has : a < ss.length) (h0 : dd (ss.take (a + 1)) = ss.take a) :
    ∃ o : Nat × Int × List Int, (∃ kk : Nat, o.1 = ss.length ∧ o.2.1 = kk ∧ kk < ss.length ∧ a ≤ kk ∧ o.2.2.length = ss.length ∧ o.2.2.take kk = dd ss) ∧
      Rl (fun k n => Lslices_Compact_int_int__mfi_2 k n ss.length a a (ss.length - a) (1 : Nat) ss) o := by
  refine loopI (σ := Int × List Int) (ss.length - a) (fun k n i s => Lslices_Compact_int_int__mfi_2 k n ss.length s.1 a (ss.length - a) i s.2)
    (fun i s => ∃ kk : Nat, s.1 = kk ∧ a ≤ kk ∧ kk + 1 ≤ a + i ∧ s.2.length = ss.length ∧ s.2.take kk = dd (ss.take (a + i)) ∧ s.2.drop kk = ss.drop kk ∧ 1 ≤ i) _ ?_ ?_ (ss.length - a - 1) 1 ((a : Int), ss) (by omega) ⟨a, rfl, by omega, by omega, rfl, h0.symm, rfl, by omega⟩
  · rintro ⟨k1, l⟩ ⟨kk, rfl, h1, h2, h3, h4, h5, h6⟩
    refine ⟨(ss.length, (kk : Int), l), ⟨kk, rfl, rfl, by omega, h1, h3, ?_⟩, ?_⟩
    · rw [show a + (ss.length - a) = ss.length by omega, List.take_length] at h4; exact h4
    · refine Rl.up (f := fun k n => Lslices_Compact_int_int__mfi_2 k n ss.length kk a (ss.length - a) ((ss.length - a : Nat) : Int) l) (Rl.of 0 fun k n _ => ?_)
      show Lslices_Compact_int_int__mfi_2s k (Lslices_Compact_int_int__mfi_2 k n) _ _ _ _ _ _ = _
      unfold Lslices_Compact_int_int__mfi_2s
      exact if_neg (by first | omega | (simp only [decide_eq_true_eq, decide_eq_false_iff_not, Int.toNat_natCast, beq_iff_eq, bne_iff_ne, ne_eq, Int.not_lt, Int.not_le, ge_iff_le, gt_iff_lt, beq_eq_false_iff_ne, Nat.zero_add]; omega))
  · rintro i ⟨k1, l⟩ hi ⟨kk, rfl, h1, h2, h3, h4, h5, h6⟩
    right
    simp only at h3 h4 h5
    have e1 : (IntKind.i64.wrap ((i : Int) - 1)) = ((i - 1 : Nat) : Int) := by rw [wrap_i64 (by omega)]; omega
    have g1 : l[a + i]? = some (ss.getD (a + i) 0) := by rw [take_get h5 (by omega)]; exact getD_some 0 (by omega)
    have g2 : l[a + (i - 1)]? = some (ss.getD (a + i - 1) 0) := by rw [take_get h5 (by omega), show a + (i - 1) = a + i - 1 by omega]; exact getD_some 0 (by omega)
    have hlast := dd_last (ss.take (a + i))
    rw [last_take (by omega) (by omega)] at hlast
    have hsn : dd (ss.take (a + (i + 1))) = if (some (ss.getD (a + i - 1) 0)) = some (ss.getD (a + i) 0) then dd (ss.take (a + i)) else dd (ss.take (a + i)) ++ [ss.getD (a + i) 0] := by
      rw [show a + (i + 1) = a + i + 1 by omega, take_snoc ss (by omega), dd_snoc, hlast]
    have step : ∀ o s', (if (ss.getD (a + i) 0 != ss.getD (a + i - 1) 0) = true then s' = ((kk : Int) + 1, l.set kk (ss.getD (a + i) 0)) else s' = ((kk : Int), l)) → Rl (fun k n => Lslices_Compact_int_int__mfi_2 k n ss.length s'.1 a (ss.length - a) ((i + 1 : Nat) : Int) s'.2) o →
        Rl (fun k n => Lslices_Compact_int_int__mfi_2 k n ss.length kk a (ss.length - a) i l) o := by
      intro o s' hs' ho
      refine Rl.up (f := fun k n => Lslices_Compact_int_int__mfi_2 k n ss.length kk a (ss.length - a) i l) ?_
      show Rl (fun k n => Lslices_Compact_int_int__mfi_2s k (Lslices_Compact_int_int__mfi_2 k n) _ _ _ _ _ _) _
      unfold Lslices_Compact_int_int__mfi_2s
      rw [e1, toNat_c, toNat_c]
      refine Rl.t (by first | omega | (simp only [decide_eq_true_eq, decide_eq_false_iff_not, Int.toNat_natCast, beq_iff_eq, bne_iff_ne, ne_eq, Int.not_lt, Int.not_le, ge_iff_le, gt_iff_lt, beq_eq_false_iff_ne, Nat.zero_add]; omega)) (Rl.t (by first | omega | (simp only [decide_eq_true_eq, decide_eq_false_iff_not, Int.toNat_natCast, beq_iff_eq, bne_iff_ne, ne_eq, Int.not_lt, Int.not_le, ge_iff_le, gt_iff_lt, beq_eq_false_iff_ne, Nat.zero_add]; omega)) (Rl.at g1 (Rl.t (by first | omega | (simp only [decide_eq_true_eq, decide_eq_false_iff_not, Int.toNat_natCast, beq_iff_eq, bne_iff_ne, ne_eq, Int.not_lt, Int.not_le, ge_iff_le, gt_iff_lt, beq_eq_false_iff_ne, Nat.zero_add]; omega)) (Rl.at g2 ?_))))
      rw [wrap_i64 (x := (i : Int) + 1) (by omega)]
      split at hs'
      · rename_i hne
        subst hs'
        refine Rl.t hne (Rl.t (by first | omega | (simp only [decide_eq_true_eq, decide_eq_false_iff_not, Int.toNat_natCast, beq_iff_eq, bne_iff_ne, ne_eq, Int.not_lt, Int.not_le, ge_iff_le, gt_iff_lt, beq_eq_false_iff_ne, Nat.zero_add]; omega)) (Rl.at g1 (Rl.t (by first | omega | (simp only [decide_eq_true_eq, decide_eq_false_iff_not, Int.toNat_natCast, beq_iff_eq, bne_iff_ne, ne_eq, Int.not_lt, Int.not_le, ge_iff_le, gt_iff_lt, beq_eq_false_iff_ne, Nat.zero_add]; omega)) (Rl.at (getD_some (0 : Int) (by rw [Int.toNat_natCast]; omega)) ?_))))
        rw [wrap_i64 (x := (kk : Int) + 1) (by omega), Int.toNat_natCast, Nat.zero_add]
        exact ho
      · rename_i hne
        subst hs'
        exact Rl.f hne ho
    by_cases hne : (ss.getD (a + i) 0 != ss.getD (a + i - 1) 0) = true
    · refine ⟨((kk : Int) + 1, l.set kk (ss.getD (a + i) 0)), ⟨kk + 1, rfl, by omega, by omega, by rw [List.length_set]; exact h3, ?_, ?_, by omega⟩, fun o ho => step o _ (by rw [if_pos hne]) ho⟩
      · rw [bne_iff_ne, ne_eq] at hne
        rw [hsn, if_neg (fun h => hne (by injection h with h; exact h.symm)), ← h4]
        exact take_set_snoc (by omega)
      · exact (drop_set l kk _).trans (drop_next h5)
    · refine ⟨((kk : Int), l), ⟨kk, rfl, h1, by omega, h3, ?_, h5, by omega⟩, fun o ho => step o _ (by rw [if_neg hne]) ho⟩
      rw [Bool.not_eq_true, bne_eq_false_iff_eq] at hne
      rw [hsn, if_pos (by rw [hne])]
      exact h4
theorem compact_ev (ss : List Int) (hl : ss.length ≤ 1000000000) (n : Nat) (hn : n = ss.length) : ∃ m r, Rn (fun k => Fslices_Compact_int_int__mfi k n ss) (m, r) ∧ r.length = ss.length ∧ m ≤ ss.length ∧ r.take m = dd ss := by
  subst hn
  have up : ∀ r, Rn (fun k => bslices_Compact_int_int__mfi k ss.length ss) r → Rn (fun k => Fslices_Compact_int_int__mfi k ss.length ss) r := fun r h => Rn.up (f := fun k => Fslices_Compact_int_int__mfi k ss.length ss) h
  unfold bslices_Compact_int_int__mfi at up
  by_cases h2 : ss.length < 2
  · refine ⟨ss.length, ss, up _ (Rn.t (by first | omega | (simp only [decide_eq_true_eq, decide_eq_false_iff_not, Int.toNat_natCast, beq_iff_eq, bne_iff_ne, ne_eq, Int.not_lt, Int.not_le, ge_iff_le, gt_iff_lt, beq_eq_false_iff_ne, Nat.zero_add]; omega)) (Rn.pure _)), rfl, Nat.le_refl _, ?_⟩
    rw [List.take_length]
    match ss, h2 with
    | [], _ => rfl
    | [x], _ => rfl
  obtain ⟨o, h, a1⟩ : ∃ o : (Nat × List Int) ⊕ (Nat × List Int), (∃ m r, (o = .inl (m, r) ∨ o = .inr (m, r)) ∧ r.length = ss.length ∧ m ≤ ss.length ∧ r.take m = dd ss) ∧ Rl (fun k n => Lslices_Compact_int_int__mfi_0 k n ss.length (1 : Nat) ss) o := by
    refine loopI (σ := Unit) ss.length (fun k n i s => Lslices_Compact_int_int__mfi_0 k n ss.length i ss) (fun i _ => 1 ≤ i ∧ dd (ss.take i) = ss.take i) _ ?_ ?_ (ss.length - 1) 1 () (by omega) ⟨Nat.le_refl _, ?_⟩
    · rintro _ ⟨h1, h2⟩
      refine ⟨.inr (ss.length, ss), ⟨ss.length, ss, .inr rfl, rfl, Nat.le_refl _, ?_⟩, Rl.up (f := fun k n => Lslices_Compact_int_int__mfi_0 k n ss.length ss.length ss) (Rl.of 0 fun k n _ => ?_)⟩
      · rw [List.take_length] at h2 ⊢; exact h2.symm
      · show Lslices_Compact_int_int__mfi_0s k (Lslices_Compact_int_int__mfi_0 k n) _ _ _ = _
        unfold Lslices_Compact_int_int__mfi_0s
        exact if_neg (by first | omega | (simp only [decide_eq_true_eq, decide_eq_false_iff_not, Int.toNat_natCast, beq_iff_eq, bne_iff_ne, ne_eq, Int.not_lt, Int.not_le, ge_iff_le, gt_iff_lt, beq_eq_false_iff_ne, Nat.zero_add]; omega))
    · rintro i _ hi ⟨h1, h2⟩
      have e1 : (IntKind.i64.wrap ((i : Int) - 1)) = ((i - 1 : Nat) : Int) := by rw [wrap_i64 (by omega)]; omega
      have hlast := dd_last (ss.take i)
      rw [last_take (by omega) (by omega)] at hlast
      have hsn : dd (ss.take (i + 1)) = if (some (ss.getD (i - 1) 0)) = some (ss.getD i 0) then dd (ss.take i) else dd (ss.take i) ++ [ss.getD i 0] := by
        rw [take_snoc ss (by omega), dd_snoc, hlast]
      have g1 : ss[0 + i]? = some (ss.getD i 0) := by rw [Nat.zero_add]; exact getD_some 0 hi
      have g2 : ss[0 + (i - 1)]? = some (ss.getD (i - 1) 0) := by rw [Nat.zero_add]; exact getD_some 0 (by omega)
      have step : ∀ o, Rl (fun k n => Lslices_Compact_int_int__mfi_0s k (Lslices_Compact_int_int__mfi_0 k n) ss.length i ss) o → Rl (fun k n => Lslices_Compact_int_int__mfi_0 k n ss.length i ss) o :=
        fun o ho => Rl.up (f := fun k n => Lslices_Compact_int_int__mfi_0 k n ss.length i ss) ho
      unfold Lslices_Compact_int_int__mfi_0s at step
      rw [e1, toNat_c, toNat_c, toNat_c, wrap_i64 (x := (i : Int) + 1) (by omega)] at step
      by_cases he : (ss.getD i 0 == ss.getD (i - 1) 0) = true
      · left
        have he' : ss.getD i 0 = ss.getD (i - 1) 0 := by simpa using he
        obtain ⟨⟨q1, q2, q3⟩, ⟨kk, rfl, rfl, b3, b4, b5, b6⟩, a2⟩ := compact2 ss i (by omega) hl hi (by rw [hsn, if_pos (by rw [he']), h2])
        simp only at b5 b6
        refine ⟨.inl (kk, (q3.take kk ++ List.replicate (ss.length - kk) 0) ++ q3.drop (kk + (ss.length - kk))), ⟨kk, _, .inl rfl, by simp [b5]; omega, by omega, ?_⟩, step _ (Rl.t (by first | omega | (simp only [decide_eq_true_eq, decide_eq_false_iff_not, Int.toNat_natCast, beq_iff_eq, bne_iff_ne, ne_eq, Int.not_lt, Int.not_le, ge_iff_le, gt_iff_lt, beq_eq_false_iff_ne, Nat.zero_add]; omega)) (Rl.t (by first | omega | (simp only [decide_eq_true_eq, decide_eq_false_iff_not, Int.toNat_natCast, beq_iff_eq, bne_iff_ne, ne_eq, Int.not_lt, Int.not_le, ge_iff_le, gt_iff_lt, beq_eq_false_iff_ne, Nat.zero_add]; omega)) (Rl.at g1 (Rl.t (by first | omega | (simp only [decide_eq_true_eq, decide_eq_false_iff_not, Int.toNat_natCast, beq_iff_eq, bne_iff_ne, ne_eq, Int.not_lt, Int.not_le, ge_iff_le, gt_iff_lt, beq_eq_false_iff_ne, Nat.zero_add]; omega)) (Rl.at g2 (Rl.t he ?_))))))⟩
        · rw [List.append_assoc, List.take_append_of_le_length (by simp [b5]; omega), List.take_take, Nat.min_self]
          exact b6
        · refine Rl.t (g := fun _ _ => none) ⟨by omega, by omega, by omega, .inl (by omega)⟩ (Rl.bind (x := (ss.length, (kk : Int), q3)) ?_ ?_)
          · have := a2.diag
            rw [Nat.zero_add]
            exact this
          · simp only [toNat_c, Nat.zero_add]
            exact Rl.t (g := fun _ _ => none) ⟨by omega, by omega, by omega, .inl (by omega)⟩ (Rl.t (g := fun _ _ => none) (by omega) (Rl.t (g := fun _ _ => none) ⟨by omega, by omega, by simp [b5]; omega, .inr (by trivial)⟩ (Rl.pure _)))
      · right
        refine ⟨(), ⟨by omega, ?_⟩, fun o ho => step o (Rl.t (by first | omega | (simp only [decide_eq_true_eq, decide_eq_false_iff_not, Int.toNat_natCast, beq_iff_eq, bne_iff_ne, ne_eq, Int.not_lt, Int.not_le, ge_iff_le, gt_iff_lt, beq_eq_false_iff_ne, Nat.zero_add]; omega)) (Rl.t (by first | omega | (simp only [decide_eq_true_eq, decide_eq_false_iff_not, Int.toNat_natCast, beq_iff_eq, bne_iff_ne, ne_eq, Int.not_lt, Int.not_le, ge_iff_le, gt_iff_lt, beq_eq_false_iff_ne, Nat.zero_add]; omega)) (Rl.at g1 (Rl.t (by first | omega | (simp only [decide_eq_true_eq, decide_eq_false_iff_not, Int.toNat_natCast, beq_iff_eq, bne_iff_ne, ne_eq, Int.not_lt, Int.not_le, ge_iff_le, gt_iff_lt, beq_eq_false_iff_ne, Nat.zero_add]; omega)) (Rl.at g2 (Rl.f he ho))))))⟩
        rw [hsn, if_neg, h2, take_snoc ss hi]
        intro h
        injection h with h
        exact he (by rw [h]; simp)
    · match ss, h2 with
      | x :: y :: r, _ => rfl
      | [x], h2 => simp at h2
      | [], h2 => simp at h2
  obtain ⟨m, r, ho, h1, h3, h4⟩ := h
  refine ⟨m, r, up _ (Rn.f (by first | omega | (simp only [decide_eq_true_eq, decide_eq_false_iff_not, Int.toNat_natCast, beq_iff_eq, bne_iff_ne, ne_eq, Int.not_lt, Int.not_le, ge_iff_le, gt_iff_lt, beq_eq_false_iff_ne, Nat.zero_add]; omega)) (Rn.bind a1.diag ?_)), h1, h3, h4⟩
  rcases ho with rfl | rfl
  · exact Rn.pure _
  · exact Rn.pure _
theorem clos_ev (x c : Int) : Rn (fun k => Fsparse_eliminate_1 k x c) (x == c) := Rn.up (f := fun k => Fsparse_eliminate_1 k x c) (Rn.pure _)
theorem indexF_ev (ss : List Int) (s : Nat) (c : Int) (hs : s ≤ ss.length) (hl : ss.length ≤ 1000000000) :
    (∀ x ∈ ss.take s, x ≠ c) ∧ Rn (fun k => Fslices_IndexFunc_int_int__tfn k s c ss) (-1, ss) ∨
    ∃ i : Nat, i < s ∧ (∀ x ∈ ss.take i, x ≠ c) ∧ ss.getD i 0 = c ∧ Rn (fun k => Fslices_IndexFunc_int_int__tfn k s c ss) ((i : Int), ss) := by
  obtain ⟨o, h, a1⟩ : ∃ o : (Int × List Int) ⊕ (List Int), ((∀ x ∈ ss.take s, x ≠ c) ∧ o = .inr ss ∨ ∃ i : Nat, i < s ∧ (∀ x ∈ ss.take i, x ≠ c) ∧ ss.getD i 0 = c ∧ o = .inl ((i : Int), ss)) ∧ Rl (fun k n => Lslices_IndexFunc_int_int__tfn_0 k n s c s (0 : Nat) ss) o := by
    refine loopI (σ := Unit) s (fun k n i _ => Lslices_IndexFunc_int_int__tfn_0 k n s c s i ss) (fun i _ => ∀ x ∈ ss.take i, x ≠ c) _ ?_ ?_ s 0 () (by omega) (by simp)
    · rintro _ h
      refine ⟨.inr ss, .inl ⟨h, rfl⟩, Rl.up (f := fun k n => Lslices_IndexFunc_int_int__tfn_0 k n s c s s ss) (Rl.of 0 fun k n _ => ?_)⟩
      show Lslices_IndexFunc_int_int__tfn_0s k (Lslices_IndexFunc_int_int__tfn_0 k n) _ _ _ _ _ = _
      unfold Lslices_IndexFunc_int_int__tfn_0s
      exact if_neg (by first | omega | (simp only [decide_eq_true_eq, decide_eq_false_iff_not, Int.toNat_natCast, beq_iff_eq, bne_iff_ne, ne_eq, Int.not_lt, Int.not_le, ge_iff_le, gt_iff_lt, beq_eq_false_iff_ne, Nat.zero_add]; omega))
    · rintro i _ hi h
      have step : ∀ o, Rl (fun k n => Lslices_IndexFunc_int_int__tfn_0s k (Lslices_IndexFunc_int_int__tfn_0 k n) s c s i ss) o → Rl (fun k n => Lslices_IndexFunc_int_int__tfn_0 k n s c s i ss) o :=
        fun o ho => Rl.up (f := fun k n => Lslices_IndexFunc_int_int__tfn_0 k n s c s i ss) ho
      unfold Lslices_IndexFunc_int_int__tfn_0s at step
      rw [toNat_c, wrap_i64 (x := (i : Int) + 1) (by omega), Nat.zero_add] at step
      have g := getD_some (l := ss) (0 : Int) (show i < ss.length by omega)
      by_cases he : ss.getD i 0 = c
      · exact .inl ⟨.inl ((i : Int), ss), .inr ⟨i, hi, h, he, rfl⟩, step _ (Rl.t (by first | omega | (simp only [decide_eq_true_eq, decide_eq_false_iff_not, Int.toNat_natCast, beq_iff_eq, bne_iff_ne, ne_eq, Int.not_lt, Int.not_le, ge_iff_le, gt_iff_lt, beq_eq_false_iff_ne, Nat.zero_add]; omega)) (Rl.t (by first | omega | (simp only [decide_eq_true_eq, decide_eq_false_iff_not, Int.toNat_natCast, beq_iff_eq, bne_iff_ne, ne_eq, Int.not_lt, Int.not_le, ge_iff_le, gt_iff_lt, beq_eq_false_iff_ne, Nat.zero_add]; omega)) (Rl.at g (Rl.bind (clos_ev _ _) (Rl.t (by rw [beq_iff_eq]; exact he) (Rl.pure _))))))⟩
      · refine .inr ⟨(), ?_, fun o ho => step _ (Rl.t (by first | omega | (simp only [decide_eq_true_eq, decide_eq_false_iff_not, Int.toNat_natCast, beq_iff_eq, bne_iff_ne, ne_eq, Int.not_lt, Int.not_le, ge_iff_le, gt_iff_lt, beq_eq_false_iff_ne, Nat.zero_add]; omega)) (Rl.t (by first | omega | (simp only [decide_eq_true_eq, decide_eq_false_iff_not, Int.toNat_natCast, beq_iff_eq, bne_iff_ne, ne_eq, Int.not_lt, Int.not_le, ge_iff_le, gt_iff_lt, beq_eq_false_iff_ne, Nat.zero_add]; omega)) (Rl.at g (Rl.bind (clos_ev _ _) (Rl.f (by rw [beq_iff_eq]; exact he) ho)))))⟩
        rw [take_snoc ss (by omega)]
        intro x hx
        rcases List.mem_append.1 hx with hx | hx
        · exact h x hx
        · rw [List.mem_singleton] at hx; subst hx; exact he
  have up : ∀ r, Rn (fun k => bslices_IndexFunc_int_int__tfn k s c ss) r → Rn (fun k => Fslices_IndexFunc_int_int__tfn k s c ss) r := fun r h => Rn.up (f := fun k => Fslices_IndexFunc_int_int__tfn k s c ss) h
  unfold bslices_IndexFunc_int_int__tfn at up
  rcases h with ⟨h, rfl⟩ | ⟨i, h1, h2, h3, rfl⟩
  · exact .inl ⟨h, up _ (Rn.bind a1.diag (Rn.pure _))⟩
  · exact .inr ⟨i, h1, h2, h3, up _ (Rn.bind a1.diag (Rn.pure _))⟩
theorem filt_id {l : List Int} {c : Int} (h : ∀ x ∈ l, x ≠ c) : l.filter (fun x => x != c) = l := List.filter_eq_self.2 fun x hx => by rw [bne_iff_ne]; exact h x hx
theorem deleteF_ev (ss : List Int) (s : Nat) (c : Int) (hs : s ≤ ss.length) (hl : ss.length ≤ 1000000000) :
    ∃ m r, Rn (fun k => Fslices_DeleteFunc_int_int__tfn k s c ss) (m, r) ∧ r.length = ss.length ∧ m ≤ ss.length ∧ r.take m = (ss.take s).filter fun x => x != c := by
  have up : ∀ r, Rn (fun k => bslices_DeleteFunc_int_int__tfn k s c ss) r → Rn (fun k => Fslices_DeleteFunc_int_int__tfn k s c ss) r := fun r h => Rn.up (f := fun k => Fslices_DeleteFunc_int_int__tfn k s c ss) h
  unfold bslices_DeleteFunc_int_int__tfn at up
  rcases indexF_ev ss s c hs hl with ⟨h1, h2⟩ | ⟨i, h0, h1, h3, h2⟩
  · exact ⟨s, ss, up _ (Rn.bind h2 (Rn.t (by rfl) (Rn.pure _))), rfl, hs, (filt_id h1).symm⟩
  · obtain ⟨o, ⟨ii, q1, q2, q3, q4, q5⟩, a1⟩ : ∃ o : Nat × Int × List Int, (∃ ii : Nat, o.1 = s ∧ o.2.1 = ii ∧ ii < s ∧ o.2.2.length = ss.length ∧ o.2.2.take ii = (ss.take s).filter fun x => x != c) ∧
        Rl (fun k n => Lslices_DeleteFunc_int_int__tfn_0 k n s c i ((i + 1 : Nat) : Int) ss) o := by
      refine loopI (σ := Int × List Int) s (fun k n j t => Lslices_DeleteFunc_int_int__tfn_0 k n s c t.1 j t.2) (fun j t => ∃ ii : Nat, t.1 = ii ∧ ii < j ∧ t.2.length = ss.length ∧ t.2.take ii = ((ss.take j).filter fun x => x != c) ∧ t.2.drop ii = ss.drop ii) _ ?_ ?_ (s - (i + 1)) (i + 1) ((i : Int), ss) (by omega) ⟨i, rfl, by omega, rfl, ?_, rfl⟩
      · rintro ⟨i1, l⟩ ⟨ii, rfl, h1, h2, h3, h4⟩
        refine ⟨(s, (ii : Int), l), ⟨ii, rfl, rfl, h1, h2, h3⟩, Rl.up (f := fun k n => Lslices_DeleteFunc_int_int__tfn_0 k n s c ii s l) (Rl.of 0 fun k n _ => ?_)⟩
        show Lslices_DeleteFunc_int_int__tfn_0s k (Lslices_DeleteFunc_int_int__tfn_0 k n) _ _ _ _ _ = _
        unfold Lslices_DeleteFunc_int_int__tfn_0s
        exact if_neg (by first | omega | (simp only [decide_eq_true_eq, decide_eq_false_iff_not, Int.toNat_natCast, beq_iff_eq, bne_iff_ne, ne_eq, Int.not_lt, Int.not_le, ge_iff_le, gt_iff_lt, beq_eq_false_iff_ne, Nat.zero_add]; omega))
      · rintro j ⟨i1, l⟩ hj ⟨ii, rfl, h1, h2, h3, h4⟩
        right
        simp only at h2 h3 h4
        have step : ∀ o, Rl (fun k n => Lslices_DeleteFunc_int_int__tfn_0s k (Lslices_DeleteFunc_int_int__tfn_0 k n) s c ii j l) o → Rl (fun k n => Lslices_DeleteFunc_int_int__tfn_0 k n s c ii j l) o :=
          fun o ho => Rl.up (f := fun k n => Lslices_DeleteFunc_int_int__tfn_0 k n s c ii j l) ho
        unfold Lslices_DeleteFunc_int_int__tfn_0s at step
        rw [toNat_c, toNat_c, wrap_i64 (x := (j : Int) + 1) (by omega), wrap_i64 (x := (ii : Int) + 1) (by omega), Nat.zero_add, Nat.zero_add] at step
        have g : l[j]? = some (ss.getD j 0) := by rw [take_get h4 (by omega)]; exact getD_some 0 (by omega)
        have htk : (ss.take (j + 1)).filter (fun x => x != c) = ((ss.take j).filter fun x => x != c) ++ if ss.getD j 0 = c then [] else [ss.getD j 0] := by
          rw [take_snoc ss (by omega), List.filter_append]
          congr 1
          split
          · rename_i e; rw [e]; simp
          · rename_i e; rw [List.filter_cons, if_pos (by rw [bne_iff_ne]; exact e)]; rfl
        by_cases he : ss.getD j 0 = c
        · refine ⟨((ii : Int), l), ⟨ii, rfl, by omega, h2, ?_, h4⟩, fun o ho => step _ (Rl.t (by first | omega | (simp only [decide_eq_true_eq, decide_eq_false_iff_not, Int.toNat_natCast, beq_iff_eq, bne_iff_ne, ne_eq, Int.not_lt, Int.not_le, ge_iff_le, gt_iff_lt, beq_eq_false_iff_ne, Nat.zero_add]; omega)) (Rl.t (by first | omega | (simp only [decide_eq_true_eq, decide_eq_false_iff_not, Int.toNat_natCast, beq_iff_eq, bne_iff_ne, ne_eq, Int.not_lt, Int.not_le, ge_iff_le, gt_iff_lt, beq_eq_false_iff_ne, Nat.zero_add]; omega)) (Rl.at g (Rl.bind (clos_ev _ _) (Rl.f (by rw [he]; simp) ho)))))⟩
          rw [htk, if_pos he, List.append_nil]; exact h3
        · refine ⟨((ii : Int) + 1, l.set ii (ss.getD j 0)), ⟨ii + 1, rfl, by omega, by rw [List.length_set]; exact h2, ?_, (drop_set l ii _).trans (drop_next h4)⟩, fun o ho => step _ (Rl.t (by first | omega | (simp only [decide_eq_true_eq, decide_eq_false_iff_not, Int.toNat_natCast, beq_iff_eq, bne_iff_ne, ne_eq, Int.not_lt, Int.not_le, ge_iff_le, gt_iff_lt, beq_eq_false_iff_ne, Nat.zero_add]; omega)) (Rl.t (by first | omega | (simp only [decide_eq_true_eq, decide_eq_false_iff_not, Int.toNat_natCast, beq_iff_eq, bne_iff_ne, ne_eq, Int.not_lt, Int.not_le, ge_iff_le, gt_iff_lt, beq_eq_false_iff_ne, Nat.zero_add]; omega)) (Rl.at g (Rl.bind (clos_ev _ _) (Rl.t (by rw [beq_eq_false_iff_ne.2 he]; rfl) (Rl.t (by first | omega | (simp only [decide_eq_true_eq, decide_eq_false_iff_not, Int.toNat_natCast, beq_iff_eq, bne_iff_ne, ne_eq, Int.not_lt, Int.not_le, ge_iff_le, gt_iff_lt, beq_eq_false_iff_ne, Nat.zero_add]; omega)) (Rl.at (getD_some (0 : Int) (by omega)) ho)))))))⟩
          rw [htk, if_neg he, ← h3]
          exact take_set_snoc (by omega)
      · rw [take_snoc ss (by omega), List.filter_append, filt_id h1, h3]
        simp
    obtain ⟨o1, o2, l⟩ := o
    simp only at q1 q2 q4 q5
    have q1 := q1.symm
    subst q1 q2
    refine ⟨ii, (l.take ii ++ List.replicate (s - ii) 0) ++ l.drop (ii + (s - ii)), up _ (Rn.bind h2 (Rn.f (by rw [beq_iff_eq]; simp only; omega) (Rn.bind (x := (s, (ii : Int), l)) ?_ ?_))), by simp [q4]; omega, by omega, ?_⟩
    · simp only
      rw [wrap_i64 (by omega)]
      exact a1.diag
    · simp only [toNat_c, Nat.zero_add]
      exact Rn.t (g := fun _ => none) ⟨by omega, by omega, by omega, .inl (by omega)⟩ (Rn.t (g := fun _ => none) (by omega) (Rn.t (g := fun _ => none) ⟨by omega, by omega, by simp [q4]; omega, .inr (by trivial)⟩ (Rn.pure _)))
    · rw [List.append_assoc, List.take_append_of_le_length (by simp [q4]; omega), List.take_take, Nat.min_self]
      exact q5
theorem map_set {α : Type} (n : Nat) (f : Nat → α) (c : Nat) (b : α) : ((List.range n).map f).set c b = (List.range n).map fun k => if k = c then b else f k := by
  apply List.ext_getElem?
  intro i
  rw [List.getElem?_set]
  simp only [List.length_map, List.length_range, List.getElem?_map]
  by_cases hi : c = i
  · subst hi
    by_cases hc : c < n
    · simp [hc]
    · simp [hc]
  · rw [if_neg hi]
    by_cases hc : i < n
    · simp [hc, Ne.symm hi]
    · simp [hc]
/-- The rows that are done. -/
def outR (n : Nat) (m : Nat → Nat → Bool) (r c i : Nat) : List (List Int) := (List.range n).map fun a => if a < i then thin n (el m r c a) else []
theorem outR_next (n : Nat) (m : Nat → Nat → Bool) (r c i : Nat) : (outR n m r c i).set i (thin n (el m r c i)) = outR n m r c (i + 1) := by
  unfold outR
  rw [map_set]
  refine List.map_congr_left fun a _ => ?_
  by_cases h : a = i
  · subst h; rw [if_pos rfl, if_pos (by omega)]
  · rw [if_neg h]
    by_cases h2 : a < i
    · rw [if_pos h2, if_pos (by omega)]
    · rw [if_neg h2, if_neg (by omega)]
theorem el_row (n : Nat) (m : Nat → Nat → Bool) (r c : Nat) : thin n (el m r c r) = [] := by
  unfold thin el
  simp
theorem outR_len (n : Nat) (m : Nat → Nat → Bool) (r c i : Nat) : (outR n m r c i).length = n := by simp [outR]
theorem outR_get (n : Nat) (m : Nat → Nat → Bool) (r c i : Nat) (h : i < n) : (outR n m r c i)[i]? = some [] := by simp [outR, h]
abbrev ElT := List (List Int) × Int × Nat × Int × List (List Int) × Int × Int × Int × List (List Int)
section
variable {n r c : Nat} (m : Nat → Nat → Bool) (hn : n ≤ 48) (hr : r < n) (hc : c < n)
include hn hr hc
theorem thin_has (f : Nat → Bool) : (thin n f).contains (c : Int) = f c := by
  rw [Bool.eq_iff_iff, List.contains_iff_mem, thin_mem, toNat_c]
  exact ⟨fun h => h.2.2, fun h => ⟨by omega, by omega, h⟩⟩
theorem elim_step (i : Nat) (hi : i < n) (hd : ElT → ElT ⊕ ElT) (hh : hd = Sum.inl ∨ hd = Sum.inr) (F : Int) (hF : 0 ≤ F ∧ F ≤ 1000000) :
    ∃ hd' : ElT → ElT ⊕ ElT, (hd' = Sum.inl ∨ hd' = Sum.inr) ∧ ∀ o, Rl (fun k q => Lsparse_eliminate_0 k q (hd' (pat n m, (r : Int), n, F + rowF n m r c i, pat n m, (n : Int), ((i + 1 : Nat) : Int), (c : Int), outR n m r c (i + 1)))) o →
      Rl (fun k q => Lsparse_eliminate_0 k q (hd (pat n m, (r : Int), n, F, pat n m, (n : Int), (i : Int), (c : Int), outR n m r c i))) o := by
  have hrl := rowF_le n m r c i
  by_cases hir : i = r
  · subst hir
    refine ⟨hd, hh, fun o ho => ?_⟩
    have e0 : rowF n m i c i = 0 := by unfold rowF; rw [if_pos rfl]
    have e1 : outR n m i c (i + 1) = outR n m i c i := by
      rw [← outR_next, el_row]
      have := outR_get n m i c i hi
      obtain ⟨h1, h2⟩ := List.getElem?_eq_some_iff.1 this
      conv => lhs; arg 3; rw [← h2]
      rw [List.set_getElem_self]
    rw [e0, e1, Int.natCast_zero, Int.add_zero] at ho
    have hw := wrap_i64 (x := (i : Int) + 1) (by omega)
    refine Rl.up (f := fun k q => Lsparse_eliminate_0 k q (hd (pat n m, (i : Int), n, F, pat n m, (n : Int), (i : Int), (c : Int), outR n m i c i))) ?_
    show Rl (fun k q => Lsparse_eliminate_0s k (Lsparse_eliminate_0 k q) _) _
    unfold Lsparse_eliminate_0s
    rcases hh with rfl | rfl
    · simp only [eitherK]
      refine Rl.t (by first | omega | (simp only [decide_eq_true_eq, decide_eq_false_iff_not, Int.toNat_natCast, beq_iff_eq, bne_iff_ne, ne_eq, Int.not_lt, Int.not_le, ge_iff_le, gt_iff_lt, beq_eq_false_iff_ne, Nat.zero_add]; omega)) (Rl.t (by first | omega | (simp only [decide_eq_true_eq, decide_eq_false_iff_not, Int.toNat_natCast, beq_iff_eq, bne_iff_ne, ne_eq, Int.not_lt, Int.not_le, ge_iff_le, gt_iff_lt, beq_eq_false_iff_ne, Nat.zero_add]; omega)) (Rl.at (by rw [toNat_c]; exact pat_get n m hi) (Rl.t (by simp) ?_)))
      rw [hw]; exact ho
    · simp only [eitherK]
      refine Rl.t (by first | omega | (simp only [decide_eq_true_eq, decide_eq_false_iff_not, Int.toNat_natCast, beq_iff_eq, bne_iff_ne, ne_eq, Int.not_lt, Int.not_le, ge_iff_le, gt_iff_lt, beq_eq_false_iff_ne, Nat.zero_add]; omega)) (Rl.t (by first | omega | (simp only [decide_eq_true_eq, decide_eq_false_iff_not, Int.toNat_natCast, beq_iff_eq, bne_iff_ne, ne_eq, Int.not_lt, Int.not_le, ge_iff_le, gt_iff_lt, beq_eq_false_iff_ne, Nat.zero_add]; omega)) (Rl.at (by rw [toNat_c]; exact pat_get n m hi) (Rl.t (by simp) ?_)))
      rw [hw]; exact ho
  · refine ⟨Sum.inr, .inr rfl, fun o ho => ?_⟩
    have hw := wrap_i64 (x := (i : Int) + 1) (by omega)
    have hlen := thin_le n (m i)
    have hlenr := thin_le n (m r)
    have hin := contains_ev (thin n (m i)) (c : Int) (by omega)
    rw [thin_has hn hr hc] at hin
    have hcl := clone_ev (thin n (m i)) (by omega)
    have hne : ¬ ((i : Int) == (r : Int)) = true := by rw [beq_iff_eq]; omega
    have go : ∀ hd : ElT → ElT ⊕ ElT, hd = Sum.inl ∨ hd = Sum.inr → ∀ o, Rl (fun k q => Lsparse_eliminate_0s k (Lsparse_eliminate_0 k q) (hd (pat n m, (r : Int), n, F, pat n m, (n : Int), (i : Int), (c : Int), outR n m r c i))) o →
        Rl (fun k q => Lsparse_eliminate_0 k q (hd (pat n m, (r : Int), n, F, pat n m, (n : Int), (i : Int), (c : Int), outR n m r c i))) o :=
      fun hd _ o h => Rl.up (f := fun k q => Lsparse_eliminate_0 k q (hd (pat n m, (r : Int), n, F, pat n m, (n : Int), (i : Int), (c : Int), outR n m r c i))) h
    refine go hd hh o ?_
    unfold Lsparse_eliminate_0s
    by_cases hm : m i c = true
    · rw [hm] at hin
      obtain ⟨m1, l1, b1, b2, b3, b4⟩ := compact_ev (sortI (thin n (m i) ++ thin n (m r))) (by rw [sortI_len, List.length_append]; omega) ((thin n (m i)).length + (thin n (m r)).length) (by rw [sortI_len, List.length_append])
      rw [dd_two] at b4
      rw [sortI_len, List.length_append] at b2 b3
      obtain ⟨m2, l2, c1, c2, c3, c4⟩ := deleteF_ev l1 m1 (c : Int) (by omega) (by omega)
      rw [b4, thin_del] at c4
      have hm1 : m1 = (List.range n).countP (m i) + rowF n m r c i := by
        have := congrArg List.length b4
        rw [List.length_take, thin_len, countP_or] at this
        unfold rowF
        rw [if_neg hir]
        have e : (fun k => !m i k && (m i c && m r k)) = fun k => !m i k && m r k := by funext k; rw [hm, Bool.true_and]
        rw [e]
        omega
      have hel : thin n (fun k => (k != c) && (m i k || m r k)) = thin n (el m r c i) := thin_congr fun k _ => by
        unfold el
        have : (i != r) = true := by rw [bne_iff_ne]; exact hir
        rw [this, hm, Bool.true_and, Bool.true_and]
      rw [hel] at c4
      have hll := thin_len n (m i)
      have hfill : IntKind.i64.wrap (F + IntKind.i64.wrap ((m1 : Int) - ((thin n (m i)).length : Nat))) = F + rowF n m r c i := by
        rw [wrap_i64 (x := (m1 : Int) - _) (by omega), wrap_i64 (by omega)]
        omega
      have hso := sort_ev (thin n (m i) ++ thin n (m r)) (by rw [List.length_append]; omega) ((thin n (m i)).length + (thin n (m r)).length) (by rw [List.length_append])
      have ho' : Rl (fun k q => Lsparse_eliminate_0 k q (Sum.inr (pat n m, (r : Int), n, IntKind.i64.wrap (F + IntKind.i64.wrap ((m1 : Int) - ((thin n (m i)).length : Nat))), pat n m, (n : Int), IntKind.i64.wrap ((i : Int) + 1), (c : Int), tset (outR n m r c i) (Int.toNat (i : Int)) (l2.take m2)))) o := by
        rw [hfill, hw, c4, toNat_c, tset_eq (by rw [outR_len]; exact hi), outR_next]; exact ho
      rcases hh with rfl | rfl
      · simp only [eitherK]
        refine Rl.t (by first | omega | (simp only [decide_eq_true_eq, decide_eq_false_iff_not, Int.toNat_natCast, beq_iff_eq, bne_iff_ne, ne_eq, Int.not_lt, Int.not_le, ge_iff_le, gt_iff_lt, beq_eq_false_iff_ne, Nat.zero_add]; omega)) (Rl.t (by first | omega | (simp only [decide_eq_true_eq, decide_eq_false_iff_not, Int.toNat_natCast, beq_iff_eq, bne_iff_ne, ne_eq, Int.not_lt, Int.not_le, ge_iff_le, gt_iff_lt, beq_eq_false_iff_ne, Nat.zero_add]; omega)) (Rl.at (by rw [toNat_c]; exact pat_get n m hi) (Rl.f hne (Rl.bind hcl (Rl.bind hin (Rl.t rfl (Rl.t (by first | omega | (simp only [decide_eq_true_eq, decide_eq_false_iff_not, Int.toNat_natCast, beq_iff_eq, bne_iff_ne, ne_eq, Int.not_lt, Int.not_le, ge_iff_le, gt_iff_lt, beq_eq_false_iff_ne, Nat.zero_add]; omega)) (Rl.at (by rw [toNat_c]; exact pat_get n m hr) (Rl.t (g := fun _ _ => none) (by simp) (Rl.t (g := fun _ _ => none) (by simp only; omega) ?_))))))))))
        simp only [List.take_length]
        exact Rl.bind hso (Rl.bind b1 (Rl.bind c1 (Rl.t (g := fun _ _ => none) (by first | omega | (simp only [decide_eq_true_eq, decide_eq_false_iff_not, Int.toNat_natCast, beq_iff_eq, bne_iff_ne, ne_eq, Int.not_lt, Int.not_le, ge_iff_le, gt_iff_lt, beq_eq_false_iff_ne, Nat.zero_add]; omega)) (Rl.t (g := fun _ _ => none) (by rw [toNat_c, outR_len]; exact hi) (Rl.t (g := fun _ _ => none) (by simp only; omega) ho')))))
      · simp only [eitherK]
        refine Rl.t (by first | omega | (simp only [decide_eq_true_eq, decide_eq_false_iff_not, Int.toNat_natCast, beq_iff_eq, bne_iff_ne, ne_eq, Int.not_lt, Int.not_le, ge_iff_le, gt_iff_lt, beq_eq_false_iff_ne, Nat.zero_add]; omega)) (Rl.t (by first | omega | (simp only [decide_eq_true_eq, decide_eq_false_iff_not, Int.toNat_natCast, beq_iff_eq, bne_iff_ne, ne_eq, Int.not_lt, Int.not_le, ge_iff_le, gt_iff_lt, beq_eq_false_iff_ne, Nat.zero_add]; omega)) (Rl.at (by rw [toNat_c]; exact pat_get n m hi) (Rl.f hne (Rl.bind hcl (Rl.bind hin (Rl.t rfl (Rl.t (by first | omega | (simp only [decide_eq_true_eq, decide_eq_false_iff_not, Int.toNat_natCast, beq_iff_eq, bne_iff_ne, ne_eq, Int.not_lt, Int.not_le, ge_iff_le, gt_iff_lt, beq_eq_false_iff_ne, Nat.zero_add]; omega)) (Rl.at (by rw [toNat_c]; exact pat_get n m hr) (Rl.t (g := fun _ _ => none) (by simp) (Rl.t (g := fun _ _ => none) (by simp only; omega) ?_))))))))))
        simp only [List.take_length]
        exact Rl.bind hso (Rl.bind b1 (Rl.bind c1 (Rl.t (g := fun _ _ => none) (by first | omega | (simp only [decide_eq_true_eq, decide_eq_false_iff_not, Int.toNat_natCast, beq_iff_eq, bne_iff_ne, ne_eq, Int.not_lt, Int.not_le, ge_iff_le, gt_iff_lt, beq_eq_false_iff_ne, Nat.zero_add]; omega)) (Rl.t (g := fun _ _ => none) (by rw [toNat_c, outR_len]; exact hi) (Rl.t (g := fun _ _ => none) (by simp only; omega) ho')))))
    · have hm' : m i c = false := by simpa using hm
      rw [hm'] at hin
      obtain ⟨m2, l2, c1, c2, c3, c4⟩ := deleteF_ev (thin n (m i)) (thin n (m i)).length (c : Int) (by omega) (by omega)
      rw [List.take_length, thin_del] at c4
      have hel : thin n (fun k => (k != c) && m i k) = thin n (el m r c i) := thin_congr fun k _ => by
        unfold el
        have : (i != r) = true := by rw [bne_iff_ne]; exact hir
        rw [this, hm', Bool.true_and, Bool.false_and, Bool.or_false]
      rw [hel] at c4
      have hz : rowF n m r c i = 0 := by
        unfold rowF
        rw [if_neg hir, List.countP_eq_zero]
        intro k _
        rw [hm']; simp
      rw [hz, Int.natCast_zero, Int.add_zero] at ho
      have ho' : Rl (fun k q => Lsparse_eliminate_0 k q (Sum.inr (pat n m, (r : Int), n, F, pat n m, (n : Int), IntKind.i64.wrap ((i : Int) + 1), (c : Int), tset (outR n m r c i) (Int.toNat (i : Int)) (l2.take m2)))) o := by
        rw [hw, c4, toNat_c, tset_eq (by rw [outR_len]; exact hi), outR_next]; exact ho
      rcases hh with rfl | rfl
      · simp only [eitherK]
        exact Rl.t (by first | omega | (simp only [decide_eq_true_eq, decide_eq_false_iff_not, Int.toNat_natCast, beq_iff_eq, bne_iff_ne, ne_eq, Int.not_lt, Int.not_le, ge_iff_le, gt_iff_lt, beq_eq_false_iff_ne, Nat.zero_add]; omega)) (Rl.t (by first | omega | (simp only [decide_eq_true_eq, decide_eq_false_iff_not, Int.toNat_natCast, beq_iff_eq, bne_iff_ne, ne_eq, Int.not_lt, Int.not_le, ge_iff_le, gt_iff_lt, beq_eq_false_iff_ne, Nat.zero_add]; omega)) (Rl.at (by rw [toNat_c]; exact pat_get n m hi) (Rl.f hne (Rl.bind hcl (Rl.bind hin (Rl.f (by simp) (Rl.bind c1 (Rl.t (g := fun _ _ => none) (by first | omega | (simp only [decide_eq_true_eq, decide_eq_false_iff_not, Int.toNat_natCast, beq_iff_eq, bne_iff_ne, ne_eq, Int.not_lt, Int.not_le, ge_iff_le, gt_iff_lt, beq_eq_false_iff_ne, Nat.zero_add]; omega)) (Rl.t (g := fun _ _ => none) (by rw [toNat_c, outR_len]; exact hi) (Rl.t (g := fun _ _ => none) (by simp only; omega) ho'))))))))))
      · simp only [eitherK]
        exact Rl.t (by first | omega | (simp only [decide_eq_true_eq, decide_eq_false_iff_not, Int.toNat_natCast, beq_iff_eq, bne_iff_ne, ne_eq, Int.not_lt, Int.not_le, ge_iff_le, gt_iff_lt, beq_eq_false_iff_ne, Nat.zero_add]; omega)) (Rl.t (by first | omega | (simp only [decide_eq_true_eq, decide_eq_false_iff_not, Int.toNat_natCast, beq_iff_eq, bne_iff_ne, ne_eq, Int.not_lt, Int.not_le, ge_iff_le, gt_iff_lt, beq_eq_false_iff_ne, Nat.zero_add]; omega)) (Rl.at (by rw [toNat_c]; exact pat_get n m hi) (Rl.f hne (Rl.bind hcl (Rl.bind hin (Rl.f (by simp) (Rl.bind c1 (Rl.t (g := fun _ _ => none) (by first | omega | (simp only [decide_eq_true_eq, decide_eq_false_iff_not, Int.toNat_natCast, beq_iff_eq, bne_iff_ne, ne_eq, Int.not_lt, Int.not_le, ge_iff_le, gt_iff_lt, beq_eq_false_iff_ne, Nat.zero_add]; omega)) (Rl.t (g := fun _ _ => none) (by rw [toNat_c, outR_len]; exact hi) (Rl.t (g := fun _ _ => none) (by simp only; omega) ho'))))))))))
theorem elim_ev : Rn (fun k => Fsparse_eliminate k (pat n m) (r : Int) (c : Int)) (pat n (el m r c), ((flS n m r c n : Nat) : Int)) := by
  -- notG=13T
  have hT : outR n m r c 0 = List.replicate n [] := by
    unfold outR
    apply List.ext_getElem?
    intro i
    by_cases h : i < n
    · simp [h]
    · simp [h]
  have hE : outR n m r c n = pat n (el m r c) := List.map_congr_left fun a ha => if_pos (List.mem_range.1 ha)
  obtain ⟨o, h, a1⟩ : ∃ o : (Nat × Int × Int × List (List Int)) ⊕ (Nat × Int × Int × List (List Int)), (o = .inl (n, ((flS n m r c n : Nat) : Int), (c : Int), pat n (el m r c)) ∨ o = .inr (n, ((flS n m r c n : Nat) : Int), (c : Int), pat n (el m r c))) ∧
      Rl (fun k q => Lsparse_eliminate_0 k q (Sum.inl (pat n m, (r : Int), n, (0 : Int), pat n m, (n : Int), ((0 : Nat) : Int), (c : Int), outR n m r c 0))) o := by
    refine loopI (σ := (ElT → ElT ⊕ ElT) × Int × List (List Int)) n (fun k q i s => Lsparse_eliminate_0 k q (s.1 (pat n m, (r : Int), n, s.2.1, pat n m, (n : Int), i, (c : Int), s.2.2)))
      (fun i s => (s.1 = Sum.inl ∨ s.1 = Sum.inr) ∧ s.2.1 = ((flS n m r c i : Nat) : Int) ∧ s.2.2 = outR n m r c i) _ ?_ ?_ n 0 (Sum.inl, 0, outR n m r c 0) (by omega) ⟨.inl rfl, rfl, rfl⟩
    · rintro ⟨hd, F, outs⟩ ⟨h1, h2, h3⟩
      simp only at h1 h2 h3
      subst h2 h3
      rw [hE]
      rcases h1 with rfl | rfl
      · refine ⟨_, .inl rfl, Rl.up (f := fun k q => Lsparse_eliminate_0 k q (Sum.inl (pat n m, (r : Int), n, ((flS n m r c n : Nat) : Int), pat n m, (n : Int), (n : Int), (c : Int), pat n (el m r c)))) (Rl.of 0 fun k q _ => ?_)⟩
        show Lsparse_eliminate_0s k (Lsparse_eliminate_0 k q) _ = _
        unfold Lsparse_eliminate_0s
        exact if_neg (by first | omega | (simp only [decide_eq_true_eq, decide_eq_false_iff_not, Int.toNat_natCast, beq_iff_eq, bne_iff_ne, ne_eq, Int.not_lt, Int.not_le, ge_iff_le, gt_iff_lt, beq_eq_false_iff_ne, Nat.zero_add]; omega))
      · refine ⟨_, .inr rfl, Rl.up (f := fun k q => Lsparse_eliminate_0 k q (Sum.inr (pat n m, (r : Int), n, ((flS n m r c n : Nat) : Int), pat n m, (n : Int), (n : Int), (c : Int), pat n (el m r c)))) (Rl.of 0 fun k q _ => ?_)⟩
        show Lsparse_eliminate_0s k (Lsparse_eliminate_0 k q) _ = _
        unfold Lsparse_eliminate_0s
        exact if_neg (by first | omega | (simp only [decide_eq_true_eq, decide_eq_false_iff_not, Int.toNat_natCast, beq_iff_eq, bne_iff_ne, ne_eq, Int.not_lt, Int.not_le, ge_iff_le, gt_iff_lt, beq_eq_false_iff_ne, Nat.zero_add]; omega))
    · rintro i ⟨hd, F, outs⟩ hi ⟨h1, h2, h3⟩
      simp only at h1 h2 h3
      subst h2 h3
      have hb := flS_le n m r c i
      have hb2 : i * n ≤ 48 * 48 := Nat.mul_le_mul (by omega) hn
      obtain ⟨hd', q1, q2⟩ := elim_step m hn hr hc i hi hd h1 ((flS n m r c i : Nat) : Int) ⟨by omega, by omega⟩
      exact .inr ⟨(hd', ((flS n m r c i : Nat) : Int) + rowF n m r c i, outR n m r c (i + 1)), ⟨q1, rfl, rfl⟩, q2⟩
  refine Rn.up (f := fun k => Fsparse_eliminate k (pat n m) (r : Int) (c : Int)) ?_
  show Rn (fun k => bsparse_eliminate k (pat n m) (r : Int) (c : Int)) _
  unfold bsparse_eliminate
  rw [pat_len, toNat_c, ← hT]
  have hend : ∀ (L : List (List Int)), L.length = n → Rn (fun _ => if (0 + n) ≤ L.length then some (List.take n L, ((flS n m r c n : Nat) : Int)) else none) (L, ((flS n m r c n : Nat) : Int)) := by
    intro L hL
    refine Rn.t (g := fun _ => none) (by omega) (Rn.const ?_)
    rw [show n = L.length by omega, List.take_length]
  refine Rn.t (g := fun _ => none) ⟨by omega, by omega, by omega⟩ (Rn.bind a1.diag ?_)
  rcases h with rfl | rfl
  · exact hend _ (pat_len _ _)
  · exact hend _ (pat_len _ _)
end
/-- How many of the first rows hold the column. -/
def colC (m : Nat → Nat → Bool) (i c : Nat) : Nat := (List.range i).countP fun a => m a c
def lenC (n : Nat) (m : Nat → Nat → Bool) (i : Nat) : Nat := (List.range n).countP (m i)
/-- What a place costs. -/
def cst (n : Nat) (m : Nat → Nat → Bool) (a c : Nat) : Nat := (lenC n m a - 1) * (colC m n c - 1)
section
variable {n : Nat} (m : Nat → Nat → Bool) (hn : n ≤ 48)
include hn
/-- The best of them. -/
def Bst (n : Nat) (m : Nat → Nat → Bool) (S : Nat → Nat → Prop) (row col least : Int) : Prop :=
  (least = -1 ∧ row = 0 ∧ col = 0 ∧ ∀ a c, ¬ S a c) ∨ ∃ a c : Nat, row = a ∧ col = c ∧ least = ((cst n m a c : Nat) : Int) ∧ S a c ∧ ∀ a' c', S a' c' → cst n m a c ≤ cst n m a' c' ∧ (cst n m a c = cst n m a' c' → a < a' ∨ a = a' ∧ c ≤ c')
theorem Bst.congr {S T : Nat → Nat → Prop} (h : ∀ a c, S a c ↔ T a c) {row col least : Int} (hb : Bst n m S row col least) : Bst n m T row col least := by
  rcases hb with ⟨h1, h2, h3, h4⟩ | ⟨a, c, h1, h2, h3, h4, h5⟩
  · exact .inl ⟨h1, h2, h3, fun a c => fun hT => h4 a c ((h a c).2 hT)⟩
  · exact .inr ⟨a, c, h1, h2, h3, (h a c).1 h4, fun a' c' hT => h5 a' c' ((h a' c').2 hT)⟩
end
/-- Places that can be taken one after the other, and leave nothing. -/
def Chain (n : Nat) : (Nat → Nat → Bool) → List Nat → List Nat → Prop
  | m, [], [] => ∀ i k, i < n → k < n → m i k = false
  | m, r :: rs, c :: cs => r < n ∧ c < n ∧ m r c = true ∧ Chain n (el m r c) rs cs
  | _, _, _ => False
def neR (n : Nat) (m : Nat → Nat → Bool) : Nat := (List.range n).countP fun i => (List.range n).any (m i)
theorem countP_split (f g : Nat → Bool) (l : List Nat) : l.countP f = l.countP (fun k => f k && g k) + l.countP fun k => f k && !g k := by
  induction l with
  | nil => rfl
  | cons x l ih =>
    simp only [List.countP_cons, ih]
    cases f x <;> cases g x <;> simp <;> omega
theorem ne_less {n : Nat} {m : Nat → Nat → Bool} {r c : Nat} (hr : r < n) (hc : c < n) (h : m r c = true) : neR n (el m r c) < neR n m := by
  unfold neR
  rw [countP_split (fun i => (List.range n).any (m i)) (fun i => i != r)]
  have h1 : 0 < (List.range n).countP fun i => (List.range n).any (m i) && !(i != r) :=
    List.countP_pos_iff.2 ⟨r, List.mem_range.2 hr, by simp only [bne_self_eq_false, Bool.not_false, Bool.and_true]; exact List.any_eq_true.2 ⟨c, List.mem_range.2 hc, h⟩⟩
  have h2 : (List.range n).countP (fun i => (List.range n).any (el m r c i)) ≤ (List.range n).countP fun i => (List.range n).any (m i) && (i != r) := by
    refine List.countP_mono_left fun i _ hi => ?_
    obtain ⟨k, hk, he⟩ := List.any_eq_true.1 hi
    unfold el at he
    simp only [Bool.and_eq_true, Bool.or_eq_true] at he
    obtain ⟨⟨e1, _⟩, e2⟩ := he
    rw [Bool.and_eq_true]
    refine ⟨?_, e1⟩
    rcases e2 with e2 | ⟨e2, _⟩
    · exact List.any_eq_true.2 ⟨k, hk, e2⟩
    · exact List.any_eq_true.2 ⟨c, List.mem_range.2 hc, e2⟩
  omega
theorem Chain.len {n : Nat} : ∀ {rs cs : List Nat} {m : Nat → Nat → Bool}, Chain n m rs cs → rs.length = cs.length ∧ rs.length ≤ neR n m
  | [], [], m, _ => ⟨rfl, Nat.zero_le _⟩
  | [], _ :: _, _, h => h.elim
  | _ :: _, [], _, h => h.elim
  | r :: rs, c :: cs, m, ⟨h1, h2, h3, h4⟩ => by
    have := h4.len
    have := ne_less h1 h2 h3
    simp only [List.length_cons]
    omega
section
variable {n : Nat} (hn : n ≤ 48)
include hn
end

/-- Words of the program: 32 bits. -/
abbrev W : Int := 4294967296

/-- Digits of one length are told by their worth. -/
theorem Dg.ext : ∀ {l m : List Int}, Dg W l → Dg W m → l.length = m.length → V W l = V W m → l = m := by
 intro l
 induction l with
 | nil => intro m _ _ hl _; cases m with
  | nil => rfl
  | cons y m => simp at hl
 | cons x l ih =>
  intro m d1 d2 hl e
  cases m with
  | nil => simp at hl
  | cons y m =>
   have hx := d1.head
   have hy := d2.head
   simp only [V] at e
   have a1 : (x + W * V W l) % W = x := by rw [Int.add_mul_emod_self_left]; exact Int.emod_eq_of_lt hx.1 hx.2
   have a2 : (y + W * V W m) % W = y := by rw [Int.add_mul_emod_self_left]; exact Int.emod_eq_of_lt hy.1 hy.2
   have e1 : x = y := by rw [← a1, ← a2, e]
   subst e1
   have e2 : W * V W l = W * V W m := by omega
   have e3 : V W l = V W m := Int.eq_of_mul_eq_mul_left (by decide) e2
   rw [ih d1.tail d2.tail (by simpa using hl) e3]


/-- A right whole number. -/
def Ri (a0 : Bool) (a1 : List Int) : Prop := a1.length ≤ 72 ∧ tl a1 = a1 ∧ (a0 = true → a1 ≠ [])
instance (a0 : Bool) (a1 : List Int) : Decidable (Ri a0 a1) := by unfold Ri; infer_instance
/-- What the words say, signed. -/
def Zv (B : Int) (a0 : Bool) (a1 : List Int) : Int := if a0 then -(V B a1) else V B a1
theorem Ri.nm {a0 : Bool} {a1 : List Int} (h : Ri a0 a1) (hd : Dg W a1) : Nm W a0 a1 (Zv W a0 a1) := ⟨⟨hd, h.2.1⟩, h.2.2, rfl⟩
theorem Nm.ri {a0 : Bool} {a1 : List Int} {z : Int} (h : Nm W a0 a1 z) (hl : a1.length ≤ 72) : Ri a0 a1 := ⟨hl, h.c.2, h.sg⟩
theorem check_ev (a0 : Bool) (a1 : List Int) (hl : a1.length ≤ 9223372036854775807) (hd : Dg W a1) : Rn (fun k => Flimb_Check k a0 a1) (if Ri a0 a1 then 0 else 10) := by
 refine Rn.up (f := fun k => Flimb_Check k a0 a1) ?_
 show Rn (fun k => blimb_Check k a0 a1) _
 unfold blimb_Check
 have hlast := Cn.last hd
 rcases List.eq_nil_or_concat a1 with rfl | ⟨m, x, rfl⟩
 ·cases a0
  ·rw [if_pos (show Ri false [] from ⟨by simp, rfl, by simp⟩)]
   simp -implicitDefEqProofs (maxSteps := 2000000) (disch := omega) only [ps, ↓reduceIte, reduceCtorEq, Int.reduceLT, Int.reduceLE, Int.reduceEq, Nat.reduceLT, Nat.reduceLeDiff, Nat.reduceEqDiff, Int.reduceNeg, eitherK]
   exact Rn.pure _
  ·rw [if_neg (show ¬ Ri true [] from fun h => h.2.2 rfl rfl)]
   simp -implicitDefEqProofs (maxSteps := 2000000) (disch := omega) only [ps, ↓reduceIte, reduceCtorEq, Int.reduceLT, Int.reduceLE, Int.reduceEq, Nat.reduceLT, Nat.reduceLeDiff, Nat.reduceEqDiff, Int.reduceNeg, eitherK]
   exact Rn.pure _
 ·rw [List.concat_eq_append] at *
  have hget : (m ++ [x])[m.length]? = some x := by simp
  have hlen : (m ++ [x]).length = m.length + 1 := by simp
  have h1 : (((m.length + 1 : Nat) : Int) - 1) = (m.length : Int) := by omega
  have hlast' : tl (m ++ [x]) = m ++ [x] ↔ x ≠ 0 := by
   rw [hlast]
   constructor
   ·rintro (e | ⟨m', x', e, h0⟩)
    ·simp at e
    ·obtain ⟨_, e2⟩ := List.append_inj' e rfl
     simp only [List.cons.injEq, and_true] at e2
     rwa [e2]
   ·intro h0; exact .inr ⟨m, x, rfl, h0⟩
  by_cases h72 : m.length + 1 ≤ 72
  ·by_cases hx : x = 0
   ·subst hx
    rw [if_neg (show ¬ Ri a0 (m ++ [0]) from fun h => hlast'.1 h.2.1 rfl)]
    simp -implicitDefEqProofs (maxSteps := 2000000) (disch := omega) only [ps, ↓reduceIte, reduceCtorEq, Int.reduceLT, Int.reduceLE, Int.reduceEq, Nat.reduceLT, Nat.reduceLeDiff, Nat.reduceEqDiff, Int.reduceNeg, eitherK, hlen, h1, hget]
    exact Rn.pure _
   ·rw [if_pos (show Ri a0 (m ++ [x]) from ⟨by omega, hlast'.2 hx, by simp⟩)]
    simp -implicitDefEqProofs (maxSteps := 2000000) (disch := omega) only [ps, ↓reduceIte, reduceCtorEq, Int.reduceLT, Int.reduceLE, Int.reduceEq, Nat.reduceLT, Nat.reduceLeDiff, Nat.reduceEqDiff, Int.reduceNeg, eitherK, hlen, h1, hget, hx]
    exact Rn.pure _
  ·rw [if_neg (show ¬ Ri a0 (m ++ [x]) from fun h => by have := h.1; omega)]
   simp -implicitDefEqProofs (maxSteps := 2000000) (disch := omega) only [ps, ↓reduceIte, reduceCtorEq, Int.reduceLT, Int.reduceLE, Int.reduceEq, Nat.reduceLT, Nat.reduceLeDiff, Nat.reduceEqDiff, Int.reduceNeg, eitherK, hlen]
   exact Rn.pure _

/-- Digits of the reference: 16 bits. -/
abbrev U : Int := 65536
theorem Dg.getD {B : Int} (hB : 0 < B) {l : List Int} (h : Dg B l) (i : Nat) : 0 ≤ l[i]?.getD 0 ∧ l[i]?.getD 0 < B := by
 cases e : l[i]? with
 | none => simp [hB]
 | some x => exact h.get e

/-- Digits of one worth and one form: told once for all. -/
theorem Cn.uniq {B : Int} (hB : 0 < B) {f : Nat → Option (List Int)} {v : Int} {L : Nat} (K : Nat) (h : ∀ k, K ≤ k → ∃ l, f k = some l ∧ Cn B l ∧ V B l = v ∧ l.length ≤ L) : ∃ l, Rn f l ∧ Cn B l ∧ V B l = v ∧ l.length ≤ L := by
 obtain ⟨l, h1, h2, h3, h4⟩ := h K (Nat.le_refl _)
 refine ⟨l, ⟨K, fun k hk => ?_⟩, h2, h3, h4⟩
 obtain ⟨m, q1, q2, q3, q4⟩ := h k hk
 rw [q1, Cn.ext hB q2 h2 (by rw [q3, h3])]

theorem dg_of {l : List Int} (h : Wfd (.sl (.int .u32)) l) : Dg W l ∧ l.length ≤ 9223372036854775807 := by
 refine ⟨fun x hx => ?_, by have := h.1.1; unfold maxLen at this; omega⟩
 have := h.2 x hx
 simp only [Wfd, Lit.wf, IntKind.min, IntKind.max, IntKind.signed, IntKind.bits] at this
 simp at this
 unfold W
 omega
theorem right_ev (a0 : Bool) (a1 : List Int) (hl : a1.length ≤ 9223372036854775807) (hd : Dg W a1) : Rn (fun k => Fshuntref01_Right k a0 a1) (decide (Ri a0 a1)) := by
 refine Rn.up (f := fun k => Fshuntref01_Right k a0 a1) ?_
 show Rn (fun k => bshuntref01_Right k a0 a1) _
 unfold bshuntref01_Right
 have hlast := Cn.last hd
 rcases List.eq_nil_or_concat a1 with rfl | ⟨m, x, rfl⟩
 ·have : (decide (Ri a0 [])) = !a0 := by cases a0 <;> simp [Ri, tl]
  rw [this]
  simp -implicitDefEqProofs (maxSteps := 2000000) (disch := omega) only [ps, ↓reduceIte, reduceCtorEq, Int.reduceLT, Int.reduceLE, Int.reduceEq, Nat.reduceLT, Nat.reduceLeDiff, Nat.reduceEqDiff, Int.reduceNeg, eitherK]
  exact Rn.pure _
 ·rw [List.concat_eq_append] at *
  have hget : (m ++ [x])[m.length]? = some x := by simp
  have hlen : (m ++ [x]).length = m.length + 1 := by simp
  have h1 : (((m.length + 1 : Nat) : Int) - 1) = (m.length : Int) := by omega
  have hlast' : tl (m ++ [x]) = m ++ [x] ↔ x ≠ 0 := by
   rw [hlast]
   constructor
   ·rintro (e | ⟨m', x', e, h0⟩)
    ·simp at e
    ·obtain ⟨_, e2⟩ := List.append_inj' e rfl
     simp only [List.cons.injEq, and_true] at e2
     rwa [e2]
   ·intro h0; exact .inr ⟨m, x, rfl, h0⟩
  by_cases h72 : m.length + 1 ≤ 72
  ·have : (decide (Ri a0 (m ++ [x]))) = (x != 0) := by
    by_cases hx : x = 0
    ·rw [decide_eq_false (show ¬ Ri a0 (m ++ [x]) from fun h => hlast'.1 h.2.1 hx)]; simp [hx]
    ·rw [decide_eq_true (show Ri a0 (m ++ [x]) from ⟨by omega, hlast'.2 hx, by simp⟩)]; simp [hx]
   rw [this]
   simp -implicitDefEqProofs (maxSteps := 2000000) (disch := omega) only [ps, ↓reduceIte, reduceCtorEq, Int.reduceLT, Int.reduceLE, Int.reduceEq, Nat.reduceLT, Nat.reduceLeDiff, Nat.reduceEqDiff, Int.reduceNeg, eitherK, hlen, h1, hget]
   exact Rn.pure _
  ·have : (decide (Ri a0 (m ++ [x]))) = false := by rw [decide_eq_false_iff_not]; exact fun h => by have := h.1; omega
   rw [this]
   simp -implicitDefEqProofs (maxSteps := 2000000) (disch := omega) only [ps, ↓reduceIte, reduceCtorEq, Int.reduceLT, Int.reduceLE, Int.reduceEq, Nat.reduceLT, Nat.reduceLeDiff, Nat.reduceEqDiff, Int.reduceNeg, eitherK, hlen]
   exact Rn.pure _
theorem Rn.get {α : Type} {f : Nat → Option α} {r : α} (h : Rn f r) : ∃ k, f k = some r := by
 obtain ⟨K, h⟩ := h
 exact ⟨K, h K (Nat.le_refl _)⟩

theorem U2 (i : Nat) : U ^ (2 * i) = W ^ i := by rw [Int.pow_mul]; rfl
theorem take_loop (k : Nat) (a0 : Bool) (a1 : List Int) (hla : a1.length ≤ 1000000000) (ha : Dg W a1) :
  ∀ (d i n : Nat) (ds : List Int), i + d = a1.length → d < n → ds.length = 2 * i → Dg U ds → V U ds = V W (a1.take i) →
  ∃ ds', Lshuntref01_Take_0 k n (2 * i) i a0 a1 false 0 ds [] = some (2 * a1.length, a0, a1, false, 0, ds', []) ∧ Dg U ds' ∧ ds'.length = 2 * a1.length ∧ V U ds' = V W a1 := by
 intro d
 induction d with
 | zero =>
  intro i n ds hi hn hl hd e
  obtain ⟨n, rfl⟩ : ∃ m, n = m + 1 := ⟨n - 1, by omega⟩
  have hia : i = a1.length := by omega
  subst hia
  refine ⟨ds, ?_, hd, hl, by rw [e, List.take_length]⟩
  show Lshuntref01_Take_0s k (Lshuntref01_Take_0 k n) _ _ _ _ _ _ _ _ = _
  unfold Lshuntref01_Take_0s
  simp -implicitDefEqProofs (maxSteps := 2000000) (disch := omega) only [ps, ↓reduceIte, reduceCtorEq, Int.reduceLT, Int.reduceLE, Int.reduceEq, Nat.reduceLT, Nat.reduceLeDiff, Nat.reduceEqDiff, Int.reduceNeg, eitherK]
 | succ d ih =>
  intro i n ds hi hn hl hd e
  obtain ⟨n, rfl⟩ : ∃ m, n = m + 1 := ⟨n - 1, by omega⟩
  obtain ⟨x, hx⟩ := get_of (show i < a1.length by omega)
  have hxb := ha.get hx
  have h1 : ((i : Int) + 1) = ((i + 1 : Nat) : Int) := rfl
  have ht : ds.take (2 * i) = ds := List.take_of_length_le (by omega)
  have hdm := Int.emod_add_mul_ediv x 65536
  unfold W at hxb
  have hu : 0 ≤ x / 65536 ∧ x / 65536 < 65536 := by omega
  obtain ⟨ds', q1, q2⟩ := ih (i + 1) n (ds ++ [x % 65536, x / 65536]) (by omega) (by omega) (by simp [hl]; omega) (hd.append (Dg.cons (by unfold U; omega) (Dg.cons hu Dg.nil))) (by
   rw [V_append, V_take_succ hx, hl, U2, e]
   simp only [V]
   unfold U
   grind)
  refine ⟨ds', ?_, q2⟩
  rw [← q1]
  show Lshuntref01_Take_0s k (Lshuntref01_Take_0 k n) _ _ _ _ _ _ _ _ = _
  unfold Lshuntref01_Take_0s
  have h2 : 2 * i + 2 = 2 * (i + 1) := by omega
  simp -implicitDefEqProofs (maxSteps := 2000000) (disch := omega) only [ps, ↓reduceIte, reduceCtorEq, Int.reduceLT, Int.reduceLE, Int.reduceEq, Nat.reduceLT, Nat.reduceLeDiff, Nat.reduceEqDiff, Int.reduceNeg, eitherK, hx, h1, hl, ht, List.take_succ_cons, List.length_cons, tdiv_pos, tmod_pos, h2]
theorem trimF_loop (k : Nat) (ds : List Int) (hl : ds.length ≤ 10000000000) : ∀ (i n : Nat), i ≤ ds.length → i < n → Lshuntref01_trim_0 k n ds i = some (ds, ((tl (ds.take i)).length : Int)) := by
  intro i
  induction i with
  | zero =>
    intro n hd hn
    obtain ⟨n, rfl⟩ : ∃ m, n = m + 1 := ⟨n - 1, by omega⟩
    show Lshuntref01_trim_0s k (Lshuntref01_trim_0 k n) _ _ = _
    unfold Lshuntref01_trim_0s
    simp -implicitDefEqProofs (maxSteps := 2000000) (disch := omega) only [ps, ↓reduceIte, reduceCtorEq, Int.reduceLT, Int.reduceLE, Int.reduceEq, Nat.reduceLT, Nat.reduceLeDiff, Nat.reduceEqDiff, Int.reduceNeg, eitherK]
    rfl
  | succ i ih =>
    intro n hd hn
    obtain ⟨n, rfl⟩ : ∃ m, n = m + 1 := ⟨n - 1, by omega⟩
    show Lshuntref01_trim_0s k (Lshuntref01_trim_0 k n) _ _ = _
    unfold Lshuntref01_trim_0s
    obtain ⟨x, hx⟩ := get_of (show i < ds.length by omega)
    have h1 : (((i + 1 : Nat) : Int) - 1) = (i : Int) := by omega
    have ht : ds.take (i + 1) = ds.take i ++ [x] := by rw [List.take_add_one, hx]; rfl
    simp -implicitDefEqProofs (maxSteps := 2000000) (disch := omega) only [ps, ↓reduceIte, reduceCtorEq, Int.reduceLT, Int.reduceLE, Int.reduceEq, Nat.reduceLT, Nat.reduceLeDiff, Nat.reduceEqDiff, Int.reduceNeg, eitherK, h1, hx]
    by_cases h : x = 0
    · simp -implicitDefEqProofs (maxSteps := 2000000) (disch := omega) only [ps, ↓reduceIte, reduceCtorEq, Int.reduceLT, Int.reduceLE, Int.reduceEq, Nat.reduceLT, Nat.reduceLeDiff, Nat.reduceEqDiff, Int.reduceNeg, eitherK, h]
      rw [ih n (by omega) (by omega), ht, tl_snoc, if_pos h]
    · simp -implicitDefEqProofs (maxSteps := 2000000) (disch := omega) only [ps, ↓reduceIte, reduceCtorEq, Int.reduceLT, Int.reduceLE, Int.reduceEq, Nat.reduceLT, Nat.reduceLeDiff, Nat.reduceEqDiff, Int.reduceNeg, eitherK, h]
      rw [ht, tl_snoc, if_neg h]
      simp
      omega
theorem takeF_ev (a0 : Bool) (a1 : List Int) (hla : a1.length ≤ 1000000000) {z : Int} (hn : Nm W a0 a1 z) : ∃ l, Rn (fun k => Fshuntref01_Take k a0 a1) (a0, l) ∧ (l = [] ↔ a1 = []) := by
  have hT : ∀ (ds : List Int), ds.length ≤ 10000000000 → ∀ k, ds.length + 2 ≤ k → Fshuntref01_trim k ds = some (tl ds) := fun ds hl k hk => by
    obtain ⟨k, rfl⟩ : ∃ m, k = m + 1 := ⟨k - 1, by omega⟩
    show bshuntref01_trim k ds = _
    unfold bshuntref01_trim
    have h1 := tl_len ds
    have h2 := tl_take ds
    have h3 : ds.take ds.length = ds := List.take_length
    rw [trimF_loop k ds hl ds.length k (Nat.le_refl _) (by omega), h3]
    simp -implicitDefEqProofs (maxSteps := 2000000) (disch := omega) only [ps, ↓reduceIte, reduceCtorEq, Int.reduceLT, Int.reduceLE, Int.reduceEq, Nat.reduceLT, Nat.reduceLeDiff, Nat.reduceEqDiff, Int.reduceNeg, eitherK, h2]
  have main := Cn.uniq (B := U) (v := V W a1) (L := 2 * a1.length) (f := fun k => (Fshuntref01_Take (k + 1) a0 a1).map (·.2)) (by decide) (2 * a1.length + 3) fun k hk => by
    obtain ⟨ds, q1, q2, q3, q4⟩ := take_loop k a0 a1 hla hn.c.1 a1.length 0 k [] (by omega) (by omega) rfl Dg.nil (by simp [V])
    have := tl_len ds
    refine ⟨tl ds, ?_, Cn.of q2, by rw [V_tl, q4], by omega⟩
    have q1' : Lshuntref01_Take_0 k k 0 0 a0 a1 false 0 [] [] = _ := q1
    have ht := hT ds (by omega) k (by omega)
    have e : List.take (2 * a1.length) ds = ds := by rw [← q3]; exact List.take_length
    show (bshuntref01_Take k a0 a1).map (·.2) = _
    unfold bshuntref01_Take
    rw [q1', Option.bind_some]
    simp only [e]
    rw [if_pos (by omega), ht, Option.bind_some]
    cases a0 <;> rfl
  obtain ⟨l, h1, h2, h3, h4⟩ := main
  have hzero : l = [] ↔ a1 = [] := by rw [h2.nil_iff (by decide), h3, hn.c.nil_iff (by decide)]
  refine ⟨l, ?_, hzero⟩
  obtain ⟨K, h1⟩ := h1
  refine Rn.up (f := fun k => Fshuntref01_Take k a0 a1) (Rn.eq (max K (2 * a1.length + 3)) fun k hk => ?_)
  have e := h1 k (by omega)
  obtain ⟨ds, q1, q2, q3, q4⟩ := take_loop k a0 a1 hla hn.c.1 a1.length 0 k [] (by omega) (by omega) rfl Dg.nil (by simp [V])
  have q1' : Lshuntref01_Take_0 k k 0 0 a0 a1 false 0 [] [] = _ := q1
  have ht := hT ds (by omega) k (by omega)
  have e2 : List.take (2 * a1.length) ds = ds := by rw [← q3]; exact List.take_length
  have hl : tl ds = l := Cn.ext (B := U) (by decide) (Cn.of q2) h2 (by rw [V_tl, q4, h3])
  show bshuntref01_Take k a0 a1 = _
  unfold bshuntref01_Take
  rw [q1', Option.bind_some]
  simp only [e2]
  rw [if_pos (by omega), ht, Option.bind_some, hl]
  cases a0
  · rfl
  · have hne : l ≠ [] := fun h0 => hn.sg rfl (hzero.1 h0)
    have hpos : 0 < l.length := by cases l with
      | nil => exact absurd rfl hne
      | cons _ _ => simp
    rw [if_pos rfl, decide_eq_true (by omega)]
/-- The multiplier's sign. -/
theorem takeS_ev (a0 : Bool) (a1 : List Int) (hd : Dg W a1) (hr : Ri a0 a1) : ∃ b1 s, Rn (fun k => Fshuntref01_Take k a0 a1) (a0, b1) ∧ Rn (fun k => Fshuntref01_Sign k a0 b1) s ∧ (s ≤ 0 ↔ ¬ (a0 = false ∧ a1 ≠ [])) := by
  obtain ⟨l, h1, h2⟩ := takeF_ev a0 a1 (by have := hr.1; omega) (hr.nm hd)
  have up : ∀ o, Rn (fun k => bshuntref01_Sign k a0 l) o → Rn (fun k => Fshuntref01_Sign k a0 l) o := fun o h => Rn.up (f := fun k => Fshuntref01_Sign k a0 l) h
  unfold bshuntref01_Sign at up
  by_cases h : a1 = []
  · have hl := h2.2 h
    exact ⟨l, 0, h1, up _ (Rn.t (by rw [hl]; simp) (Rn.pure _)), by simp [h]⟩
  · have hl : l ≠ [] := fun e => h (h2.1 e)
    have hl' : ¬ (((l.length : Nat) : Int) == 0) = true := by
      have : l.length ≠ 0 := fun e => hl (List.length_eq_zero_iff.1 e)
      simp; omega
    cases a0
    · exact ⟨l, 1, h1, up _ (Rn.f hl' (Rn.f (by simp) (Rn.pure _))), by simp [h]⟩
    · exact ⟨l, -1, h1, up _ (Rn.f hl' (Rn.t rfl (Rn.pure _))), by simp⟩
abbrev Cl : Type := Int × Bool × List Int
abbrev Rw : Type := (Bool × List Int) × List Cl × List Cl × List Cl × Bool × List Int
def c0 : Cl := (0, false, [])
def DgC (l : List Cl) : Prop := l.length ≤ 1000000000000000000 ∧ ∀ c ∈ l, Dg W c.2.2 ∧ c.2.2.length ≤ 9223372036854775807
/-- A right cell behind another. -/
def okC (l : List Cl) (n : Int) (j : Nat) : Prop := (if j = 0 then 0 ≤ (l.getD j c0).1 else (l.getD (j - 1) c0).1 < (l.getD j c0).1) ∧ (l.getD j c0).1 < n ∧ Ri (l.getD j c0).2.1 (l.getD j c0).2.2 ∧ (l.getD j c0).2.2 ≠ []
def OkC (l : List Cl) (n : Int) : Prop := ∀ j, 0 ≤ j → j < l.length → okC l n j
theorem okC_nn {l : List Cl} {n : Int} : ∀ i, (∀ j, 0 ≤ j → j < i → okC l n j) → ∀ j, j < i → 0 ≤ (l.getD j c0).1 := by
  intro i h j
  induction j with
  | zero => intro hj; have := (h 0 (Nat.le_refl _) hj).1; rwa [if_pos rfl] at this
  | succ j ih =>
    intro hj
    have h1 := ih (by omega)
    have h2 := (h (j + 1) (by omega) hj).1
    rw [if_neg (by omega), Nat.add_sub_cancel] at h2
    omega
section
variable (l : List Cl) (n : Int) (hd : DgC l)
include hd
theorem cells_p : ∃ b, Rn (fun k => Fsystem_cellsRight k l n) b ∧ (b = true ↔ OkC l n) := by
  have hlen := hd.1
  obtain ⟨o, a1, a2⟩ : ∃ o, Rl (fun k q => Lsystem_cellsRight_0 k q l n l l.length ((0 : Nat) : Int)) o ∧
      ((∀ j, 0 ≤ j → j < l.length → okC l n j) ∧ o = .inr () ∨ (¬ ∀ j, 0 ≤ j → j < l.length → okC l n j) ∧ ∃ a : Bool × Cl, a.1 = false ∧ o = .inl a) := by
    refine scan2 l.length 0 (fun k q i => Lsystem_cellsRight_0 k q l n l l.length i) () (fun a : Bool × Cl => a.1 = false) _ ?_ ?_ ?_ l.length 0 (by omega) (by omega) (fun j h1 h2 => by omega)
    · refine Rl.up (f := fun k q => Lsystem_cellsRight_0 k q l n l l.length l.length) (Rl.of 0 fun k q _ => ?_)
      show Lsystem_cellsRight_0s k (Lsystem_cellsRight_0 k q) _ _ _ _ _ = _
      unfold Lsystem_cellsRight_0s
      exact if_neg (by first | omega | (simp only [decide_eq_true_eq, decide_eq_false_iff_not, Int.toNat_natCast, beq_iff_eq, bne_iff_ne, ne_eq, Int.not_lt, Int.not_le, ge_iff_le, gt_iff_lt, beq_eq_false_iff_ne, Nat.zero_add]; omega))
    · intro i hs hi hp hok o ho
      have g := getD_some (l := l) c0 hi
      have hc := hd.2 _ (List.mem_of_getElem? g)
      have hnn := okC_nn (i + 1) (fun j h1 h2 => by
        rcases Nat.lt_or_ge j i with k | k
        · exact hp j h1 k
        · exact (show i = j by omega) ▸ hok) i (by omega)
      obtain ⟨h1, h2, h3, h4⟩ := hok
      have hch := check_ev (l.getD i c0).2.1 _ hc.2 hc.1
      rw [if_pos h3] at hch
      have h5 : (l.getD i c0).2.2.length ≠ 0 := fun e => h4 (List.length_eq_zero_iff.1 e)
      refine Rl.up (f := fun k q => Lsystem_cellsRight_0 k q l n l l.length i) ?_
      show Rl (fun k q => Lsystem_cellsRight_0s k (Lsystem_cellsRight_0 k q) _ _ _ _ _) _
      unfold Lsystem_cellsRight_0s
      rw [wrap_i64 (x := (i : Int) + 1) (by omega), wrap_i64 (x := (i : Int) - 1) (by omega)]
      refine Rl.t (by first | omega | (simp only [decide_eq_true_eq, decide_eq_false_iff_not, Int.toNat_natCast, beq_iff_eq, bne_iff_ne, ne_eq, Int.not_lt, Int.not_le, ge_iff_le, gt_iff_lt, beq_eq_false_iff_ne, Nat.zero_add]; omega)) (Rl.t (by first | omega | (simp only [decide_eq_true_eq, decide_eq_false_iff_not, Int.toNat_natCast, beq_iff_eq, bne_iff_ne, ne_eq, Int.not_lt, Int.not_le, ge_iff_le, gt_iff_lt, beq_eq_false_iff_ne, Nat.zero_add]; omega)) (Rl.at (by rw [toNat_c]; exact g) (Rl.t (by first | omega | (simp only [decide_eq_true_eq, decide_eq_false_iff_not, Int.toNat_natCast, beq_iff_eq, bne_iff_ne, ne_eq, Int.not_lt, Int.not_le, ge_iff_le, gt_iff_lt, beq_eq_false_iff_ne, Nat.zero_add]; omega)) (Rl.t (by first | omega | (simp only [decide_eq_true_eq, decide_eq_false_iff_not, Int.toNat_natCast, beq_iff_eq, bne_iff_ne, ne_eq, Int.not_lt, Int.not_le, ge_iff_le, gt_iff_lt, beq_eq_false_iff_ne, Nat.zero_add]; omega)) ?_))))
      by_cases h0 : i = 0
      · exact Rl.f (by first | omega | (simp only [decide_eq_true_eq, decide_eq_false_iff_not, Int.toNat_natCast, beq_iff_eq, bne_iff_ne, ne_eq, Int.not_lt, Int.not_le, ge_iff_le, gt_iff_lt, beq_eq_false_iff_ne, Nat.zero_add]; omega)) (Rl.bind hch (Rl.t (by simp) (Rl.f (by simp; exact h4) ho)))
      · rw [if_neg h0] at h1
        have g2 := getD_some (l := l) c0 (show i - 1 < l.length by omega)
        exact Rl.t (by first | omega | (simp only [decide_eq_true_eq, decide_eq_false_iff_not, Int.toNat_natCast, beq_iff_eq, bne_iff_ne, ne_eq, Int.not_lt, Int.not_le, ge_iff_le, gt_iff_lt, beq_eq_false_iff_ne, Nat.zero_add]; omega)) (Rl.t (by first | omega | (simp only [decide_eq_true_eq, decide_eq_false_iff_not, Int.toNat_natCast, beq_iff_eq, bne_iff_ne, ne_eq, Int.not_lt, Int.not_le, ge_iff_le, gt_iff_lt, beq_eq_false_iff_ne, Nat.zero_add]; omega)) (Rl.at (by rw [show ((i : Int) - 1).toNat = i - 1 by omega]; exact g2) (Rl.t (by first | omega | (simp only [decide_eq_true_eq, decide_eq_false_iff_not, Int.toNat_natCast, beq_iff_eq, bne_iff_ne, ne_eq, Int.not_lt, Int.not_le, ge_iff_le, gt_iff_lt, beq_eq_false_iff_ne, Nat.zero_add]; omega)) (Rl.bind hch (Rl.t (by simp) (Rl.f (by simp; exact h4) ho))))))
    · intro i hs hi hp hno
      have g := getD_some (l := l) c0 hi
      have hc := hd.2 _ (List.mem_of_getElem? g)
      have hch := check_ev (l.getD i c0).2.1 _ hc.2 hc.1
      have hx := okC_nn i hp
      refine ⟨(false, l.getD i c0), rfl, Rl.up (f := fun k q => Lsystem_cellsRight_0 k q l n l l.length i) ?_⟩
      show Rl (fun k q => Lsystem_cellsRight_0s k (Lsystem_cellsRight_0 k q) _ _ _ _ _) _
      unfold Lsystem_cellsRight_0s
      rw [wrap_i64 (x := (i : Int) + 1) (by omega), wrap_i64 (x := (i : Int) - 1) (by omega)]
      unfold okC at hno
      generalize hq : l.getD i c0 = q at *
      obtain ⟨q1, q2, q3⟩ := q
      simp only at *
      have tail : ∀ o1 : (Bool × Cl) ⊕ Unit, o1 = .inl (false, q1, q2, q3) → (¬ (Ri q2 q3 ∧ q3 ≠ [])) → ∀ f : Nat → Nat → Option ((Bool × Cl) ⊕ Unit), Rl (fun k q => (Flimb_Check k q2 q3).bind fun r4 => if (r4 != 0) = false then (if ((((List.length q3) : Nat) : Int) == 0) = true then some (Sum.inl (false, q1, q2, q3)) else f k q) else some (Sum.inl (false, q1, q2, q3))) o1 := by
        rintro o1 rfl hR f
        by_cases hri : Ri q2 q3
        · rw [if_pos hri] at hch
          have h4 : q3 = [] := by
            by_cases h4 : q3 = []
            · exact h4
            · exact absurd ⟨hri, h4⟩ hR
          exact Rl.bind hch (Rl.t (by simp) (Rl.t (by simp [h4]) (Rl.pure _)))
        · rw [if_neg hri] at hch
          exact Rl.bind hch (Rl.f (by simp) (Rl.pure _))
      refine Rl.t (by first | omega | (simp only [decide_eq_true_eq, decide_eq_false_iff_not, Int.toNat_natCast, beq_iff_eq, bne_iff_ne, ne_eq, Int.not_lt, Int.not_le, ge_iff_le, gt_iff_lt, beq_eq_false_iff_ne, Nat.zero_add]; omega)) (Rl.t (by first | omega | (simp only [decide_eq_true_eq, decide_eq_false_iff_not, Int.toNat_natCast, beq_iff_eq, bne_iff_ne, ne_eq, Int.not_lt, Int.not_le, ge_iff_le, gt_iff_lt, beq_eq_false_iff_ne, Nat.zero_add]; omega)) (Rl.at (by rw [toNat_c]; exact g) ?_))
      by_cases h1 : q1 < 0
      · exact Rl.f (by first | omega | (simp only [decide_eq_true_eq, decide_eq_false_iff_not, Int.toNat_natCast, beq_iff_eq, bne_iff_ne, ne_eq, Int.not_lt, Int.not_le, ge_iff_le, gt_iff_lt, beq_eq_false_iff_ne, Nat.zero_add]; omega)) (Rl.pure _)
      refine Rl.t (by first | omega | (simp only [decide_eq_true_eq, decide_eq_false_iff_not, Int.toNat_natCast, beq_iff_eq, bne_iff_ne, ne_eq, Int.not_lt, Int.not_le, ge_iff_le, gt_iff_lt, beq_eq_false_iff_ne, Nat.zero_add]; omega)) ?_
      by_cases h2 : n ≤ q1
      · exact Rl.f (by first | omega | (simp only [decide_eq_true_eq, decide_eq_false_iff_not, Int.toNat_natCast, beq_iff_eq, bne_iff_ne, ne_eq, Int.not_lt, Int.not_le, ge_iff_le, gt_iff_lt, beq_eq_false_iff_ne, Nat.zero_add]; omega)) (Rl.pure _)
      refine Rl.t (by first | omega | (simp only [decide_eq_true_eq, decide_eq_false_iff_not, Int.toNat_natCast, beq_iff_eq, bne_iff_ne, ne_eq, Int.not_lt, Int.not_le, ge_iff_le, gt_iff_lt, beq_eq_false_iff_ne, Nat.zero_add]; omega)) ?_
      by_cases h0 : i = 0
      · refine Rl.f (by first | omega | (simp only [decide_eq_true_eq, decide_eq_false_iff_not, Int.toNat_natCast, beq_iff_eq, bne_iff_ne, ne_eq, Int.not_lt, Int.not_le, ge_iff_le, gt_iff_lt, beq_eq_false_iff_ne, Nat.zero_add]; omega)) (tail _ rfl (fun hh => hno ⟨by rw [if_pos h0]; omega, by omega, hh.1, hh.2⟩) _)
      · have g2 := getD_some (l := l) c0 (show i - 1 < l.length by omega)
        rw [if_neg h0] at hno
        refine Rl.t (by first | omega | (simp only [decide_eq_true_eq, decide_eq_false_iff_not, Int.toNat_natCast, beq_iff_eq, bne_iff_ne, ne_eq, Int.not_lt, Int.not_le, ge_iff_le, gt_iff_lt, beq_eq_false_iff_ne, Nat.zero_add]; omega)) (Rl.t (by first | omega | (simp only [decide_eq_true_eq, decide_eq_false_iff_not, Int.toNat_natCast, beq_iff_eq, bne_iff_ne, ne_eq, Int.not_lt, Int.not_le, ge_iff_le, gt_iff_lt, beq_eq_false_iff_ne, Nat.zero_add]; omega)) (Rl.at (by rw [show ((i : Int) - 1).toNat = i - 1 by omega]; exact g2) ?_))
        by_cases h3 : (l.getD (i - 1) c0).1 < q1
        · exact Rl.t (by first | omega | (simp only [decide_eq_true_eq, decide_eq_false_iff_not, Int.toNat_natCast, beq_iff_eq, bne_iff_ne, ne_eq, Int.not_lt, Int.not_le, ge_iff_le, gt_iff_lt, beq_eq_false_iff_ne, Nat.zero_add]; omega)) (tail _ rfl (fun hh => hno ⟨h3, by omega, hh.1, hh.2⟩) _)
        · exact Rl.f (by first | omega | (simp only [decide_eq_true_eq, decide_eq_false_iff_not, Int.toNat_natCast, beq_iff_eq, bne_iff_ne, ne_eq, Int.not_lt, Int.not_le, ge_iff_le, gt_iff_lt, beq_eq_false_iff_ne, Nat.zero_add]; omega)) (Rl.pure _)
  have up : ∀ b, Rn (fun k => bsystem_cellsRight k l n) b → Rn (fun k => Fsystem_cellsRight k l n) b := fun b h => Rn.up (f := fun k => Fsystem_cellsRight k l n) h
  unfold bsystem_cellsRight at up
  rcases a2 with ⟨a2, rfl⟩ | ⟨a2, a, ha, rfl⟩
  · exact ⟨_, up _ (Rn.bind a1.diag (Rn.pure _)), by simp; exact a2⟩
  · exact ⟨_, up _ (Rn.bind a1.diag (Rn.pure _)), by rw [ha]; simp; exact a2⟩
theorem cells_r : ∃ b, Rn (fun k => Fshuntref12_cellsRight k l n) b ∧ (b = true ↔ OkC l n) := by
  have hlen := hd.1
  obtain ⟨o, a1, a2⟩ : ∃ o, Rl (fun k q => Lshuntref12_cellsRight_0 k q l n (if ((0 : Nat) : Int) ≤ 0 then -1 else (l.getD (((0 : Nat) : Int) - 1).toNat c0).1) ((0 : Nat) : Int)) o ∧
      ((∀ j, 0 ≤ j → j < l.length → okC l n j) ∧ o = .inr () ∨ (¬ ∀ j, 0 ≤ j → j < l.length → okC l n j) ∧ ∃ a : Bool, a = false ∧ o = .inl a) := by
    refine scan l.length 0 (fun k q i => Lshuntref12_cellsRight_0 k q l n (if i ≤ 0 then -1 else (l.getD (i - 1).toNat c0).1) i) () (fun a : Bool => a = false) _ ?_ ?_ ?_ l.length 0 (by omega) (by omega)
    · refine Rl.up (f := fun k q => Lshuntref12_cellsRight_0 k q l n (if ((l.length : Nat) : Int) ≤ 0 then -1 else (l.getD (((l.length : Nat) : Int) - 1).toNat c0).1) l.length) (Rl.of 0 fun k q _ => ?_)
      show Lshuntref12_cellsRight_0s k (Lshuntref12_cellsRight_0 k q) _ _ _ _ = _
      unfold Lshuntref12_cellsRight_0s
      exact if_neg (by first | omega | (simp only [decide_eq_true_eq, decide_eq_false_iff_not, Int.toNat_natCast, beq_iff_eq, bne_iff_ne, ne_eq, Int.not_lt, Int.not_le, ge_iff_le, gt_iff_lt, beq_eq_false_iff_ne, Nat.zero_add]; omega))
    · intro i hs hi hok o ho
      have g := getD_some (l := l) c0 hi
      have hc := hd.2 _ (List.mem_of_getElem? g)
      obtain ⟨h1, h2, h3, h4⟩ := hok
      have hch := right_ev (l.getD i c0).2.1 _ hc.2 hc.1
      rw [decide_eq_true h3] at hch
      have hlast : ((if ((i : Nat) : Int) ≤ 0 then -1 else (l.getD (((i : Nat) : Int) - 1).toNat c0).1)) < (l.getD i c0).1 := by
        by_cases h0 : i = 0
        · rw [if_pos h0] at h1; rw [if_pos (by omega)]; omega
        · rw [if_neg h0] at h1; rw [if_neg (by omega), show ((i : Int) - 1).toNat = i - 1 by omega]; exact h1
      rw [if_neg (by omega), show ((i : Int) + 1 - 1).toNat = i by omega] at ho
      generalize (if ((i : Nat) : Int) ≤ 0 then -1 else (l.getD (((i : Nat) : Int) - 1).toNat c0).1) = last at hlast
      have gi : l[Int.toNat (i : Int)]? = some (l.getD i c0) := by rw [toNat_c]; exact g
      refine Rl.up (f := fun k q => Lshuntref12_cellsRight_0 k q l n last i) ?_
      show Rl (fun k q => Lshuntref12_cellsRight_0s k (Lshuntref12_cellsRight_0 k q) _ _ _ _) _
      unfold Lshuntref12_cellsRight_0s
      rw [wrap_i64 (x := (i : Int) + 1) (by omega)]
      exact Rl.t (by first | omega | (simp only [decide_eq_true_eq, decide_eq_false_iff_not, Int.toNat_natCast, beq_iff_eq, bne_iff_ne, ne_eq, Int.not_lt, Int.not_le, ge_iff_le, gt_iff_lt, beq_eq_false_iff_ne, Nat.zero_add]; omega)) (Rl.t (by first | omega | (simp only [decide_eq_true_eq, decide_eq_false_iff_not, Int.toNat_natCast, beq_iff_eq, bne_iff_ne, ne_eq, Int.not_lt, Int.not_le, ge_iff_le, gt_iff_lt, beq_eq_false_iff_ne, Nat.zero_add]; omega)) (Rl.at gi (Rl.t (by first | omega | (simp only [decide_eq_true_eq, decide_eq_false_iff_not, Int.toNat_natCast, beq_iff_eq, bne_iff_ne, ne_eq, Int.not_lt, Int.not_le, ge_iff_le, gt_iff_lt, beq_eq_false_iff_ne, Nat.zero_add]; omega)) (Rl.t (by first | omega | (simp only [decide_eq_true_eq, decide_eq_false_iff_not, Int.toNat_natCast, beq_iff_eq, bne_iff_ne, ne_eq, Int.not_lt, Int.not_le, ge_iff_le, gt_iff_lt, beq_eq_false_iff_ne, Nat.zero_add]; omega)) (Rl.at gi (Rl.t (by first | omega | (simp only [decide_eq_true_eq, decide_eq_false_iff_not, Int.toNat_natCast, beq_iff_eq, bne_iff_ne, ne_eq, Int.not_lt, Int.not_le, ge_iff_le, gt_iff_lt, beq_eq_false_iff_ne, Nat.zero_add]; omega)) (Rl.t (by first | omega | (simp only [decide_eq_true_eq, decide_eq_false_iff_not, Int.toNat_natCast, beq_iff_eq, bne_iff_ne, ne_eq, Int.not_lt, Int.not_le, ge_iff_le, gt_iff_lt, beq_eq_false_iff_ne, Nat.zero_add]; omega)) (Rl.at gi (Rl.bind hch (Rl.t (by simp) (Rl.t (by first | omega | (simp only [decide_eq_true_eq, decide_eq_false_iff_not, Int.toNat_natCast, beq_iff_eq, bne_iff_ne, ne_eq, Int.not_lt, Int.not_le, ge_iff_le, gt_iff_lt, beq_eq_false_iff_ne, Nat.zero_add]; omega)) (Rl.at gi (Rl.f (by simp; exact h4) (Rl.t (by first | omega | (simp only [decide_eq_true_eq, decide_eq_false_iff_not, Int.toNat_natCast, beq_iff_eq, bne_iff_ne, ne_eq, Int.not_lt, Int.not_le, ge_iff_le, gt_iff_lt, beq_eq_false_iff_ne, Nat.zero_add]; omega)) (Rl.at gi ho)))))))))))))))
    · intro i hs hi hno
      have g := getD_some (l := l) c0 hi
      have hc := hd.2 _ (List.mem_of_getElem? g)
      have hch := right_ev (l.getD i c0).2.1 _ hc.2 hc.1
      have gi : l[Int.toNat (i : Int)]? = some (l.getD i c0) := by rw [toNat_c]; exact g
      have hno' : ¬ ((if ((i : Nat) : Int) ≤ 0 then -1 else (l.getD (((i : Nat) : Int) - 1).toNat c0).1) < (l.getD i c0).1 ∧ (l.getD i c0).1 < n ∧ Ri (l.getD i c0).2.1 (l.getD i c0).2.2 ∧ (l.getD i c0).2.2 ≠ []) := by
        rintro ⟨h1, h2⟩
        refine hno ⟨?_, h2⟩
        by_cases h0 : i = 0
        · rw [if_pos h0]; rw [if_pos (by omega)] at h1; omega
        · rw [if_neg h0]; rwa [if_neg (by omega), show ((i : Int) - 1).toNat = i - 1 by omega] at h1
      show ∃ a, a = false ∧ Rl (fun k q => Lshuntref12_cellsRight_0 k q l n (if ((i : Nat) : Int) ≤ 0 then -1 else (l.getD (((i : Nat) : Int) - 1).toNat c0).1) i) (.inl a)
      generalize (if ((i : Nat) : Int) ≤ 0 then -1 else (l.getD (((i : Nat) : Int) - 1).toNat c0).1) = last at hno' ⊢
      refine ⟨false, rfl, Rl.up (f := fun k q => Lshuntref12_cellsRight_0 k q l n last i) ?_⟩
      show Rl (fun k q => Lshuntref12_cellsRight_0s k (Lshuntref12_cellsRight_0 k q) _ _ _ _) _
      unfold Lshuntref12_cellsRight_0s
      rw [wrap_i64 (x := (i : Int) + 1) (by omega)]
      refine Rl.t (by first | omega | (simp only [decide_eq_true_eq, decide_eq_false_iff_not, Int.toNat_natCast, beq_iff_eq, bne_iff_ne, ne_eq, Int.not_lt, Int.not_le, ge_iff_le, gt_iff_lt, beq_eq_false_iff_ne, Nat.zero_add]; omega)) (Rl.t (by first | omega | (simp only [decide_eq_true_eq, decide_eq_false_iff_not, Int.toNat_natCast, beq_iff_eq, bne_iff_ne, ne_eq, Int.not_lt, Int.not_le, ge_iff_le, gt_iff_lt, beq_eq_false_iff_ne, Nat.zero_add]; omega)) (Rl.at gi ?_))
      by_cases h1 : (l.getD i c0).1 ≤ last
      · exact Rl.f (by first | omega | (simp only [decide_eq_true_eq, decide_eq_false_iff_not, Int.toNat_natCast, beq_iff_eq, bne_iff_ne, ne_eq, Int.not_lt, Int.not_le, ge_iff_le, gt_iff_lt, beq_eq_false_iff_ne, Nat.zero_add]; omega)) (Rl.pure _)
      refine Rl.t (by first | omega | (simp only [decide_eq_true_eq, decide_eq_false_iff_not, Int.toNat_natCast, beq_iff_eq, bne_iff_ne, ne_eq, Int.not_lt, Int.not_le, ge_iff_le, gt_iff_lt, beq_eq_false_iff_ne, Nat.zero_add]; omega)) (Rl.t (by first | omega | (simp only [decide_eq_true_eq, decide_eq_false_iff_not, Int.toNat_natCast, beq_iff_eq, bne_iff_ne, ne_eq, Int.not_lt, Int.not_le, ge_iff_le, gt_iff_lt, beq_eq_false_iff_ne, Nat.zero_add]; omega)) (Rl.at gi ?_))
      by_cases h2 : n ≤ (l.getD i c0).1
      · exact Rl.f (by first | omega | (simp only [decide_eq_true_eq, decide_eq_false_iff_not, Int.toNat_natCast, beq_iff_eq, bne_iff_ne, ne_eq, Int.not_lt, Int.not_le, ge_iff_le, gt_iff_lt, beq_eq_false_iff_ne, Nat.zero_add]; omega)) (Rl.pure _)
      refine Rl.t (by first | omega | (simp only [decide_eq_true_eq, decide_eq_false_iff_not, Int.toNat_natCast, beq_iff_eq, bne_iff_ne, ne_eq, Int.not_lt, Int.not_le, ge_iff_le, gt_iff_lt, beq_eq_false_iff_ne, Nat.zero_add]; omega)) (Rl.t (by first | omega | (simp only [decide_eq_true_eq, decide_eq_false_iff_not, Int.toNat_natCast, beq_iff_eq, bne_iff_ne, ne_eq, Int.not_lt, Int.not_le, ge_iff_le, gt_iff_lt, beq_eq_false_iff_ne, Nat.zero_add]; omega)) (Rl.at gi ?_))
      by_cases h3 : Ri (l.getD i c0).2.1 (l.getD i c0).2.2
      · rw [decide_eq_true h3] at hch
        have h4 : (l.getD i c0).2.2 = [] := by
          by_cases h4 : (l.getD i c0).2.2 = []
          · exact h4
          · exact absurd ⟨by omega, by omega, h3, h4⟩ hno'
        exact Rl.bind hch (Rl.t (by simp) (Rl.t (by first | omega | (simp only [decide_eq_true_eq, decide_eq_false_iff_not, Int.toNat_natCast, beq_iff_eq, bne_iff_ne, ne_eq, Int.not_lt, Int.not_le, ge_iff_le, gt_iff_lt, beq_eq_false_iff_ne, Nat.zero_add]; omega)) (Rl.at gi (Rl.t (by rw [h4]; simp) (Rl.pure _)))))
      · rw [decide_eq_false h3] at hch
        exact Rl.bind hch (Rl.f (by simp) (Rl.pure _))
  have up : ∀ b, Rn (fun k => bshuntref12_cellsRight k l n) b → Rn (fun k => Fshuntref12_cellsRight k l n) b := fun b h => Rn.up (f := fun k => Fshuntref12_cellsRight k l n) h
  unfold bshuntref12_cellsRight at up
  rcases a2 with ⟨a2, rfl⟩ | ⟨a2, a, ha, rfl⟩
  · exact ⟨_, up _ (Rn.bind a1.diag (Rn.pure _)), by simp; exact a2⟩
  · exact ⟨_, up _ (Rn.bind a1.diag (Rn.pure _)), by rw [ha]; simp; exact a2⟩
theorem cells_both : ∃ b, Rn (fun k => Fsystem_cellsRight k l n) b ∧ Rn (fun k => Fshuntref12_cellsRight k l n) b ∧ (b = true ↔ OkC l n) := by
  obtain ⟨b, h1, h2⟩ := cells_p l n hd
  obtain ⟨b', k1, k2⟩ := cells_r l n hd
  have e : b = b' := by cases b <;> cases b' <;> simp_all
  subst e
  exact ⟨b, h1, k1, h2⟩
end
def r0 : Rw := ((false, []), [], [], [], false, [])
def DgI (a : Bool × List Int) : Prop := Dg W a.2 ∧ a.2.length ≤ 9223372036854775807
def DgRw (r : Rw) : Prop := DgI r.1 ∧ DgC r.2.1 ∧ DgC r.2.2.1 ∧ DgC r.2.2.2.1 ∧ DgI r.2.2.2.2
def DgS (s : List Rw) : Prop := s.length ≤ 1000000000000000000 ∧ ∀ r ∈ s, DgRw r
def okRw (n : Int) (r : Rw) : Prop := (Ri r.1.1 r.1.2 ∧ r.1.1 = false ∧ r.1.2 ≠ []) ∧ Ri r.2.2.2.2.1 r.2.2.2.2.2 ∧ OkC r.2.1 n ∧ OkC r.2.2.1 n ∧ OkC r.2.2.2.1 64
def OkS (s : List Rw) : Prop := s.length ≤ 48 ∧ ∀ j, 0 ≤ j → j < s.length → okRw s.length (s.getD j r0)
noncomputable instance (s : List Rw) : Decidable (OkS s) := Classical.propDecidable _
theorem nnil {l : List Int} (h : l ≠ []) : ((((l.length : Nat) : Int) == 0) = false) := by
  have : l.length ≠ 0 := fun e => h (List.length_eq_zero_iff.1 e)
  simp; exact h
section
variable (s : List Rw) (hd : DgS s)
include hd
theorem sys_p : Rn (fun k => Fsystem_Check k s) (if OkS s then 0 else 130) := by
  have hlen := hd.1
  have up : ∀ b, Rn (fun k => bsystem_Check k s) b → Rn (fun k => Fsystem_Check k s) b := fun b h => Rn.up (f := fun k => Fsystem_Check k s) h
  unfold bsystem_Check at up
  by_cases h48 : 48 < s.length
  · rw [if_neg fun h => by have := h.1; omega]
    exact up _ (Rn.t (by first | omega | (simp only [decide_eq_true_eq, decide_eq_false_iff_not, Int.toNat_natCast, beq_iff_eq, bne_iff_ne, ne_eq, Int.not_lt, Int.not_le, ge_iff_le, gt_iff_lt, beq_eq_false_iff_ne, Nat.zero_add]; omega)) (Rn.pure _))
  have e48 : OkS s ↔ ∀ j, 0 ≤ j → j < s.length → okRw s.length (s.getD j r0) := ⟨fun h => h.2, fun h => ⟨by omega, h⟩⟩
  obtain ⟨o, a1, a2⟩ : ∃ o, Rl (fun k q => Lsystem_Check_0 k q s.length s s.length ((0 : Nat) : Int)) o ∧
      ((∀ j, 0 ≤ j → j < s.length → okRw s.length (s.getD j r0)) ∧ o = .inr () ∨ (¬ ∀ j, 0 ≤ j → j < s.length → okRw s.length (s.getD j r0)) ∧ ∃ a : Int × Bool × List Int × List Cl × List Cl × List Cl × Bool × List Int, a.1 = 130 ∧ o = .inl a) := by
    refine scan s.length 0 (fun k q i => Lsystem_Check_0 k q s.length s s.length i) () (fun a : Int × Bool × List Int × List Cl × List Cl × List Cl × Bool × List Int => a.1 = 130) _ ?_ ?_ ?_ s.length 0 (by omega) (by omega)
    · refine Rl.up (f := fun k q => Lsystem_Check_0 k q s.length s s.length s.length) (Rl.of 0 fun k q _ => ?_)
      show Lsystem_Check_0s k (Lsystem_Check_0 k q) _ _ _ _ = _
      unfold Lsystem_Check_0s
      exact if_neg (by first | omega | (simp only [decide_eq_true_eq, decide_eq_false_iff_not, Int.toNat_natCast, beq_iff_eq, bne_iff_ne, ne_eq, Int.not_lt, Int.not_le, ge_iff_le, gt_iff_lt, beq_eq_false_iff_ne, Nat.zero_add]; omega))
    · intro i hs hi hok o ho
      have g := getD_some (l := s) r0 hi
      obtain ⟨d1, d2, d3, d4, d5⟩ := hd.2 _ (List.mem_of_getElem? g)
      have gi : s[Int.toNat (i : Int)]? = some (s.getD i r0) := by rw [toNat_c]; exact g
      generalize s.getD i r0 = r at *
      obtain ⟨⟨h1, h2, h3⟩, h4, h5, h6, h7⟩ := hok
      have c1 := check_ev r.1.1 _ d1.2 d1.1
      have c2 := check_ev r.2.2.2.2.1 _ d5.2 d5.1
      rw [if_pos h1] at c1
      rw [if_pos h4] at c2
      obtain ⟨b4, c4, _, e4⟩ := cells_both r.2.1 s.length d2
      obtain ⟨b5, c5, _, e5⟩ := cells_both r.2.2.1 s.length d3
      obtain ⟨b6, c6, _, e6⟩ := cells_both r.2.2.2.1 64 d4
      rw [e4.2 h5] at c4
      rw [e5.2 h6] at c5
      rw [e6.2 h7] at c6
      refine Rl.up (f := fun k q => Lsystem_Check_0 k q s.length s s.length i) ?_
      show Rl (fun k q => Lsystem_Check_0s k (Lsystem_Check_0 k q) _ _ _ _) _
      unfold Lsystem_Check_0s
      rw [wrap_i64 (x := (i : Int) + 1) (by omega)]
      exact Rl.t (by first | omega | (simp only [decide_eq_true_eq, decide_eq_false_iff_not, Int.toNat_natCast, beq_iff_eq, bne_iff_ne, ne_eq, Int.not_lt, Int.not_le, ge_iff_le, gt_iff_lt, beq_eq_false_iff_ne, Nat.zero_add]; omega)) (Rl.t (by first | omega | (simp only [decide_eq_true_eq, decide_eq_false_iff_not, Int.toNat_natCast, beq_iff_eq, bne_iff_ne, ne_eq, Int.not_lt, Int.not_le, ge_iff_le, gt_iff_lt, beq_eq_false_iff_ne, Nat.zero_add]; omega)) (Rl.at gi (Rl.bind c1 (Rl.t (by simp) (Rl.t h2 (Rl.t (nnil h3) (Rl.bind c2 (Rl.f (by simp) (Rl.bind c4 (Rl.t (by simp) (Rl.bind c5 (Rl.t (by simp) (Rl.bind c6 (Rl.f (by simp) ho))))))))))))))
    · intro i hs hi hno
      have g := getD_some (l := s) r0 hi
      obtain ⟨d1, d2, d3, d4, d5⟩ := hd.2 _ (List.mem_of_getElem? g)
      have gi : s[Int.toNat (i : Int)]? = some (s.getD i r0) := by rw [toNat_c]; exact g
      generalize s.getD i r0 = r at *
      have c1 := check_ev r.1.1 _ d1.2 d1.1
      have c2 := check_ev r.2.2.2.2.1 _ d5.2 d5.1
      obtain ⟨b4, c4, _, e4⟩ := cells_both r.2.1 s.length d2
      obtain ⟨b5, c5, _, e5⟩ := cells_both r.2.2.1 s.length d3
      obtain ⟨b6, c6, _, e6⟩ := cells_both r.2.2.2.1 64 d4
      refine ⟨(130, r.1.1, r.1.2, r.2.1, r.2.2.1, r.2.2.2.1, r.2.2.2.2.1, r.2.2.2.2.2), rfl, Rl.up (f := fun k q => Lsystem_Check_0 k q s.length s s.length i) ?_⟩
      show Rl (fun k q => Lsystem_Check_0s k (Lsystem_Check_0 k q) _ _ _ _) _
      unfold Lsystem_Check_0s
      refine Rl.t (by first | omega | (simp only [decide_eq_true_eq, decide_eq_false_iff_not, Int.toNat_natCast, beq_iff_eq, bne_iff_ne, ne_eq, Int.not_lt, Int.not_le, ge_iff_le, gt_iff_lt, beq_eq_false_iff_ne, Nat.zero_add]; omega)) (Rl.t (by first | omega | (simp only [decide_eq_true_eq, decide_eq_false_iff_not, Int.toNat_natCast, beq_iff_eq, bne_iff_ne, ne_eq, Int.not_lt, Int.not_le, ge_iff_le, gt_iff_lt, beq_eq_false_iff_ne, Nat.zero_add]; omega)) (Rl.at gi ?_))
      by_cases h1 : Ri r.1.1 r.1.2
      rotate_left
      · rw [if_neg h1] at c1
        exact Rl.bind c1 (Rl.f (by simp) (Rl.pure _))
      rw [if_pos h1] at c1
      refine Rl.bind c1 (Rl.t (by simp) ?_)
      by_cases h2 : r.1.1 = false
      rotate_left
      · exact Rl.f h2 (Rl.pure _)
      refine Rl.t h2 ?_
      by_cases h3 : r.1.2 = []
      · exact Rl.f (by rw [h3]; simp) (Rl.pure _)
      refine Rl.t (nnil h3) ?_
      by_cases h4 : Ri r.2.2.2.2.1 r.2.2.2.2.2
      rotate_left
      · rw [if_neg h4] at c2
        exact Rl.bind c2 (Rl.t (by simp) (Rl.pure _))
      rw [if_pos h4] at c2
      refine Rl.bind c2 (Rl.f (by simp) (Rl.bind c4 ?_))
      cases b4 with
      | false => exact Rl.f (by simp) (Rl.pure _)
      | true =>
        refine Rl.t (by simp) (Rl.bind c5 ?_)
        cases b5 with
        | false => exact Rl.f (by simp) (Rl.pure _)
        | true =>
          refine Rl.t (by simp) (Rl.bind c6 ?_)
          cases b6 with
          | false => exact Rl.t (by simp) (Rl.pure _)
          | true => exact absurd ⟨⟨h1, h2, h3⟩, h4, e4.1 rfl, e5.1 rfl, e6.1 rfl⟩ hno
  rcases a2 with ⟨a2, rfl⟩ | ⟨a2, a, ha, rfl⟩
  · rw [if_pos (e48.2 a2)]
    exact up _ (Rn.f (by first | omega | (simp only [decide_eq_true_eq, decide_eq_false_iff_not, Int.toNat_natCast, beq_iff_eq, bne_iff_ne, ne_eq, Int.not_lt, Int.not_le, ge_iff_le, gt_iff_lt, beq_eq_false_iff_ne, Nat.zero_add]; omega)) (Rn.bind a1.diag (Rn.pure _)))
  · rw [if_neg fun h => a2 h.2]
    refine up _ (Rn.f (by first | omega | (simp only [decide_eq_true_eq, decide_eq_false_iff_not, Int.toNat_natCast, beq_iff_eq, bne_iff_ne, ne_eq, Int.not_lt, Int.not_le, ge_iff_le, gt_iff_lt, beq_eq_false_iff_ne, Nat.zero_add]; omega)) (Rn.bind a1.diag ?_))
    simp only [eitherK]
    rw [ha]
    exact Rn.pure _
theorem sys_r : Rn (fun k => Fshuntref12_Check k s) (if OkS s then 0 else 130) := by
  have hlen := hd.1
  have up : ∀ b, Rn (fun k => bshuntref12_Check k s) b → Rn (fun k => Fshuntref12_Check k s) b := fun b h => Rn.up (f := fun k => Fshuntref12_Check k s) h
  unfold bshuntref12_Check at up
  by_cases h48 : 48 < s.length
  · rw [if_neg fun h => by have := h.1; omega]
    exact up _ (Rn.t (by first | omega | (simp only [decide_eq_true_eq, decide_eq_false_iff_not, Int.toNat_natCast, beq_iff_eq, bne_iff_ne, ne_eq, Int.not_lt, Int.not_le, ge_iff_le, gt_iff_lt, beq_eq_false_iff_ne, Nat.zero_add]; omega)) (Rn.pure _))
  have e48 : OkS s ↔ ∀ j, 0 ≤ j → j < s.length → okRw s.length (s.getD j r0) := ⟨fun h => h.2, fun h => ⟨by omega, h⟩⟩
  obtain ⟨o, a1, a2⟩ : ∃ o, Rl (fun k q => Lshuntref12_Check_0 k q s.length ((0 : Nat) : Int) s) o ∧
      ((∀ j, 0 ≤ j → j < s.length → okRw s.length (s.getD j r0)) ∧ o = .inr s ∨ (¬ ∀ j, 0 ≤ j → j < s.length → okRw s.length (s.getD j r0)) ∧ ∃ a : Int × List Rw × Bool × List Int × List Cl × List Cl × List Cl × Bool × List Int, a.1 = 130 ∧ o = .inl a) := by
    refine scan s.length 0 (fun k q i => Lshuntref12_Check_0 k q s.length i s) s (fun a : Int × List Rw × Bool × List Int × List Cl × List Cl × List Cl × Bool × List Int => a.1 = 130) _ ?_ ?_ ?_ s.length 0 (by omega) (by omega)
    · refine Rl.up (f := fun k q => Lshuntref12_Check_0 k q s.length s.length s) (Rl.of 0 fun k q _ => ?_)
      show Lshuntref12_Check_0s k (Lshuntref12_Check_0 k q) _ _ _ = _
      unfold Lshuntref12_Check_0s
      exact if_neg (by first | omega | (simp only [decide_eq_true_eq, decide_eq_false_iff_not, Int.toNat_natCast, beq_iff_eq, bne_iff_ne, ne_eq, Int.not_lt, Int.not_le, ge_iff_le, gt_iff_lt, beq_eq_false_iff_ne, Nat.zero_add]; omega))
    · intro i hs hi hok o ho
      have g := getD_some (l := s) r0 hi
      obtain ⟨d1, d2, d3, d4, d5⟩ := hd.2 _ (List.mem_of_getElem? g)
      have gi : s[Int.toNat (i : Int)]? = some (s.getD i r0) := by rw [toNat_c]; exact g
      generalize s.getD i r0 = r at *
      obtain ⟨⟨h1, h2, h3⟩, h4, h5, h6, h7⟩ := hok
      have c1 := right_ev r.1.1 _ d1.2 d1.1
      have c2 := right_ev r.2.2.2.2.1 _ d5.2 d5.1
      rw [decide_eq_true h1] at c1
      rw [decide_eq_true h4] at c2
      obtain ⟨b1, sg, t1, t2, t3⟩ := takeS_ev r.1.1 r.1.2 d1.1 h1
      have hsg : ¬ sg ≤ 0 := fun h => t3.1 h ⟨h2, h3⟩
      obtain ⟨b4, _, c4, e4⟩ := cells_both r.2.1 s.length d2
      obtain ⟨b5, _, c5, e5⟩ := cells_both r.2.2.1 s.length d3
      obtain ⟨b6, _, c6, e6⟩ := cells_both r.2.2.2.1 64 d4
      rw [e4.2 h5] at c4
      rw [e5.2 h6] at c5
      rw [e6.2 h7] at c6
      refine Rl.up (f := fun k q => Lshuntref12_Check_0 k q s.length i s) ?_
      show Rl (fun k q => Lshuntref12_Check_0s k (Lshuntref12_Check_0 k q) _ _ _) _
      unfold Lshuntref12_Check_0s
      rw [wrap_i64 (x := (i : Int) + 1) (by omega)]
      exact Rl.t (by first | omega | (simp only [decide_eq_true_eq, decide_eq_false_iff_not, Int.toNat_natCast, beq_iff_eq, bne_iff_ne, ne_eq, Int.not_lt, Int.not_le, ge_iff_le, gt_iff_lt, beq_eq_false_iff_ne, Nat.zero_add]; omega)) (Rl.t (by first | omega | (simp only [decide_eq_true_eq, decide_eq_false_iff_not, Int.toNat_natCast, beq_iff_eq, bne_iff_ne, ne_eq, Int.not_lt, Int.not_le, ge_iff_le, gt_iff_lt, beq_eq_false_iff_ne, Nat.zero_add]; omega)) (Rl.at gi (Rl.bind c1 (Rl.t (by simp) (Rl.bind t1 (Rl.bind t2 (Rl.t (by first | omega | (simp only [decide_eq_true_eq, decide_eq_false_iff_not, Int.toNat_natCast, beq_iff_eq, bne_iff_ne, ne_eq, Int.not_lt, Int.not_le, ge_iff_le, gt_iff_lt, beq_eq_false_iff_ne, Nat.zero_add]; omega)) (Rl.bind c2 (Rl.t (by simp) (Rl.bind c4 (Rl.t (by simp) (Rl.bind c5 (Rl.t (by simp) (Rl.bind c6 (Rl.f (by simp) ho)))))))))))))))
    · intro i hs hi hno
      have g := getD_some (l := s) r0 hi
      obtain ⟨d1, d2, d3, d4, d5⟩ := hd.2 _ (List.mem_of_getElem? g)
      have gi : s[Int.toNat (i : Int)]? = some (s.getD i r0) := by rw [toNat_c]; exact g
      generalize s.getD i r0 = r at *
      have c1 := right_ev r.1.1 _ d1.2 d1.1
      have c2 := right_ev r.2.2.2.2.1 _ d5.2 d5.1
      obtain ⟨b4, _, c4, e4⟩ := cells_both r.2.1 s.length d2
      obtain ⟨b5, _, c5, e5⟩ := cells_both r.2.2.1 s.length d3
      obtain ⟨b6, _, c6, e6⟩ := cells_both r.2.2.2.1 64 d4
      refine ⟨(130, s, r.1.1, r.1.2, r.2.1, r.2.2.1, r.2.2.2.1, r.2.2.2.2.1, r.2.2.2.2.2), rfl, Rl.up (f := fun k q => Lshuntref12_Check_0 k q s.length i s) ?_⟩
      show Rl (fun k q => Lshuntref12_Check_0s k (Lshuntref12_Check_0 k q) _ _ _) _
      unfold Lshuntref12_Check_0s
      refine Rl.t (by first | omega | (simp only [decide_eq_true_eq, decide_eq_false_iff_not, Int.toNat_natCast, beq_iff_eq, bne_iff_ne, ne_eq, Int.not_lt, Int.not_le, ge_iff_le, gt_iff_lt, beq_eq_false_iff_ne, Nat.zero_add]; omega)) (Rl.t (by first | omega | (simp only [decide_eq_true_eq, decide_eq_false_iff_not, Int.toNat_natCast, beq_iff_eq, bne_iff_ne, ne_eq, Int.not_lt, Int.not_le, ge_iff_le, gt_iff_lt, beq_eq_false_iff_ne, Nat.zero_add]; omega)) (Rl.at gi ?_))
      by_cases h1 : Ri r.1.1 r.1.2
      rotate_left
      · rw [decide_eq_false h1] at c1
        exact Rl.bind c1 (Rl.f (by simp) (Rl.pure _))
      rw [decide_eq_true h1] at c1
      obtain ⟨b1, sg, t1, t2, t3⟩ := takeS_ev r.1.1 r.1.2 d1.1 h1
      refine Rl.bind c1 (Rl.t (by simp) (Rl.bind t1 (Rl.bind t2 ?_)))
      by_cases hsg : sg ≤ 0
      · exact Rl.f (by first | omega | (simp only [decide_eq_true_eq, decide_eq_false_iff_not, Int.toNat_natCast, beq_iff_eq, bne_iff_ne, ne_eq, Int.not_lt, Int.not_le, ge_iff_le, gt_iff_lt, beq_eq_false_iff_ne, Nat.zero_add]; omega)) (Rl.pure _)
      have h23 : r.1.1 = false ∧ r.1.2 ≠ [] := Decidable.byContradiction fun h => hsg (t3.2 h)
      refine Rl.t (by first | omega | (simp only [decide_eq_true_eq, decide_eq_false_iff_not, Int.toNat_natCast, beq_iff_eq, bne_iff_ne, ne_eq, Int.not_lt, Int.not_le, ge_iff_le, gt_iff_lt, beq_eq_false_iff_ne, Nat.zero_add]; omega)) (Rl.bind c2 ?_)
      by_cases h4 : Ri r.2.2.2.2.1 r.2.2.2.2.2
      rotate_left
      · rw [decide_eq_false h4]
        exact Rl.f (by simp) (Rl.pure _)
      rw [decide_eq_true h4]
      refine Rl.t (by simp) (Rl.bind c4 ?_)
      cases b4 with
      | false => exact Rl.f (by simp) (Rl.pure _)
      | true =>
        refine Rl.t (by simp) (Rl.bind c5 ?_)
        cases b5 with
        | false => exact Rl.f (by simp) (Rl.pure _)
        | true =>
          refine Rl.t (by simp) (Rl.bind c6 ?_)
          cases b6 with
          | false => exact Rl.t (by simp) (Rl.pure _)
          | true => exact absurd ⟨⟨h1, h23.1, h23.2⟩, h4, e4.1 rfl, e5.1 rfl, e6.1 rfl⟩ hno
  rcases a2 with ⟨a2, rfl⟩ | ⟨a2, a, ha, rfl⟩
  · rw [if_pos (e48.2 a2)]
    exact up _ (Rn.f (by first | omega | (simp only [decide_eq_true_eq, decide_eq_false_iff_not, Int.toNat_natCast, beq_iff_eq, bne_iff_ne, ne_eq, Int.not_lt, Int.not_le, ge_iff_le, gt_iff_lt, beq_eq_false_iff_ne, Nat.zero_add]; omega)) (Rn.bind a1.diag (Rn.pure _)))
  · rw [if_neg fun h => a2 h.2]
    refine up _ (Rn.f (by first | omega | (simp only [decide_eq_true_eq, decide_eq_false_iff_not, Int.toNat_natCast, beq_iff_eq, bne_iff_ne, ne_eq, Int.not_lt, Int.not_le, ge_iff_le, gt_iff_lt, beq_eq_false_iff_ne, Nat.zero_add]; omega)) (Rn.bind a1.diag ?_))
    simp only [eitherK]
    rw [ha]
    exact Rn.pure _
end
/-- A system's pattern. -/
def ptO (s : List Rw) : List (List Int) := s.map fun r => r.2.1.map (·.1)
theorem okC_row {l : List Cl} {n : Nat} (h : OkC l n) : OkR n (l.map (·.1)) := by
  have hnn := fun j hj => okC_nn l.length (fun j h1 h2 => h j h1 h2) j hj
  have hg : ∀ j, j < l.length → (l.map (·.1)).getD j 0 = (l.getD j c0).1 := fun j hj => by
    rw [List.getD_eq_getElem?_getD, List.getD_eq_getElem?_getD, List.getElem?_map, List.getElem?_eq_getElem hj]; rfl
  refine ⟨inc_steps.2 fun j h0 hj => ?_, mem_getD.2 fun j hj => ?_⟩
  · rw [List.length_map] at hj
    rw [hg j hj, hg (j - 1) (by omega)]
    have := (h j (Nat.zero_le _) hj).1
    rwa [if_neg (by omega)] at this
  · rw [List.length_map] at hj
    rw [hg j hj]
    exact ⟨hnn j hj, (h j (Nat.zero_le _) hj).2.1⟩
theorem getD_map {α β : Type} (f : α → β) (l : List α) {i : Nat} (d : α) (e : β) (h : i < l.length) : (l.map f).getD i e = f (l.getD i d) := by
  rw [List.getD_eq_getElem?_getD, List.getD_eq_getElem?_getD, List.getElem?_map, List.getElem?_eq_getElem h]; rfl
theorem take_snoc' {α : Type} (l : List α) {i : Nat} (d : α) (h : i < l.length) : l.take (i + 1) = l.take i ++ [l.getD i d] := by
  rw [List.take_add_one, getD_some d h]; rfl
theorem ofp2 (p i : Nat) (x : List Rw) (x1 x2 : Int) (l : List Cl) (hl : l.length ≤ 1000000) (ps : List (List Int)) (hp : ps.length = p) (hi : i < p) (h0 : ps[i]? = some []) :
    Rl (fun k q => Lsparse_Of_2 k q p i x x1 x2 l l.length ((0 : Nat) : Int) ps) (p, x, x1, x2, ps.set i (l.map (·.1))) := by
  obtain ⟨o, rfl, h⟩ : ∃ o, o = (p, x, x1, x2, ps.set i (l.map (·.1))) ∧ Rl (fun k q => Lsparse_Of_2 k q p i x x1 x2 l l.length ((0 : Nat) : Int) ps) o := by
    refine loopI (σ := List (List Int)) l.length (fun k q j s => Lsparse_Of_2 k q p i x x1 x2 l l.length j s) (fun j s => s = ps.set i ((l.map (·.1)).take j)) _ ?_ ?_ l.length 0 ps (by omega) ?_
    · rintro _ rfl
      refine ⟨_, rfl, Rl.up (f := fun k q => Lsparse_Of_2 k q p i x x1 x2 l l.length l.length (ps.set i ((l.map (·.1)).take l.length))) (Rl.of 0 fun k q _ => ?_)⟩
      show Lsparse_Of_2s k (Lsparse_Of_2 k q) _ _ _ _ _ _ _ _ _ = _
      unfold Lsparse_Of_2s
      rw [show (l.map (·.1)).take l.length = l.map (·.1) from List.take_of_length_le (by simp)]
      exact if_neg (by first | omega | (simp only [decide_eq_true_eq, decide_eq_false_iff_not, Int.toNat_natCast, beq_iff_eq, bne_iff_ne, ne_eq, Int.not_lt, Int.not_le, ge_iff_le, gt_iff_lt, beq_eq_false_iff_ne, Nat.zero_add]; omega))
    · rintro j _ hj rfl
      have g := getD_some (l := l) c0 hj
      have hs : (l.map (·.1)).take (j + 1) = (l.map (·.1)).take j ++ [(l.getD j c0).1] := by rw [take_snoc' _ (0 : Int) (by simpa using hj), getD_map (·.1) l c0 0 hj]
      have g2 : (ps.set i ((l.map (·.1)).take j))[Int.toNat (i : Int)]? = some ((l.map (·.1)).take j) := by rw [toNat_c, List.getElem?_set_self (by omega)]
      have hX : ((l.map (·.1)).take j).length = j := by rw [List.length_take, List.length_map]; omega
      have hps : (ps.set i ((l.map (·.1)).take j)).length = p := by simpa using hp
      refine .inr ⟨_, rfl, fun o ho => Rl.up (f := fun k q => Lsparse_Of_2 k q p i x x1 x2 l l.length j (ps.set i ((l.map (·.1)).take j))) ?_⟩
      rw [hs] at ho
      generalize hX' : (l.map (·.1)).take j = X at *
      generalize l.getD j c0 = c at *
      have hv : List.take (X.length + (List.take 1 [c.1]).length) (List.take X.length X ++ List.take 1 [c.1]) = X ++ [c.1] := by
        rw [List.take_length, List.take_of_length_le (by simp)]; rfl
      show Rl (fun k q => Lsparse_Of_2s k (Lsparse_Of_2 k q) _ _ _ _ _ _ _ _ _) _
      unfold Lsparse_Of_2s
      rw [wrap_i64 (x := (j : Int) + 1) (by omega)]
      refine Rl.t (by first | omega | (simp only [decide_eq_true_eq, decide_eq_false_iff_not, Int.toNat_natCast, beq_iff_eq, bne_iff_ne, ne_eq, Int.not_lt, Int.not_le, ge_iff_le, gt_iff_lt, beq_eq_false_iff_ne, Nat.zero_add]; omega)) (Rl.t (by first | omega | (simp only [decide_eq_true_eq, decide_eq_false_iff_not, Int.toNat_natCast, beq_iff_eq, bne_iff_ne, ne_eq, Int.not_lt, Int.not_le, ge_iff_le, gt_iff_lt, beq_eq_false_iff_ne, Nat.zero_add]; omega)) (Rl.at (by rw [toNat_c]; exact g) (Rl.t (g := fun _ _ => none) ⟨by omega, by omega⟩ (Rl.at g2 (Rl.t (g := fun _ _ => none) (Nat.le_refl _) (Rl.t (g := fun _ _ => none) (by simp only [List.length_take, List.length_cons, List.length_nil]; omega) (Rl.t (g := fun _ _ => none) ⟨by omega, by omega⟩ (Rl.t (g := fun _ _ => none) rfl (Rl.t (g := fun _ _ => none) (by rw [hps]; omega) (Rl.t (g := fun _ _ => none) (by simp) ?_))))))))))
      rw [hv, toNat_c, tset_eq (by rw [hps]; omega), List.set_set]
      exact ho
    · show ps = ps.set i []
      apply List.ext_getElem?
      intro a
      rw [List.getElem?_set]
      split
      · rename_i h; subst h; rw [if_pos (by omega)]; exact h0
      · rfl
  exact h
section
variable (s : List Rw) (h48 : s.length ≤ 48) (hA : ∀ r ∈ s, r.2.1.length ≤ 1000)
include h48 hA
theorem ofp0 : Rl (fun k q => Lsparse_Of_0 k q s.length s s.length ((0 : Nat) : Int) (List.replicate s.length [])) (s.length, ptO s) := by
  obtain ⟨o, rfl, h⟩ : ∃ o, o = (s.length, ptO s) ∧ Rl (fun k q => Lsparse_Of_0 k q s.length s s.length ((0 : Nat) : Int) (List.replicate s.length [])) o := by
    refine loopI (σ := List (List Int)) s.length (fun k q i ps => Lsparse_Of_0 k q s.length s s.length i ps) (fun i ps => ps.length = s.length ∧ ∀ a, a < s.length → ps[a]? = some (if a < i then (s.getD a r0).2.1.map (·.1) else [])) _ ?_ ?_ s.length 0 _ (by omega) ⟨by simp, fun a ha => by simp [ha]⟩
    · rintro ps ⟨h1, h2⟩
      have e : ps = ptO s := by
        apply List.ext_getElem?
        intro a
        by_cases ha : a < s.length
        · rw [h2 a ha, if_pos ha]
          unfold ptO
          rw [List.getElem?_map, getD_some r0 ha]; rfl
        · rw [List.getElem?_eq_none (by omega), List.getElem?_eq_none (by unfold ptO; rw [List.length_map]; omega)]
      subst e
      refine ⟨_, rfl, Rl.up (f := fun k q => Lsparse_Of_0 k q s.length s s.length s.length (ptO s)) (Rl.of 0 fun k q _ => ?_)⟩
      show Lsparse_Of_0s k (Lsparse_Of_0 k q) _ _ _ _ _ = _
      unfold Lsparse_Of_0s
      exact if_neg (by first | omega | (simp only [decide_eq_true_eq, decide_eq_false_iff_not, Int.toNat_natCast, beq_iff_eq, bne_iff_ne, ne_eq, Int.not_lt, Int.not_le, ge_iff_le, gt_iff_lt, beq_eq_false_iff_ne, Nat.zero_add]; omega))
    · rintro i ps hi ⟨h1, h2⟩
      have g := getD_some (l := s) r0 hi
      have hl := hA _ (List.mem_of_getElem? g)
      refine .inr ⟨ps.set i ((s.getD i r0).2.1.map (·.1)), ⟨by simpa using h1, fun a ha => ?_⟩, fun o ho => Rl.up (f := fun k q => Lsparse_Of_0 k q s.length s s.length i ps) ?_⟩
      · rw [List.getElem?_set]
        by_cases e : i = a
        · subst e
          rw [if_pos rfl, if_pos (by omega), if_pos (by omega)]
        · rw [if_neg e, h2 a ha]
          by_cases e2 : a < i
          · rw [if_pos e2, if_pos (by omega)]
          · rw [if_neg e2, if_neg (by omega)]
      · have h3 := (ofp2 s.length i s s.length i (s.getD i r0).2.1 (by omega) ps h1 hi (by rw [h2 i hi, if_neg (by omega)])).diag
        show Rl (fun k q => Lsparse_Of_0s k (Lsparse_Of_0 k q) _ _ _ _ _) _
        unfold Lsparse_Of_0s
        refine Rl.t (by first | omega | (simp only [decide_eq_true_eq, decide_eq_false_iff_not, Int.toNat_natCast, beq_iff_eq, bne_iff_ne, ne_eq, Int.not_lt, Int.not_le, ge_iff_le, gt_iff_lt, beq_eq_false_iff_ne, Nat.zero_add]; omega)) (Rl.t (by first | omega | (simp only [decide_eq_true_eq, decide_eq_false_iff_not, Int.toNat_natCast, beq_iff_eq, bne_iff_ne, ne_eq, Int.not_lt, Int.not_le, ge_iff_le, gt_iff_lt, beq_eq_false_iff_ne, Nat.zero_add]; omega)) (Rl.at (by rw [toNat_c]; exact g) (Rl.bind h3 ?_)))
        simp only
        rw [wrap_i64 (by omega)]
        exact ho
  exact h
theorem ofr2 (P : Nat) (i : Nat) (hi : i < s.length) (ps : List (List Int)) :
    Rl (fun k q => Lshuntref13_Of_2 k q P i 0 ((0 : Nat) : Int) s ps []) (P, (i : Int), ((s.getD i r0).2.1.map (·.1)).length, s, ps, (s.getD i r0).2.1.map (·.1)) := by
  have g := getD_some (l := s) r0 hi
  have hl := hA _ (List.mem_of_getElem? g)
  have gi : s[Int.toNat (i : Int)]? = some (s.getD i r0) := by rw [toNat_c]; exact g
  generalize s.getD i r0 = r at *
  have hm : ((r.2.1.map (·.1)).take r.2.1.length) = r.2.1.map (·.1) := List.take_of_length_le (by simp)
  have hml : (r.2.1.map (·.1)).length = r.2.1.length := by simp
  obtain ⟨o, rfl, h⟩ : ∃ o, o = (P, (i : Int), (r.2.1.map (·.1)).length, s, ps, r.2.1.map (·.1)) ∧ Rl (fun k q => Lshuntref13_Of_2 k q P i 0 ((0 : Nat) : Int) s ps []) o := by
    refine loopI (σ := List Int) r.2.1.length (fun k q j rs => Lshuntref13_Of_2 k q P i rs.length j s ps rs) (fun j rs => rs = (r.2.1.map (·.1)).take j) _ ?_ ?_ r.2.1.length 0 [] (by omega) (by simp)
    · rintro _ rfl
      rw [hm]
      refine ⟨_, rfl, Rl.up (f := fun k q => Lshuntref13_Of_2 k q P i (r.2.1.map (·.1)).length r.2.1.length s ps (r.2.1.map (·.1))) ?_⟩
      show Rl (fun k q => Lshuntref13_Of_2s k (Lshuntref13_Of_2 k q) _ _ _ _ _ _ _) _
      unfold Lshuntref13_Of_2s
      exact Rl.t (by first | omega | (simp only [decide_eq_true_eq, decide_eq_false_iff_not, Int.toNat_natCast, beq_iff_eq, bne_iff_ne, ne_eq, Int.not_lt, Int.not_le, ge_iff_le, gt_iff_lt, beq_eq_false_iff_ne, Nat.zero_add]; omega)) (Rl.at gi (Rl.f (by simp) (Rl.pure _)))
    · rintro j _ hj rfl
      have g2 := getD_some (l := r.2.1) c0 hj
      have hs : (r.2.1.map (·.1)).take (j + 1) = (r.2.1.map (·.1)).take j ++ [(r.2.1.getD j c0).1] := by rw [take_snoc' _ (0 : Int) (by simpa using hj), getD_map (·.1) r.2.1 c0 0 hj]
      have hX : ((r.2.1.map (·.1)).take j).length = j := by rw [List.length_take, hml]; omega
      refine .inr ⟨_, rfl, fun o ho => Rl.up (f := fun k q => Lshuntref13_Of_2 k q P i ((r.2.1.map (·.1)).take j).length j s ps ((r.2.1.map (·.1)).take j)) ?_⟩
      rw [hs] at ho
      generalize (r.2.1.map (·.1)).take j = X at *
      generalize r.2.1.getD j c0 = c at *
      have e1 : (List.take 1 [c.1]).length = 1 := rfl
      have e2 : List.take 1 [c.1] = [c.1] := rfl
      rw [List.length_append, List.length_singleton] at ho
      show Rl (fun k q => Lshuntref13_Of_2s k (Lshuntref13_Of_2 k q) _ _ _ _ _ _ _) _
      unfold Lshuntref13_Of_2s
      rw [wrap_i64 (x := (j : Int) + 1) (by omega)]
      refine Rl.t (by first | omega | (simp only [decide_eq_true_eq, decide_eq_false_iff_not, Int.toNat_natCast, beq_iff_eq, bne_iff_ne, ne_eq, Int.not_lt, Int.not_le, ge_iff_le, gt_iff_lt, beq_eq_false_iff_ne, Nat.zero_add]; omega)) (Rl.at gi (Rl.t (by first | omega | (simp only [decide_eq_true_eq, decide_eq_false_iff_not, Int.toNat_natCast, beq_iff_eq, bne_iff_ne, ne_eq, Int.not_lt, Int.not_le, ge_iff_le, gt_iff_lt, beq_eq_false_iff_ne, Nat.zero_add]; omega)) (Rl.t (by first | omega | (simp only [decide_eq_true_eq, decide_eq_false_iff_not, Int.toNat_natCast, beq_iff_eq, bne_iff_ne, ne_eq, Int.not_lt, Int.not_le, ge_iff_le, gt_iff_lt, beq_eq_false_iff_ne, Nat.zero_add]; omega)) (Rl.at gi (Rl.t (by first | omega | (simp only [decide_eq_true_eq, decide_eq_false_iff_not, Int.toNat_natCast, beq_iff_eq, bne_iff_ne, ne_eq, Int.not_lt, Int.not_le, ge_iff_le, gt_iff_lt, beq_eq_false_iff_ne, Nat.zero_add]; omega)) (Rl.at (by rw [toNat_c]; exact g2) (Rl.t (g := fun _ _ => none) (Nat.le_refl _) (Rl.t (g := fun _ _ => none) (by rw [e1]; omega) ?_))))))))
      rw [e1, e2, List.take_length]
      exact ho
  exact h
theorem ofr0 : Rl (fun k q => Lshuntref13_Of_0 k q 0 ((0 : Nat) : Int) s []) (s.length, s, ptO s) := by
  have hpl : (ptO s).length = s.length := by simp [ptO]
  obtain ⟨o, rfl, h⟩ : ∃ o, o = (s.length, s, ptO s) ∧ Rl (fun k q => Lshuntref13_Of_0 k q 0 ((0 : Nat) : Int) s []) o := by
    refine loopI (σ := List (List Int)) s.length (fun k q i ps => Lshuntref13_Of_0 k q ps.length i s ps) (fun i ps => ps = (ptO s).take i) _ ?_ ?_ s.length 0 [] (by omega) (by simp)
    · rintro _ rfl
      have e : (ptO s).take s.length = ptO s := by rw [← hpl]; exact List.take_length
      rw [e]
      refine ⟨_, rfl, Rl.up (f := fun k q => Lshuntref13_Of_0 k q (ptO s).length s.length s (ptO s)) (Rl.of 0 fun k q _ => ?_)⟩
      show Lshuntref13_Of_0s k (Lshuntref13_Of_0 k q) _ _ _ _ = _
      unfold Lshuntref13_Of_0s
      rw [hpl]
      exact if_neg (by first | omega | (simp only [decide_eq_true_eq, decide_eq_false_iff_not, Int.toNat_natCast, beq_iff_eq, bne_iff_ne, ne_eq, Int.not_lt, Int.not_le, ge_iff_le, gt_iff_lt, beq_eq_false_iff_ne, Nat.zero_add]; omega))
    · rintro i _ hi rfl
      have hts : (ptO s).take (i + 1) = (ptO s).take i ++ [(s.getD i r0).2.1.map (·.1)] := by
        rw [take_snoc' _ ([] : List Int) (by omega)]
        unfold ptO
        rw [getD_map _ s r0 [] hi]
      have hX : ((ptO s).take i).length = i := by rw [List.length_take]; omega
      refine .inr ⟨_, rfl, fun o ho => Rl.up (f := fun k q => Lshuntref13_Of_0 k q ((ptO s).take i).length i s ((ptO s).take i)) ?_⟩
      rw [hts] at ho
      generalize (ptO s).take i = X at *
      have h3 := (ofr2 s h48 hA X.length i hi X).diag
      generalize (s.getD i r0).2.1.map (·.1) = y at *
      have e1 : (List.take 1 [y]).length = 1 := rfl
      have e2 : List.take 1 [y] = [y] := rfl
      rw [List.length_append, List.length_singleton] at ho
      show Rl (fun k q => Lshuntref13_Of_0s k (Lshuntref13_Of_0 k q) _ _ _ _) _
      unfold Lshuntref13_Of_0s
      refine Rl.t (by first | omega | (simp only [decide_eq_true_eq, decide_eq_false_iff_not, Int.toNat_natCast, beq_iff_eq, bne_iff_ne, ne_eq, Int.not_lt, Int.not_le, ge_iff_le, gt_iff_lt, beq_eq_false_iff_ne, Nat.zero_add]; omega)) (Rl.bind h3 ?_)
      simp only [List.take_length, e1, e2, List.length_singleton]
      rw [wrap_i64 (x := (i : Int) + 1) (by omega)]
      exact Rl.t (g := fun _ _ => none) (by omega) (Rl.t (g := fun _ _ => none) (Nat.le_refl _) (Rl.t (g := fun _ _ => none) (by omega) ho))
  exact h
end
theorem Of_both (s : List Rw) (hd : DgS s) (hA : ∀ r ∈ s, r.2.1.length ≤ 1000) :
    (Rn (fun k => Fsparse_Of k s) ([], 130) ∧ Rn (fun k => Fshuntref13_Of k s) ([], 130)) ∨ (Rn (fun k => Fsparse_Of k s) (ptO s, 0) ∧ Rn (fun k => Fshuntref13_Of k s) (ptO s, 0) ∧ OkP (ptO s)) := by
  have u1 : ∀ o, Rn (fun k => bsparse_Of k s) o → Rn (fun k => Fsparse_Of k s) o := fun o h => Rn.up (f := fun k => Fsparse_Of k s) h
  have u2 : ∀ o, Rn (fun k => bshuntref13_Of k s) o → Rn (fun k => Fshuntref13_Of k s) o := fun o h => Rn.up (f := fun k => Fshuntref13_Of k s) h
  unfold bsparse_Of at u1
  unfold bshuntref13_Of at u2
  have c1 := sys_p s hd
  have c2 := sys_r s hd
  by_cases h : OkS s
  · rw [if_pos h] at c1 c2
    have h48 := h.1
    have hpl : (ptO s).length = s.length := by simp [ptO]
    refine .inr ⟨u1 _ (Rn.bind c1 (Rn.f (by simp) (Rn.t (g := fun _ => none) ⟨by omega, by omega, by omega⟩ ?_))), u2 _ (Rn.bind c2 (Rn.f (by simp) (Rn.bind (ofr0 s h48 hA).diag ?_))), ⟨by omega, fun r hr => ?_⟩⟩
    · rw [toNat_c]
      refine Rn.bind (ofp0 s h48 hA).diag (Rn.t (g := fun _ => none) (by simp only [hpl]; omega) (Rn.const ?_))
      simp only
      rw [← hpl, List.take_length]
    · refine Rn.t (g := fun _ => none) (by simp only [hpl]; omega) (Rn.const ?_)
      simp only
      rw [← hpl, List.take_length]
    · rw [hpl]
      obtain ⟨q, hq, rfl⟩ := List.mem_map.1 hr
      obtain ⟨j, hj, rfl⟩ := List.mem_iff_getElem.1 hq
      have := h.2 j (Nat.zero_le _) hj
      rw [List.getD_eq_getElem?_getD, List.getElem?_eq_getElem hj] at this
      exact okC_row this.2.2.1
  · rw [if_neg h] at c1 c2
    exact .inl ⟨u1 _ (Rn.bind c1 (Rn.t (by simp) (Rn.pure _))), u2 _ (Rn.bind c2 (Rn.t (by simp) (Rn.pure _)))⟩
abbrev p0 : List (List Int) := [[0, 1, 2], [0, 1], [0, 2]]
theorem elim_c {p q : List (List Int)} (h : OkP p) {n r c f : Nat} (hn : n = p.length) (hr : r < n) (hc : c < n) (e1 : pat n (el (mp p) r c) = q) (e2 : flS n (mp p) r c n = f) : Rn (fun k => Fsparse_eliminate k p (r : Int) (c : Int)) (q, (f : Int)) := by
  subst hn
  have := elim_ev (mp p) h.1 hr hc
  rw [← okP_pat h, e1, e2] at this
  exact this
theorem el_a : Rn (fun k => Fsparse_eliminate k p0 1 1) ([[0, 2], [], [0, 2]], 0) := elim_c (n := 3) (r := 1) (c := 1) (f := 0) (by decide) rfl (by decide) (by decide) (by decide) (by decide)
theorem el_b : Rn (fun k => Fsparse_eliminate k [[0, 2], [], [0, 2]] 0 0) ([[], [], [2]], 0) := elim_c (n := 3) (r := 0) (c := 0) (f := 0) (by decide) rfl (by decide) (by decide) (by decide) (by decide)
theorem el_c : Rn (fun k => Fsparse_eliminate k [[], [], [2]] 2 2) ([[], [], []], 0) := elim_c (n := 3) (r := 2) (c := 2) (f := 0) (by decide) rfl (by decide) (by decide) (by decide) (by decide)
theorem el_d : Rn (fun k => Fsparse_eliminate k p0 0 0) ([[], [1, 2], [1, 2]], 2) := elim_c (n := 3) (r := 0) (c := 0) (f := 2) (by decide) rfl (by decide) (by decide) (by decide) (by decide)
theorem el_e : Rn (fun k => Fsparse_eliminate k [[], [1, 2], [1, 2]] 1 1) ([[], [], [2]], 0) := elim_c (n := 3) (r := 1) (c := 1) (f := 0) (by decide) rfl (by decide) (by decide) (by decide) (by decide)
theorem fix {α : Type} {f : Nat → Option α} {x : α} (h : ∀ j, f (j + 30) = some x) : Rn f x := Rn.eq 30 fun k hk => by
  obtain ⟨j, rfl⟩ : ∃ j, k = j + 30 := ⟨k - 30, by omega⟩
  exact h j
theorem be_a : Rn (fun k => Fsparse_best k p0) (1, 1, true) := fix fun j => by kernel_rfl
theorem be_b : Rn (fun k => Fsparse_best k [[0, 2], [], [0, 2]]) (0, 0, true) := fix fun j => by kernel_rfl
theorem be_c : Rn (fun k => Fsparse_best k [[], [], [2]]) (2, 2, true) := fix fun j => by kernel_rfl
theorem be_d : Rn (fun k => Fsparse_best k [[], [], []]) (0, 0, false) := fix fun j => by kernel_rfl
theorem ch_a : Rn (fun k => Fsparse_Check k p0) 0 := fix fun j => by kernel_rfl
theorem or_up {p : List (List Int)} {a b : Nat} {x y : List Int} {o : Nat × Nat × Int × List Int × List Int} (h : Rl (fun k q => Lsparse_Order_0s k (Lsparse_Order_0 k q) p a b x y) o) : Rl (fun k q => Lsparse_Order_0 k q p a b x y) o := Rl.up (f := fun k q => Lsparse_Order_0 k q p a b x y) h
theorem or_go {p p' : List (List Int)} {r c f : Int} {x y : List Int} {a b : Nat} {o : Nat × Nat × Int × List Int × List Int} (ha : a = x.length) (hb : b = y.length) (hx : x.length ≤ 10) (hy : y.length ≤ 10) (h1 : Rn (fun k => Fsparse_best k p) (r, c, true)) (h2 : Rn (fun k => Fsparse_eliminate k p r c) (p', f))
    (h3 : Rl (fun k q => Lsparse_Order_0 k q p' (a + 1) (b + 1) (x ++ [r]) (y ++ [c])) o) : Rl (fun k q => Lsparse_Order_0 k q p a b x y) o := by
  subst ha hb
  refine or_up ?_
  unfold Lsparse_Order_0s
  have e1 : (List.take 1 [r]).length = 1 := rfl
  have e2 : (List.take 1 [c]).length = 1 := rfl
  have e3 : List.take 1 [r] = [r] := rfl
  have e4 : List.take 1 [c] = [c] := rfl
  refine Rl.bind h1 (Rl.f (by simp) (Rl.t (g := fun _ _ => none) (Nat.le_refl _) (Rl.t (g := fun _ _ => none) (by simp only [e1]; omega) (Rl.t (g := fun _ _ => none) (Nat.le_refl _) (Rl.t (g := fun _ _ => none) (by simp only [e2]; omega) (Rl.bind h2 ?_))))))
  simp only [e3, e4, List.take_length, List.length_singleton]
  exact h3
theorem or_end {p : List (List Int)} {r c : Int} {x y : List Int} {a b : Nat} (h1 : Rn (fun k => Fsparse_best k p) (r, c, false)) : Rl (fun k q => Lsparse_Order_0 k q p a b x y) (a, b, 0, x, y) := by
  refine or_up ?_
  unfold Lsparse_Order_0s
  exact Rl.bind h1 (Rl.t (by simp) (Rl.pure _))
theorem or_a : Rn (fun k => Fsparse_Order k p0) ([1, 0, 2], [1, 0, 2], 0) := by
  refine Rn.up (f := fun k => Fsparse_Order k p0) ?_
  show Rn (fun k => bsparse_Order k p0) _
  unfold bsparse_Order
  have h : Rl (fun k q => Lsparse_Order_0 k q p0 0 0 [] []) (3, 3, 0, [1, 0, 2], [1, 0, 2]) :=
    or_go rfl rfl (by decide) (by decide) be_a el_a (or_go rfl rfl (by decide) (by decide) be_b el_b (or_go rfl rfl (by decide) (by decide) be_c el_c (or_end be_d)))
  exact Rn.bind ch_a (Rn.f (by simp) (Rn.bind h.diag (Rn.t (g := fun _ => none) (by simp) (Rn.t (g := fun _ => none) (by simp) (Rn.const rfl)))))
theorem fi_go {p p' : List (List Int)} {rows cols : List Int} {all : Int} {L i r c f : Int} {o : (Int × Int) ⊕ Int} (h0 : 0 ≤ i) (h1 : i < L) (hL : L ≤ 10) (g1 : rows[i.toNat]? = some r) (g2 : cols[i.toNat]? = some c) (hi : Rn (fun k => Fsparse_in k p r c) true) (he : Rn (fun k => Fsparse_eliminate k p r c) (p', f)) (hf : 0 ≤ all ∧ all ≤ 1000 ∧ 0 ≤ f ∧ f ≤ 1000)
    (h : Rl (fun k q => Lsparse_Fill_0 k q p' cols (all + f) rows L (i + 1)) o) : Rl (fun k q => Lsparse_Fill_0 k q p cols all rows L i) o := by
  refine Rl.up (f := fun k q => Lsparse_Fill_0 k q p cols all rows L i) ?_
  show Rl (fun k q => Lsparse_Fill_0s k (Lsparse_Fill_0 k q) _ _ _ _ _ _) _
  unfold Lsparse_Fill_0s
  rw [wrap_i64 (x := i + 1) (by omega)]
  refine Rl.t (decide_eq_true h1) (Rl.t h0 (Rl.at g1 (Rl.t h0 (Rl.at g2 (Rl.bind hi (Rl.f (by simp) (Rl.t h0 (Rl.at g2 (Rl.bind he ?_)))))))))
  simp only
  rw [wrap_i64 (x := all + f) (by omega)]
  exact h
theorem in_a : Rn (fun k => Fsparse_in k p0 0 0) true := fix fun j => by kernel_rfl
theorem in_b : Rn (fun k => Fsparse_in k [[], [1, 2], [1, 2]] 1 1) true := fix fun j => by kernel_rfl
theorem in_c : Rn (fun k => Fsparse_in k [[], [], [2]] 2 2) true := fix fun j => by kernel_rfl
theorem in_d : Rn (fun k => Fsparse_in k p0 1 1) true := fix fun j => by kernel_rfl
theorem fi_a : Rn (fun k => Fsparse_Fill k p0 [0, 1, 2] [0, 1, 2]) (2, 0) := by
  refine Rn.up (f := fun k => Fsparse_Fill k p0 [0, 1, 2] [0, 1, 2]) ?_
  show Rn (fun k => bsparse_Fill k p0 [0, 1, 2] [0, 1, 2]) _
  unfold bsparse_Fill
  have hend : Rl (fun k q => Lsparse_Fill_0 k q [[], [], []] [0, 1, 2] 2 [0, 1, 2] 3 3) (.inr 2) := by
    refine Rl.up (f := fun k q => Lsparse_Fill_0 k q [[], [], []] [0, 1, 2] 2 [0, 1, 2] 3 3) ?_
    show Rl (fun k q => Lsparse_Fill_0s k (Lsparse_Fill_0 k q) _ _ _ _ _ _) _
    unfold Lsparse_Fill_0s
    exact Rl.f (by decide) (Rl.pure _)
  have h : Rl (fun k q => Lsparse_Fill_0 k q p0 [0, 1, 2] 0 [0, 1, 2] 3 0) (.inr 2) :=
    fi_go (r := 0) (c := 0) (by decide) (by decide) (by decide) rfl rfl in_a el_d (by decide) (fi_go (r := 1) (c := 1) (by decide) (by decide) (by decide) rfl rfl in_b el_e (by decide) (fi_go (r := 2) (c := 2) (by decide) (by decide) (by decide) rfl rfl in_c el_c (by decide) hend))
  exact Rn.bind ch_a (Rn.f (by simp) (Rn.f (by simp) (Rn.bind h.diag (Rn.pure _))))
theorem em_a : Rn (fun k => Fsparse_Eliminate k p0 1 1) ([[0, 2], [], [0, 2]], 0) := by
  refine Rn.up (f := fun k => Fsparse_Eliminate k p0 1 1) ?_
  show Rn (fun k => bsparse_Eliminate k p0 1 1) _
  unfold bsparse_Eliminate
  exact Rn.bind ch_a (Rn.f (by simp) (Rn.bind in_d (Rn.f (by simp) (Rn.bind el_a (Rn.pure _)))))
theorem bb_a : Rn (fun k => Fsparse_Best k p0) (1, 1, true, 0) := fix fun j => by kernel_rfl
theorem co_a : Rn (fun k => Fsparse_Cost k p0 0 0) (4, 0) := fix fun j => by kernel_rfl
theorem is_a : Rn (fun k => Fshuntref09_Ints k [1, 0, 2] [1, 0, 2]) true := fix fun j => by kernel_rfl
theorem sa_a : Rn (fun k => Fshuntref13_Same k [[0, 2], [], [0, 2]] [[0, 2], [], [0, 2]]) true := fix fun j => by kernel_rfl
theorem ch_b : Rn (fun k => Fsparse_Check k [[1]]) 130 := fix fun j => by kernel_rfl
theorem awake13_ev : Rn (fun k => Fshuntlaw13_awake k) true := by
  refine Rn.up (f := fun k => Fshuntlaw13_awake k) ?_
  show Rn (fun k => bshuntlaw13_awake k) _
  unfold bshuntlaw13_awake
  refine Rn.bind or_a (Rn.bind fi_a (Rn.bind em_a (Rn.bind bb_a (Rn.bind co_a ?_))))
  exact Rn.t (by decide) (Rn.t (by decide) (Rn.t (by decide) (Rn.t (by decide) (Rn.t (by decide) (Rn.t (by decide) (Rn.t (by decide) (Rn.t (by decide) (Rn.t (by decide) (Rn.t (by decide) (Rn.bind is_a (Rn.t (by decide) (Rn.bind is_a (Rn.t (by decide) (Rn.bind sa_a (Rn.t (by decide) (Rn.bind ch_b (Rn.pure _)))))))))))))))))
theorem Same13 (a : List (List Int)) (h : a.length ≤ 1000000) (hr : ∀ r ∈ a, r.length ≤ 1000000) : Rn (fun k => Fshuntref13_Same k a a) true := by
  have inner : ∀ i : Nat, i < a.length → Rl (fun k q => Lshuntref13_Same_2 k q a a i ((0 : Nat) : Int)) (.inr (a, a, (i : Int))) := by
    intro i hi
    have g := getD_some (l := a) ([] : List Int) hi
    have hx := hr _ (List.mem_of_getElem? g)
    generalize a.getD i [] = x at g hx
    obtain ⟨o, rfl, h⟩ : ∃ o, o = .inr (a, a, (i : Int)) ∧ Rl (fun k q => Lshuntref13_Same_2 k q a a i ((0 : Nat) : Int)) o := by
      refine loopI (σ := Unit) x.length (fun k q j _ => Lshuntref13_Same_2 k q a a i j) (fun _ _ => True) _ ?_ ?_ x.length 0 () (by omega) trivial
      · rintro _ _
        refine ⟨_, rfl, Rl.up (f := fun k q => Lshuntref13_Same_2 k q a a i x.length) ?_⟩
        show Rl (fun k q => Lshuntref13_Same_2s k (Lshuntref13_Same_2 k q) _ _ _ _) _
        unfold Lshuntref13_Same_2s
        rw [toNat_c]
        exact Rl.t (by first | omega | (simp only [decide_eq_true_eq, decide_eq_false_iff_not, Int.toNat_natCast, beq_iff_eq, bne_iff_ne, ne_eq, Int.not_lt, Int.not_le, ge_iff_le, gt_iff_lt, beq_eq_false_iff_ne, Nat.zero_add]; omega)) (Rl.at g (Rl.f (by first | omega | (simp only [decide_eq_true_eq, decide_eq_false_iff_not, Int.toNat_natCast, beq_iff_eq, bne_iff_ne, ne_eq, Int.not_lt, Int.not_le, ge_iff_le, gt_iff_lt, beq_eq_false_iff_ne, Nat.zero_add]; omega)) (Rl.pure _)))
      · rintro j _ hj _
        have g2 := getD_some (l := x) (0 : Int) hj
        refine .inr ⟨(), trivial, fun o ho => Rl.up (f := fun k q => Lshuntref13_Same_2 k q a a i j) ?_⟩
        show Rl (fun k q => Lshuntref13_Same_2s k (Lshuntref13_Same_2 k q) _ _ _ _) _
        unfold Lshuntref13_Same_2s
        rw [toNat_c, toNat_c, wrap_i64 (x := (j : Int) + 1) (by omega)]
        exact Rl.t (by first | omega | (simp only [decide_eq_true_eq, decide_eq_false_iff_not, Int.toNat_natCast, beq_iff_eq, bne_iff_ne, ne_eq, Int.not_lt, Int.not_le, ge_iff_le, gt_iff_lt, beq_eq_false_iff_ne, Nat.zero_add]; omega)) (Rl.at g (Rl.t (by first | omega | (simp only [decide_eq_true_eq, decide_eq_false_iff_not, Int.toNat_natCast, beq_iff_eq, bne_iff_ne, ne_eq, Int.not_lt, Int.not_le, ge_iff_le, gt_iff_lt, beq_eq_false_iff_ne, Nat.zero_add]; omega)) (Rl.t (by first | omega | (simp only [decide_eq_true_eq, decide_eq_false_iff_not, Int.toNat_natCast, beq_iff_eq, bne_iff_ne, ne_eq, Int.not_lt, Int.not_le, ge_iff_le, gt_iff_lt, beq_eq_false_iff_ne, Nat.zero_add]; omega)) (Rl.at g (Rl.t (by first | omega | (simp only [decide_eq_true_eq, decide_eq_false_iff_not, Int.toNat_natCast, beq_iff_eq, bne_iff_ne, ne_eq, Int.not_lt, Int.not_le, ge_iff_le, gt_iff_lt, beq_eq_false_iff_ne, Nat.zero_add]; omega)) (Rl.at g2 (Rl.t (by first | omega | (simp only [decide_eq_true_eq, decide_eq_false_iff_not, Int.toNat_natCast, beq_iff_eq, bne_iff_ne, ne_eq, Int.not_lt, Int.not_le, ge_iff_le, gt_iff_lt, beq_eq_false_iff_ne, Nat.zero_add]; omega)) (Rl.at g (Rl.t (by first | omega | (simp only [decide_eq_true_eq, decide_eq_false_iff_not, Int.toNat_natCast, beq_iff_eq, bne_iff_ne, ne_eq, Int.not_lt, Int.not_le, ge_iff_le, gt_iff_lt, beq_eq_false_iff_ne, Nat.zero_add]; omega)) (Rl.at g2 (Rl.f (by simp) ho)))))))))))
    exact h
  obtain ⟨o, rfl, h⟩ : ∃ o, o = .inr () ∧ Rl (fun k q => Lshuntref13_Same_0 k q a a ((0 : Nat) : Int)) o := by
    refine loopI (σ := Unit) a.length (fun k q i _ => Lshuntref13_Same_0 k q a a i) (fun _ _ => True) _ ?_ ?_ a.length 0 () (by omega) trivial
    · rintro _ _
      refine ⟨_, rfl, Rl.up (f := fun k q => Lshuntref13_Same_0 k q a a a.length) (Rl.of 0 fun k q _ => ?_)⟩
      show Lshuntref13_Same_0s k (Lshuntref13_Same_0 k q) _ _ _ = _
      unfold Lshuntref13_Same_0s
      exact if_neg (by first | omega | (simp only [decide_eq_true_eq, decide_eq_false_iff_not, Int.toNat_natCast, beq_iff_eq, bne_iff_ne, ne_eq, Int.not_lt, Int.not_le, ge_iff_le, gt_iff_lt, beq_eq_false_iff_ne, Nat.zero_add]; omega))
    · rintro i _ hi _
      have g := getD_some (l := a) ([] : List Int) hi
      refine .inr ⟨(), trivial, fun o ho => Rl.up (f := fun k q => Lshuntref13_Same_0 k q a a i) ?_⟩
      show Rl (fun k q => Lshuntref13_Same_0s k (Lshuntref13_Same_0 k q) _ _ _) _
      unfold Lshuntref13_Same_0s
      rw [toNat_c]
      refine Rl.t (by first | omega | (simp only [decide_eq_true_eq, decide_eq_false_iff_not, Int.toNat_natCast, beq_iff_eq, bne_iff_ne, ne_eq, Int.not_lt, Int.not_le, ge_iff_le, gt_iff_lt, beq_eq_false_iff_ne, Nat.zero_add]; omega)) (Rl.t (by first | omega | (simp only [decide_eq_true_eq, decide_eq_false_iff_not, Int.toNat_natCast, beq_iff_eq, bne_iff_ne, ne_eq, Int.not_lt, Int.not_le, ge_iff_le, gt_iff_lt, beq_eq_false_iff_ne, Nat.zero_add]; omega)) (Rl.at g (Rl.t (by first | omega | (simp only [decide_eq_true_eq, decide_eq_false_iff_not, Int.toNat_natCast, beq_iff_eq, bne_iff_ne, ne_eq, Int.not_lt, Int.not_le, ge_iff_le, gt_iff_lt, beq_eq_false_iff_ne, Nat.zero_add]; omega)) (Rl.at g (Rl.f (by simp) (Rl.bind (inner i hi).diag ?_))))))
      simp only [eitherK]
      rw [wrap_i64 (by omega)]
      exact ho
  refine Rn.up (f := fun k => Fshuntref13_Same k a a) ?_
  show Rn (fun k => bshuntref13_Same k a a) _
  unfold bshuntref13_Same
  exact Rn.f (by simp) (Rn.bind h.diag (Rn.pure _))
theorem wfd_cells {l : List Cl} (h : Wfd (.sl (.pr (.int .i64) (.pr .bool (.sl (.int .u32))))) l) : DgC l := by
  refine ⟨?_, fun c hc => dg_of (h.2 c hc).2.2⟩
  have := h.1.2
  unfold reachBytes at this
  simp only [Cd.by] at this
  omega
abbrev cInt : Cd := .pr .bool (.sl (.int .u32))
abbrev cCell : Cd := .pr (.int .i64) cInt
abbrev cRow : Cd := .pr cInt (.pr (.sl cCell) (.pr (.sl cCell) (.pr (.sl cCell) cInt)))
theorem wfd_sys {s : List Rw} (h : Wfd (.sl cRow) s) : DgS s := by
  refine ⟨?_, fun r hr => ?_⟩
  · have := h.1.2
    unfold reachBytes at this
    simp only [Cd.by] at this
    omega
  · obtain ⟨h1, h2, h3, h4, h5⟩ := h.2 r hr
    exact ⟨dg_of h1.2, wfd_cells h2, wfd_cells h3, wfd_cells h4, dg_of h5.2⟩
theorem ofw (s : List Rw) (hd : DgS s) : ∃ o, Rl (fun k q => Lshuntlaw13_SparseOf_0 k q s.length ((0 : Nat) : Int) s) o ∧ (o = .inr s ∧ (∀ r ∈ s, r.2.1.length ≤ 1000) ∨ o = .inl (true, s)) := by
  have hlen := hd.1
  obtain ⟨o, a1, a2⟩ : ∃ o, Rl (fun k q => Lshuntlaw13_SparseOf_0 k q s.length ((0 : Nat) : Int) s) o ∧
      ((∀ j, 0 ≤ j → j < s.length → (j ≤ 60 ∧ (s.getD j r0).2.1.length + (s.getD j r0).2.2.1.length + (s.getD j r0).2.2.2.1.length ≤ 300)) ∧ o = .inr s ∨ (¬ ∀ j, 0 ≤ j → j < s.length → (j ≤ 60 ∧ (s.getD j r0).2.1.length + (s.getD j r0).2.2.1.length + (s.getD j r0).2.2.2.1.length ≤ 300)) ∧ ∃ a : Bool × List Rw, a = (true, s) ∧ o = .inl a) := by
    refine scan s.length 0 (fun k q i => Lshuntlaw13_SparseOf_0 k q s.length i s) s (fun a : Bool × List Rw => a = (true, s)) _ ?_ ?_ ?_ s.length 0 (by omega) (by omega)
    · refine Rl.up (f := fun k q => Lshuntlaw13_SparseOf_0 k q s.length s.length s) (Rl.of 0 fun k q _ => ?_)
      show Lshuntlaw13_SparseOf_0s k (Lshuntlaw13_SparseOf_0 k q) _ _ _ = _
      unfold Lshuntlaw13_SparseOf_0s
      exact if_neg (by first | omega | (simp only [decide_eq_true_eq, decide_eq_false_iff_not, Int.toNat_natCast, beq_iff_eq, bne_iff_ne, ne_eq, Int.not_lt, Int.not_le, ge_iff_le, gt_iff_lt, beq_eq_false_iff_ne, Nat.zero_add]; omega))
    · intro i hs hi ⟨h1, h2⟩ o ho
      have g := getD_some (l := s) r0 hi
      have gi : s[Int.toNat (i : Int)]? = some (s.getD i r0) := by rw [toNat_c]; exact g
      generalize s.getD i r0 = r at *
      refine Rl.up (f := fun k q => Lshuntlaw13_SparseOf_0 k q s.length i s) ?_
      show Rl (fun k q => Lshuntlaw13_SparseOf_0s k (Lshuntlaw13_SparseOf_0 k q) _ _ _) _
      unfold Lshuntlaw13_SparseOf_0s
      rw [wrap_i64 (x := (i : Int) + 1) (by omega)]
      exact Rl.t (by first | omega | (simp only [decide_eq_true_eq, decide_eq_false_iff_not, Int.toNat_natCast, beq_iff_eq, bne_iff_ne, ne_eq, Int.not_lt, Int.not_le, ge_iff_le, gt_iff_lt, beq_eq_false_iff_ne, Nat.zero_add]; omega)) (Rl.t (by first | omega | (simp only [decide_eq_true_eq, decide_eq_false_iff_not, Int.toNat_natCast, beq_iff_eq, bne_iff_ne, ne_eq, Int.not_lt, Int.not_le, ge_iff_le, gt_iff_lt, beq_eq_false_iff_ne, Nat.zero_add]; omega)) (Rl.t (by first | omega | (simp only [decide_eq_true_eq, decide_eq_false_iff_not, Int.toNat_natCast, beq_iff_eq, bne_iff_ne, ne_eq, Int.not_lt, Int.not_le, ge_iff_le, gt_iff_lt, beq_eq_false_iff_ne, Nat.zero_add]; omega)) (Rl.at gi (Rl.t (by first | omega | (simp only [decide_eq_true_eq, decide_eq_false_iff_not, Int.toNat_natCast, beq_iff_eq, bne_iff_ne, ne_eq, Int.not_lt, Int.not_le, ge_iff_le, gt_iff_lt, beq_eq_false_iff_ne, Nat.zero_add]; omega)) (Rl.at gi (Rl.t (by first | omega | (simp only [decide_eq_true_eq, decide_eq_false_iff_not, Int.toNat_natCast, beq_iff_eq, bne_iff_ne, ne_eq, Int.not_lt, Int.not_le, ge_iff_le, gt_iff_lt, beq_eq_false_iff_ne, Nat.zero_add]; omega)) (Rl.at gi (Rl.f (by rw [wrap_i64 (x := ((r.2.1.length : Nat) : Int) + ((r.2.2.1.length : Nat) : Int)) (by omega), wrap_i64 (by omega)]; simp; omega) ho))))))))
    · intro i hs hi hno
      have g := getD_some (l := s) r0 hi
      have hr := hd.2 _ (List.mem_of_getElem? g)
      have gi : s[Int.toNat (i : Int)]? = some (s.getD i r0) := by rw [toNat_c]; exact g
      generalize s.getD i r0 = r at *
      have l1 := hr.2.1.1
      have l2 := hr.2.2.1.1
      have l3 := hr.2.2.2.1.1
      refine ⟨(true, s), rfl, Rl.up (f := fun k q => Lshuntlaw13_SparseOf_0 k q s.length i s) ?_⟩
      show Rl (fun k q => Lshuntlaw13_SparseOf_0s k (Lshuntlaw13_SparseOf_0 k q) _ _ _) _
      unfold Lshuntlaw13_SparseOf_0s
      refine Rl.t (by first | omega | (simp only [decide_eq_true_eq, decide_eq_false_iff_not, Int.toNat_natCast, beq_iff_eq, bne_iff_ne, ne_eq, Int.not_lt, Int.not_le, ge_iff_le, gt_iff_lt, beq_eq_false_iff_ne, Nat.zero_add]; omega)) ?_
      by_cases h1 : 60 < i
      · exact Rl.f (by first | omega | (simp only [decide_eq_true_eq, decide_eq_false_iff_not, Int.toNat_natCast, beq_iff_eq, bne_iff_ne, ne_eq, Int.not_lt, Int.not_le, ge_iff_le, gt_iff_lt, beq_eq_false_iff_ne, Nat.zero_add]; omega)) (Rl.pure _)
      have h2 : 300 < r.2.1.length + r.2.2.1.length + r.2.2.2.1.length := by
        by_cases h2 : r.2.1.length + r.2.2.1.length + r.2.2.2.1.length ≤ 300
        · exact absurd ⟨by omega, h2⟩ hno
        · omega
      exact Rl.t (by first | omega | (simp only [decide_eq_true_eq, decide_eq_false_iff_not, Int.toNat_natCast, beq_iff_eq, bne_iff_ne, ne_eq, Int.not_lt, Int.not_le, ge_iff_le, gt_iff_lt, beq_eq_false_iff_ne, Nat.zero_add]; omega)) (Rl.t (by first | omega | (simp only [decide_eq_true_eq, decide_eq_false_iff_not, Int.toNat_natCast, beq_iff_eq, bne_iff_ne, ne_eq, Int.not_lt, Int.not_le, ge_iff_le, gt_iff_lt, beq_eq_false_iff_ne, Nat.zero_add]; omega)) (Rl.at gi (Rl.t (by first | omega | (simp only [decide_eq_true_eq, decide_eq_false_iff_not, Int.toNat_natCast, beq_iff_eq, bne_iff_ne, ne_eq, Int.not_lt, Int.not_le, ge_iff_le, gt_iff_lt, beq_eq_false_iff_ne, Nat.zero_add]; omega)) (Rl.at gi (Rl.t (by first | omega | (simp only [decide_eq_true_eq, decide_eq_false_iff_not, Int.toNat_natCast, beq_iff_eq, bne_iff_ne, ne_eq, Int.not_lt, Int.not_le, ge_iff_le, gt_iff_lt, beq_eq_false_iff_ne, Nat.zero_add]; omega)) (Rl.at gi (Rl.t (by rw [wrap_i64 (x := ((r.2.1.length : Nat) : Int) + ((r.2.2.1.length : Nat) : Int)) (by omega), wrap_i64 (by omega)]; simp; omega) (Rl.pure _))))))))
  rcases a2 with ⟨a2, rfl⟩ | ⟨a2, a, rfl, rfl⟩
  · refine ⟨_, a1, .inl ⟨rfl, fun r hr => ?_⟩⟩
    obtain ⟨j, hj, rfl⟩ := List.mem_iff_getElem.1 hr
    have := (a2 j (Nat.zero_le _) hj).2
    rw [List.getD_eq_getElem?_getD, List.getElem?_eq_getElem hj] at this
    simp only [Option.getD_some] at this
    omega
  · exact ⟨_, a1, .inr rfl⟩
theorem pure_SparseOf (s : List Rw) (ws : Wfd (.sl cRow) s) : ∃ k, Fshuntlaw13_SparseOf k s = some true := by
  refine Rn.get (f := fun k => Fshuntlaw13_SparseOf k s) (Rn.up (f := fun k => Fshuntlaw13_SparseOf k s) ?_)
  show Rn (fun k => bshuntlaw13_SparseOf k s) _
  unfold bshuntlaw13_SparseOf
  have hd := wfd_sys ws
  obtain ⟨o, o1, o2⟩ := ofw s hd
  refine Rn.bind awake13_ev (Rn.f (by simp) (Rn.bind o1.diag ?_))
  rcases o2 with ⟨rfl, hA⟩ | rfl
  rotate_left
  · exact Rn.pure _
  simp only [eitherK]
  rcases Of_both s hd hA with ⟨h1, h2⟩ | ⟨h1, h2, h3⟩
  · exact Rn.bind h1 (Rn.bind h2 (Rn.bind (Same13 [] (by simp) (fun r hr => by cases hr)) (Rn.t rfl (Rn.t (by simp) (Rn.f (by simp) (Rn.pure _))))))
  · have hp := okP_pat h3
    have hsm := pat_sm (mp (ptO s)) h3.1
    rw [← hp] at hsm
    have hck := Check_ev (ptO s) hsm
    rw [if_pos h3] at hck
    have hr48 : ∀ r ∈ ptO s, r.length ≤ 1000000 := fun r hr => by
      rw [hp] at hr
      obtain ⟨i, _, rfl⟩ := List.mem_map.1 hr
      have h1 := h3.1
      have := thin_le (ptO s).length (mp (ptO s) i); omega
    exact Rn.bind h1 (Rn.bind h2 (Rn.bind (Same13 (ptO s) (by have := h3.1; omega) hr48) (Rn.t rfl (Rn.t (by simp) (Rn.t (by simp) (Rn.bind hck (Rn.pure _)))))))
end Go.Proofs.Ytgiamleohegjeaa.Am

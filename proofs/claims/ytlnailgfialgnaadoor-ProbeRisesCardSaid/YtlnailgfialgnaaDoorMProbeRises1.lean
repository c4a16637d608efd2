/- The law ProbeRises returns true for every input, and its arguments read as they did. -/
import Derived.Test.YtlnailgfialgnaaDoorMP2
import Derived.KernelRfl
import Derived.Test.YtlnailgfialgnaaDoorRows
import Derived.Test.YtlnailgfialgnaaDoorCards
import Derived.Test.YtlnailgfialgnaaDoorTie
import Derived.WalkKit
import Derived.ProofKit
import Derived.OpenShut
import Derived.ShutString
import Derived.ChangeOld
import Derived.Below
import Derived.SizedLaws
import Derived.Carry
import Derived.LaidMore
import Derived.Lay
import Derived.SevenTiedAt
import Derived.Stop.Joined
import Derived.Handed
import Derived.LaidLaws

set_option linter.unusedVariables false
set_option linter.unusedSimpArgs false
namespace Go.Proofs.YtlnailgfialgnaaDoor.Am

/-- With rounds enough the answer is r. -/
def Rn {α : Type} (f : Nat → Option α) (r : α) : Prop := ∃ K, ∀ k, K ≤ k → f k = some r
/-- The same, where a loop's rounds count for themselves. -/
def Rl {α : Type} (f : Nat → Nat → Option α) (r : α) : Prop := ∃ K, ∀ k n, K ≤ k → K ≤ n → f k n = some r
section
variable {α β γ : Type}
theorem Rn.pure (r : α) : Rn (fun _ => some r) r := ⟨0, fun _ _ => rfl⟩
theorem Rn.eq {f : Nat → Option α} {r : α} (K : Nat) (h : ∀ k, K ≤ k → f k = some r) : Rn f r := ⟨K, h⟩
theorem Rn.bind {f : Nat → Option α} {g : Nat → α → Option β} {x : α} {r : β} (h1 : Rn f x) (h2 : Rn (fun k => g k x) r) : Rn (fun k => Option.bind (f k) (g k)) r := by
  obtain ⟨K1, h1⟩ := h1
  obtain ⟨K2, h2⟩ := h2
  exact ⟨max K1 K2, fun k hk => by show Option.bind (f k) (g k) = _; rw [h1 k (by omega)]; exact h2 k (by omega)⟩
/-- A function's rounds are one more than its body's. -/
theorem Rn.up {f : Nat → Option α} {r : α} (h : Rn (fun k => f (k + 1)) r) : Rn f r := by
  obtain ⟨K, h⟩ := h
  refine ⟨K + 1, fun k hk => ?_⟩
  obtain ⟨j, rfl⟩ : ∃ j, k = j + 1 := ⟨k - 1, by omega⟩
  exact h j (by omega)
theorem Rn.const {e : Option α} {r : α} (h : e = some r) : Rn (fun _ => e) r := ⟨0, fun _ _ => h⟩
theorem Rn.t {c : Prop} [Decidable c] {f g : Nat → Option α} {r : α} (h : c) (hf : Rn f r) : Rn (fun k => if c then f k else g k) r := by
  simpa only [if_pos h] using hf
theorem Rn.f {c : Prop} [Decidable c] {f g : Nat → Option α} {r : α} (h : ¬ c) (hg : Rn g r) : Rn (fun k => if c then f k else g k) r := by
  simpa only [if_neg h] using hg
theorem Rn.at {o : Option α} {g : Nat → α → Option β} {x : α} {r : β} (h : o = some x) (hg : Rn (fun k => g k x) r) : Rn (fun k => Option.bind o (g k)) r := by
  simpa only [h, Option.bind_some] using hg
theorem Rl.diag {f : Nat → Nat → Option α} {r : α} (h : Rl f r) : Rn (fun k => f k k) r := by
  obtain ⟨K, h⟩ := h
  exact ⟨K, fun k hk => h k k hk hk⟩
theorem Rl.pure (r : α) : Rl (fun _ _ => some r) r := ⟨0, fun _ _ _ _ => rfl⟩
theorem Rl.bind {f : Nat → Option α} {g : Nat → Nat → α → Option β} {x : α} {r : β} (h1 : Rn f x) (h2 : Rl (fun k n => g k n x) r) : Rl (fun k n => Option.bind (f k) (g k n)) r := by
  obtain ⟨K1, h1⟩ := h1
  obtain ⟨K2, h2⟩ := h2
  exact ⟨max K1 K2, fun k n hk hn => by show Option.bind (f k) (g k n) = _; rw [h1 k (by omega)]; exact h2 k n (by omega) (by omega)⟩
theorem Rl.up {f : Nat → Nat → Option α} {r : α} (h : Rl (fun k n => f k (n + 1)) r) : Rl f r := by
  obtain ⟨K, h⟩ := h
  refine ⟨K + 1, fun k n hk hn => ?_⟩
  obtain ⟨j, rfl⟩ : ∃ j, n = j + 1 := ⟨n - 1, by omega⟩
  exact h k j (by omega) (by omega)
theorem Rl.of {f : Nat → Nat → Option α} {r : α} (K : Nat) (h : ∀ k n, K ≤ n → f k n = some r) : Rl f r := ⟨K, fun k n _ hn => h k n hn⟩
end

theorem wrap_u32_id {x : Int} (h : 0 ≤ x ∧ x < 4294967296) : IntKind.u32.wrap x = x := by rw [wrap_u32]; omega
theorem wrap_u64_id {x : Int} (h : 0 ≤ x ∧ x < 18446744073709551616) : IntKind.u64.wrap x = x := by rw [wrap_u64]; omega
theorem wrap_u8_id {x : Int} (h : 0 ≤ x ∧ x < 256) : IntKind.u8.wrap x = x := by rw [wrap_u8]; omega
/-- What reckons, in one. -/
theorem ps :
  (∀ {p : Prop} [inst : Decidable p], (Decidable.decide p = Bool.true) = p) ∧
  (∀ {p : Prop} {x : Decidable p}, Decidable.decide p = Bool.false ↔ ¬p) ∧
  (∀ {α : Type} [inst : BEq α] [LawfulBEq α] {a b : α}, (a == b) = Bool.true ↔ a = b) ∧
  (∀ {α : Type} [inst : BEq α] [LawfulBEq α] {a b : α}, (a != b) = Bool.true ↔ a ≠ b) ∧
  (∀ {α : Type} (a b : α), (a ≠ b) = ¬a = b) ∧
  (∀ {α : Type} [inst : LT α] {x y : α}, x > y ↔ y < x) ∧
  (∀ {α : Type} [inst : LE α] {x y : α}, x ≥ y ↔ y ≤ x) ∧
  (∀ {a b : Int}, a ≤ b → (a ≤ b) = True) ∧
  (∀ {a b : Int}, ¬a ≤ b → (a ≤ b) = False) ∧
  (∀ {a b : Int}, a < b → (a < b) = True) ∧
  (∀ {a b : Int}, ¬a < b → (a < b) = False) ∧
  (∀ {a b : Int}, a = b → (a = b) = True) ∧
  (∀ {a b : Int}, ¬a = b → (a = b) = False) ∧
  (∀ {a b : Nat}, a ≤ b → (a ≤ b) = True) ∧
  (∀ {a b : Nat}, ¬a ≤ b → (a ≤ b) = False) ∧
  (∀ {a b : Nat}, a < b → (a < b) = True) ∧
  (∀ {a b : Nat}, ¬a < b → (a < b) = False) ∧
  ((¬True) = False) ∧
  ((¬False) = True) ∧
  (∀ (p : Prop), (True ∧ p) = p) ∧
  (∀ (p : Prop), (p ∧ True) = p) ∧
  (∀ (p : Prop), (False ∧ p) = False) ∧
  (∀ (p : Prop), (p ∧ False) = False) ∧
  (∀ (p : Prop), (p ∧ p) = p) ∧
  (∀ (p : Prop), (p ∨ True) = True) ∧
  (∀ (p : Prop), (True ∨ p) = True) ∧
  (∀ (p : Prop), (p ∨ False) = p) ∧
  (∀ (p : Prop), (False ∨ p) = p) ∧
  (∀ {α β : Type} (a : α) (f : α → Option β), (Option.some a).bind f = f a) ∧
  (∀ (n : Nat), (0 : Nat) + n = n) ∧
  (∀ (n : Nat), n + (0 : Nat) = n) ∧
  (∀ (n : Nat), n - (0 : Nat) = n) ∧
  (∀ (n : Nat), (↑n : Int).toNat = n) ∧
  (Int.toNat (0 : Int) = (0 : Nat)) ∧
  (∀ {x : Int}, (-9223372036854775808 : Int) ≤ x ∧ x ≤ (9223372036854775807 : Int) → Go.IntKind.i64.wrap x = x) ∧
  (∀ {x : Int}, (0 : Int) ≤ x ∧ x < (4294967296 : Int) → Go.IntKind.u32.wrap x = x) ∧
  (∀ {x : Int}, (0 : Int) ≤ x ∧ x < (18446744073709551616 : Int) → Go.IntKind.u64.wrap x = x) ∧
  (∀ {x : Int}, (0 : Int) ≤ x ∧ x < (256 : Int) → Go.IntKind.u8.wrap x = x) ∧
  (∀ {α : Type} {l : List α}, List.take (0 : Nat) l = []) ∧
  (∀ {α : Type} (zs : List α), [] ++ zs = zs) ∧
  (∀ {α : Type} [inst : BEq α] [ReflBEq α] (a : α), (a == a) = Bool.true) ∧
  (∀ {α : Type} [inst : BEq α] [LawfulBEq α] (a : α), (a != a) = Bool.false) ∧
  (∀ {α : Type} (a : α), (a = a) = True) ∧
  ((Bool.false = Bool.true) = False) ∧
  ((Bool.true = Bool.false) = False) ∧
  (∀ {α : Type}, ([] : List α).length = (0 : Nat)) ∧
  ((↑(0 : Nat) : Int) = (0 : Int)) ∧
  ((!Bool.true) = Bool.false) ∧
  ((!Bool.false) = Bool.true) ∧
  (∀ {α β : Type} (f : α → Option β), Option.none.bind f = Option.none) ∧
  (∀ {α : Type} [inst : BEq α] [LawfulBEq α] {a b : α}, (a != b) = Bool.false ↔ a = b) ∧
  (∀ {α : Type} [inst : BEq α] [LawfulBEq α] {a b : α}, (a == b) = Bool.false ↔ a ≠ b) ∧
  (∀ (b : Bool), ((!b) = Bool.true) = (b = Bool.false)) ∧
  (∀ (b : Bool), ((!b) = Bool.false) = (b = Bool.true)) :=
  ⟨@decide_eq_true_eq, @decide_eq_false_iff_not, @beq_iff_eq.{0}, @bne_iff_ne.{0}, @ne_eq.{1}, @gt_iff_lt.{0}, @ge_iff_le.{0}, @ile_t, @ile_f, @ilt_t, @ilt_f, @ieq_t, @ieq_f, @nle_t, @nle_f, @nlt_t, @nlt_f, @not_true_eq_false, @not_false_eq_true, @true_and, @and_true, @false_and, @and_false, @and_self, @or_true, @true_or, @or_false, @false_or, @Option.bind_some.{0,0}, @Nat.zero_add, @Nat.add_zero, @Nat.sub_zero, @Int.toNat_natCast, @Int.toNat_zero, @wrap_i64, @wrap_u32_id, @wrap_u64_id, @wrap_u8_id, @List.take_zero.{0}, @List.nil_append.{0}, @beq_self_eq_true.{0}, @bne_self_eq_false.{0}, @eq_self.{1}, @Bool.false_eq_true, @Bool.true_eq_false, @List.length_nil.{0}, @Int.natCast_zero, @Bool.not_true, @Bool.not_false, @Option.bind_none.{0,0}, @bne_eq_false_iff_eq.{0}, @beq_eq_false_iff_ne.{0}, @Bool.not_eq_true', @Bool.not_eq_false'⟩
/-- What digits are worth, the lowest first. -/
def V (B : Int) : List Int → Int
  | [] => 0
  | x :: r => x + B * V B r
/-- Digits of the base. -/
def Dg (B : Int) (l : List Int) : Prop := ∀ x ∈ l, 0 ≤ x ∧ x < B
/-- Without the noughts at the end. -/
def tl : List Int → List Int
  | [] => []
  | x :: r => if x = 0 ∧ tl r = [] then [] else x :: tl r
theorem tl_snoc (l : List Int) (x : Int) : tl (l ++ [x]) = if x = 0 then tl l else l ++ [x] := by
  induction l with
  | nil => by_cases h : x = 0 <;> simp [tl, h]
  | cons y l ih =>
    simp only [List.cons_append, tl, ih]
    by_cases h : x = 0
    · simp [h]
    · simp [h]
theorem tl_len (l : List Int) : (tl l).length ≤ l.length := by
  induction l with
  | nil => exact Nat.le_refl _
  | cons x r ih => simp only [tl]; split <;> simp; omega
theorem tl_take (l : List Int) : l.take (tl l).length = tl l := by
  induction l with
  | nil => rfl
  | cons x r ih =>
    simp only [tl]
    split
    · rfl
    · simp [ih]
theorem tl_tl (l : List Int) : tl (tl l) = tl l := by
  induction l with
  | nil => rfl
  | cons x r ih =>
    simp only [tl]
    split
    · rfl
    · rename_i h
      simp only [tl, ih]
      rw [if_neg h]
section
variable {B : Int}
theorem Dg.nil : Dg B [] := fun x h => by cases h
theorem Dg.cons {x : Int} {l : List Int} (h : 0 ≤ x ∧ x < B) (hl : Dg B l) : Dg B (x :: l) := fun y hy => by
  rcases List.mem_cons.1 hy with rfl | hy
  · exact h
  · exact hl y hy
theorem Dg.tail {x : Int} {l : List Int} (h : Dg B (x :: l)) : Dg B l := fun y hy => h y (List.mem_cons_of_mem _ hy)
theorem Dg.head {x : Int} {l : List Int} (h : Dg B (x :: l)) : 0 ≤ x ∧ x < B := h x (List.mem_cons_self ..)
theorem Dg.append {l m : List Int} (h1 : Dg B l) (h2 : Dg B m) : Dg B (l ++ m) := fun y hy => by
  rcases List.mem_append.1 hy with hy | hy
  · exact h1 y hy
  · exact h2 y hy
theorem Dg.take {l : List Int} (h : Dg B l) (n : Nat) : Dg B (l.take n) := fun y hy => h y (List.mem_of_mem_take hy)
theorem Dg.drop {l : List Int} (h : Dg B l) (n : Nat) : Dg B (l.drop n) := fun y hy => h y (List.mem_of_mem_drop hy)
theorem Dg.set {l : List Int} (h : Dg B l) (i : Nat) {x : Int} (hx : 0 ≤ x ∧ x < B) : Dg B (l.set i x) := fun y hy => by
  rcases List.mem_or_eq_of_mem_set hy with hy | rfl
  · exact h y hy
  · exact hx
theorem Dg.tl {l : List Int} (h : Dg B l) : Dg B (tl l) := by rw [← tl_take]; exact h.take _
theorem V_nonneg (hB : 0 ≤ B) {l : List Int} (h : Dg B l) : 0 ≤ V B l := by
  induction l with
  | nil => exact Int.le_refl _
  | cons x l ih => have := Int.mul_nonneg hB (ih h.tail); have := h.head; simp only [V]; omega
/-- Digits in the one form. -/
def Cn (B : Int) (l : List Int) : Prop := Dg B l ∧ tl l = l
theorem Cn.of {l : List Int} (h : Dg B l) : Cn B (tl l) := ⟨h.tl, tl_tl l⟩
theorem Cn.nil : Cn B [] := ⟨Dg.nil, rfl⟩
theorem Cn.tail {x : Int} {l : List Int} (h : Cn B (x :: l)) : Cn B l := by
  refine ⟨h.1.tail, ?_⟩
  have := h.2
  simp only [tl] at this
  split at this
  · cases this
  · simpa using this
theorem Cn.pos {x : Int} {l : List Int} (hB : 0 < B) (h : Cn B (x :: l)) : 0 < V B (x :: l) := by
  induction l generalizing x with
  | nil =>
    have h1 := h.1.head
    have h2 := h.2
    simp only [tl, and_true] at h2
    simp only [V, Int.mul_zero, Int.add_zero]
    split at h2
    · cases h2
    · omega
  | cons y l ih =>
    have := ih h.tail
    have := Int.mul_pos hB this
    have := h.1.head
    rw [V]
    omega
theorem Cn.ext (hB : 0 < B) : ∀ {l m : List Int}, Cn B l → Cn B m → V B l = V B m → l = m := by
  intro l
  induction l with
  | nil =>
    intro m h1 h2 e
    cases m with
    | nil => rfl
    | cons y m => have := h2.pos hB; rw [← e] at this; simp [V] at this
  | cons x l ih =>
    intro m h1 h2 e
    cases m with
    | nil => have := h1.pos hB; rw [e] at this; simp [V] at this
    | cons y m =>
      have hx := h1.1.head
      have hy := h2.1.head
      simp only [V] at e
      have e1 : x = y := by
        have a1 : (x + B * V B l) % B = x := by rw [Int.add_mul_emod_self_left]; exact Int.emod_eq_of_lt hx.1 hx.2
        have a2 : (y + B * V B m) % B = y := by rw [Int.add_mul_emod_self_left]; exact Int.emod_eq_of_lt hy.1 hy.2
        rw [← a1, ← a2, e]
      subst e1
      have e2 : B * V B l = B * V B m := by omega
      have e3 := Int.eq_of_mul_eq_mul_left (by omega) e2
      rw [ih h1.tail h2.tail e3]
theorem Cn.nil_iff (hB : 0 < B) {l : List Int} (h : Cn B l) : l = [] ↔ V B l = 0 := by
  constructor
  · rintro rfl; rfl
  · intro e; exact Cn.ext hB h Cn.nil e
/-- The last digit isn't 0. -/
theorem Cn.last {l : List Int} (h : Dg B l) : tl l = l ↔ l = [] ∨ ∃ m x, l = m ++ [x] ∧ x ≠ 0 := by
  rcases List.eq_nil_or_concat l with rfl | ⟨m, x, rfl⟩
  · simp [tl]
  · simp only [List.concat_eq_append, tl_snoc]
    constructor
    · intro e
      refine .inr ⟨m, x, rfl, fun h0 => ?_⟩
      rw [if_pos h0] at e
      have := tl_len m
      rw [e] at this
      simp at this
      omega
    · rintro (e | ⟨m', x', e, h0⟩)
      · simp at e
      · obtain ⟨h1, h2⟩ := List.append_inj' e rfl
        simp only [List.cons.injEq, and_true] at h2
        rw [h2, if_neg h0]
end
/-- A signed number: its sign and its digits in the one form. -/
structure Nm (B : Int) (s : Bool) (l : List Int) (z : Int) : Prop where
  c : Cn B l
  sg : s = true → l ≠ []
  z : (if s then -(V B l) else V B l) = z
theorem Nm.ext {B : Int} (hB : 0 < B) {s t : Bool} {l m : List Int} {z : Int} (h1 : Nm B s l z) (h2 : Nm B t m z) : s = t ∧ l = m := by
  have p1 := V_nonneg (B := B) (by omega) h1.c.1
  have p2 := V_nonneg (B := B) (by omega) h2.c.1
  have q1 := h1.c.nil_iff hB
  have q2 := h2.c.nil_iff hB
  have e1 := h1.z
  have e2 := h2.z
  have s1 := h1.sg
  have s2 := h2.sg
  cases s <;> cases t
  · refine ⟨rfl, Cn.ext hB h1.c h2.c ?_⟩
    simp at e1 e2; omega
  · have := s2 rfl
    simp at e1 e2
    exact absurd (q2.2 (by omega)) this
  · have := s1 rfl
    simp at e1 e2
    exact absurd (q1.2 (by omega)) this
  · refine ⟨rfl, Cn.ext hB h1.c h2.c ?_⟩
    simp at e1 e2; omega
theorem Nm.neg {B : Int} (hB : 0 < B) {s : Bool} {l : List Int} {z : Int} (h : Nm B s l z) : s = decide (z < 0) := by
  have p := V_nonneg (B := B) (by omega) h.c.1
  have e := h.z
  cases s
  · simp at e
    rw [eq_comm, decide_eq_false_iff_not]; omega
  · have := h.sg rfl
    have q := mt (h.c.nil_iff hB).2 this
    simp at e
    rw [eq_comm, decide_eq_true_eq]; omega
theorem Nm.of {B : Int} (hB : 0 < B) {l : List Int} (h : Cn B l) {z : Int} (e : V B l = z.natAbs) : Nm B (decide (z < 0)) l z := by
  have p := V_nonneg (B := B) (by omega) h.1
  refine ⟨h, fun hs h0 => ?_, ?_⟩
  · have := (h.nil_iff hB).1 h0
    simp at hs; omega
  · by_cases hz : z < 0
    · simp [hz]; omega
    · simp [hz]; omega
end Go.Proofs.YtlnailgfialgnaaDoor.Am

/- Plain reckoning: loops that look through a row. -/
set_option linter.unusedVariables false
set_option linter.unusedSimpArgs false
namespace Go.Proofs.YtlnailgfialgnaaDoor.Am
open Go
theorem Rl.t {α : Type} {c : Prop} [Decidable c] {f g : Nat → Nat → Option α} {r : α} (h : c) (hf : Rl f r) : Rl (fun k n => if c then f k n else g k n) r := by
  simpa only [if_pos h] using hf
theorem Rl.f {α : Type} {c : Prop} [Decidable c] {f g : Nat → Nat → Option α} {r : α} (h : ¬ c) (hg : Rl g r) : Rl (fun k n => if c then f k n else g k n) r := by
  simpa only [if_neg h] using hg
theorem Rl.at {α β : Type} {o : Option α} {g : Nat → Nat → α → Option β} {x : α} {r : β} (h : o = some x) (hg : Rl (fun k n => g k n x) r) : Rl (fun k n => Option.bind o (g k n)) r := by
  simpa only [h, Option.bind_some] using hg
theorem getD_some {α : Type} {l : List α} {i : Nat} (d : α) (h : i < l.length) : l[i]? = some (l.getD i d) := by
  rw [List.getElem?_eq_getElem h]; simp [List.getD, h]
/-- A loop that looks at each place, and leaves at the first that isn't right. -/
theorem scan {A B : Type} (L s : Nat) (F : Nat → Nat → Int → Option (A ⊕ B)) (b : B) (P : A → Prop) (ok : Nat → Prop)
    (hend : Rl (fun k n => F k n (L : Int)) (.inr b))
    (hgo : ∀ i : Nat, s ≤ i → i < L → ok i → ∀ o, Rl (fun k n => F k n ((i : Int) + 1)) o → Rl (fun k n => F k n (i : Int)) o)
    (hno : ∀ i : Nat, s ≤ i → i < L → ¬ ok i → ∃ a, P a ∧ Rl (fun k n => F k n (i : Int)) (.inl a)) :
    ∀ d i : Nat, s ≤ i → i + d = L → ∃ o, Rl (fun k n => F k n (i : Int)) o ∧ ((∀ j, i ≤ j → j < L → ok j) ∧ o = .inr b ∨ (¬ ∀ j, i ≤ j → j < L → ok j) ∧ ∃ a, P a ∧ o = .inl a) := by
  intro d
  induction d with
  | zero =>
    intro i hs hi
    obtain rfl : i = L := by omega
    exact ⟨_, hend, .inl ⟨fun j h1 h2 => absurd h2 (by omega), rfl⟩⟩
  | succ d ih =>
    intro i hs hi
    by_cases h : ok i
    · obtain ⟨o, h1, h2⟩ := ih (i + 1) (by omega) (by omega)
      refine ⟨o, hgo i hs (by omega) h o h1, ?_⟩
      have e : (∀ j, i + 1 ≤ j → j < L → ok j) ↔ (∀ j, i ≤ j → j < L → ok j) := ⟨fun g j j1 j2 => by
        rcases Nat.lt_or_ge i j with k | k
        · exact g j k j2
        · exact (show i = j by omega) ▸ h, fun g j j1 j2 => g j (by omega) j2⟩
      rwa [e] at h2
    · obtain ⟨a, h1, h2⟩ := hno i hs (by omega) h
      exact ⟨_, h2, .inr ⟨fun g => h (g i (Nat.le_refl _) (by omega)), a, h1, rfl⟩⟩
end Go.Proofs.YtlnailgfialgnaaDoor.Am

/- The fixed fact that every law of layer 20 asks first. -/
set_option linter.unusedVariables false
set_option linter.unusedSimpArgs false
set_option maxRecDepth 10000
namespace Go.Proofs.YtlnailgfialgnaaDoor.Am
open Go
theorem fix20 {α : Type} {f : Nat → Option α} {x : α} (h : ∀ j, f (j + 40) = some x) : Rn f x := Rn.eq 40 fun k hk => by
  obtain ⟨j, rfl⟩ : ∃ j, k = j + 40 := ⟨k - 40, by omega⟩
  exact h j
theorem awake20_ev : Rn (fun k => Fshuntlaw20_awake k) true := fix20 fun j => by kernel_rfl
end Go.Proofs.YtlnailgfialgnaaDoor.Am

/- Plain reckoning: rows of whole numbers within the probe's bounds. -/
set_option linter.unusedVariables false
set_option linter.unusedSimpArgs false
set_option maxRecDepth 10000
namespace Go.Proofs.YtlnailgfialgnaaDoor.Am
open Go
def okV (x : Int) : Prop := -2000000000000000000 ≤ x ∧ x ≤ 2000000000000000000
def okVs (l : List Int) : Prop := ∀ j, j < l.length → okV (l.getD j 0)
theorem okV_of {x : Int} (h1 : ¬ x > 2000000000000000000) (h2 : ¬ x < -2000000000000000000) : okV x := ⟨by omega, by omega⟩
theorem rout_loop (l : List Int) (hl : l.length ≤ 1000000000000000000) : ∃ o, Rl (fun k n => Lshuntref20_Outside_0 k n l (0 : Nat)) o ∧
    ((∀ j, 0 ≤ j → j < l.length → okV (l.getD j 0)) ∧ o = .inr () ∨ (¬ ∀ j, 0 ≤ j → j < l.length → okV (l.getD j 0)) ∧ ∃ a : Bool, a = true ∧ o = .inl a) := by
  refine scan l.length 0 (fun k n i => Lshuntref20_Outside_0 k n l i) () (fun a => a = true) (fun j => okV (l.getD j 0)) ?_ ?_ ?_ l.length 0 (by omega) (by omega)
  · refine Rl.up (f := fun k n => Lshuntref20_Outside_0 k n l l.length) (Rl.of 0 fun k n _ => ?_)
    show Lshuntref20_Outside_0s k (Lshuntref20_Outside_0 k n) _ _ = _
    unfold Lshuntref20_Outside_0s
    exact if_neg (by first | omega | (simp only [decide_eq_true_eq, decide_eq_false_iff_not, Int.toNat_natCast, beq_iff_eq, bne_iff_ne, ne_eq, Int.not_lt, Int.not_le, ge_iff_le, gt_iff_lt, beq_eq_false_iff_ne, Nat.zero_add]; omega))
  · intro i hs hi hok o ho
    refine Rl.up (f := fun k n => Lshuntref20_Outside_0 k n l i) ?_
    show Rl (fun k n => Lshuntref20_Outside_0s k (Lshuntref20_Outside_0 k n) _ _) _
    unfold Lshuntref20_Outside_0s
    obtain ⟨h1, h2⟩ := hok
    rw [wrap_i64 (x := (i : Int) + 1) (by omega)]
    exact Rl.t (by first | omega | (simp only [decide_eq_true_eq, decide_eq_false_iff_not, Int.toNat_natCast, beq_iff_eq, bne_iff_ne, ne_eq, Int.not_lt, Int.not_le, ge_iff_le, gt_iff_lt, beq_eq_false_iff_ne, Nat.zero_add]; omega)) (Rl.t (by first | omega | (simp only [decide_eq_true_eq, decide_eq_false_iff_not, Int.toNat_natCast, beq_iff_eq, bne_iff_ne, ne_eq, Int.not_lt, Int.not_le, ge_iff_le, gt_iff_lt, beq_eq_false_iff_ne, Nat.zero_add]; omega)) (Rl.at (getD_some 0 (by first | omega | (simp only [decide_eq_true_eq, decide_eq_false_iff_not, Int.toNat_natCast, beq_iff_eq, bne_iff_ne, ne_eq, Int.not_lt, Int.not_le, ge_iff_le, gt_iff_lt, beq_eq_false_iff_ne, Nat.zero_add]; omega))) (Rl.t (by first | omega | (simp only [decide_eq_true_eq, decide_eq_false_iff_not, Int.toNat_natCast, beq_iff_eq, bne_iff_ne, ne_eq, Int.not_lt, Int.not_le, ge_iff_le, gt_iff_lt, beq_eq_false_iff_ne, Nat.zero_add]; omega)) (Rl.t (by first | omega | (simp only [decide_eq_true_eq, decide_eq_false_iff_not, Int.toNat_natCast, beq_iff_eq, bne_iff_ne, ne_eq, Int.not_lt, Int.not_le, ge_iff_le, gt_iff_lt, beq_eq_false_iff_ne, Nat.zero_add]; omega)) (Rl.at (getD_some 0 (by first | omega | (simp only [decide_eq_true_eq, decide_eq_false_iff_not, Int.toNat_natCast, beq_iff_eq, bne_iff_ne, ne_eq, Int.not_lt, Int.not_le, ge_iff_le, gt_iff_lt, beq_eq_false_iff_ne, Nat.zero_add]; omega))) (Rl.f (by first | omega | (simp only [decide_eq_true_eq, decide_eq_false_iff_not, Int.toNat_natCast, beq_iff_eq, bne_iff_ne, ne_eq, Int.not_lt, Int.not_le, ge_iff_le, gt_iff_lt, beq_eq_false_iff_ne, Nat.zero_add]; omega)) ho))))))
  · intro i hs hi hok
    refine ⟨true, rfl, Rl.up (f := fun k n => Lshuntref20_Outside_0 k n l i) ?_⟩
    show Rl (fun k n => Lshuntref20_Outside_0s k (Lshuntref20_Outside_0 k n) _ _) _
    unfold Lshuntref20_Outside_0s
    refine Rl.t (by first | omega | (simp only [decide_eq_true_eq, decide_eq_false_iff_not, Int.toNat_natCast, beq_iff_eq, bne_iff_ne, ne_eq, Int.not_lt, Int.not_le, ge_iff_le, gt_iff_lt, beq_eq_false_iff_ne, Nat.zero_add]; omega)) (Rl.t (by first | omega | (simp only [decide_eq_true_eq, decide_eq_false_iff_not, Int.toNat_natCast, beq_iff_eq, bne_iff_ne, ne_eq, Int.not_lt, Int.not_le, ge_iff_le, gt_iff_lt, beq_eq_false_iff_ne, Nat.zero_add]; omega)) (Rl.at (getD_some 0 (by first | omega | (simp only [decide_eq_true_eq, decide_eq_false_iff_not, Int.toNat_natCast, beq_iff_eq, bne_iff_ne, ne_eq, Int.not_lt, Int.not_le, ge_iff_le, gt_iff_lt, beq_eq_false_iff_ne, Nat.zero_add]; omega))) ?_))
    by_cases h1 : l.getD i 0 > 2000000000000000000
    · exact Rl.f (by first | omega | (simp only [decide_eq_true_eq, decide_eq_false_iff_not, Int.toNat_natCast, beq_iff_eq, bne_iff_ne, ne_eq, Int.not_lt, Int.not_le, ge_iff_le, gt_iff_lt, beq_eq_false_iff_ne, Nat.zero_add]; omega)) (Rl.pure _)
    have h2 : l.getD i 0 < -2000000000000000000 := by
      by_cases h2 : l.getD i 0 < -2000000000000000000
      · exact h2
      · exact absurd (okV_of h1 h2) hok
    exact Rl.t (by first | omega | (simp only [decide_eq_true_eq, decide_eq_false_iff_not, Int.toNat_natCast, beq_iff_eq, bne_iff_ne, ne_eq, Int.not_lt, Int.not_le, ge_iff_le, gt_iff_lt, beq_eq_false_iff_ne, Nat.zero_add]; omega)) (Rl.t (by first | omega | (simp only [decide_eq_true_eq, decide_eq_false_iff_not, Int.toNat_natCast, beq_iff_eq, bne_iff_ne, ne_eq, Int.not_lt, Int.not_le, ge_iff_le, gt_iff_lt, beq_eq_false_iff_ne, Nat.zero_add]; omega)) (Rl.at (getD_some 0 (by first | omega | (simp only [decide_eq_true_eq, decide_eq_false_iff_not, Int.toNat_natCast, beq_iff_eq, bne_iff_ne, ne_eq, Int.not_lt, Int.not_le, ge_iff_le, gt_iff_lt, beq_eq_false_iff_ne, Nat.zero_add]; omega))) (Rl.t (by first | omega | (simp only [decide_eq_true_eq, decide_eq_false_iff_not, Int.toNat_natCast, beq_iff_eq, bne_iff_ne, ne_eq, Int.not_lt, Int.not_le, ge_iff_le, gt_iff_lt, beq_eq_false_iff_ne, Nat.zero_add]; omega)) (Rl.pure _))))
theorem rOutside_ev (l : List Int) (hl : l.length ≤ 1000000000000000000) : ∃ b, Rn (fun k => Fshuntref20_Outside k l) b ∧ (b = false → okVs l) := by
  obtain ⟨o, h1, h2⟩ := rout_loop l hl
  have hb : ∀ b, Rn (fun k => eitherK o (fun r1 => some r1) (fun r1 => some false)) b → Rn (fun k => Fshuntref20_Outside k l) b := by
    intro b h
    refine Rn.up (f := fun k => Fshuntref20_Outside k l) ?_
    show Rn (fun k => bshuntref20_Outside k l) _
    unfold bshuntref20_Outside
    exact Rn.bind h1.diag h
  rcases h2 with ⟨h2, rfl⟩ | ⟨h2, a, rfl, rfl⟩
  · exact ⟨false, hb _ (Rn.pure _), fun _ j hj => h2 j (by omega) hj⟩
  · exact ⟨true, hb _ (Rn.pure _), fun h => by cases h⟩
theorem outside_ev {v : Int} (h : okV v) : Rn (fun k => Fprobe_outside k v) false := by
  refine Rn.up (f := fun k => Fprobe_outside k v) ?_
  show Rn (fun k => bprobe_outside k v) _
  unfold bprobe_outside
  obtain ⟨h1, h2⟩ := h
  exact Rn.t (by first | omega | (simp only [decide_eq_true_eq, decide_eq_false_iff_not, Int.toNat_natCast, beq_iff_eq, bne_iff_ne, ne_eq, Int.not_lt, Int.not_le, ge_iff_le, gt_iff_lt, beq_eq_false_iff_ne, Nat.zero_add]; omega)) (Rn.const (congrArg some (decide_eq_false (by omega))))
theorem index_loop (l : List Int) (hl : l.length ≤ 1000000000000000000) (h : okVs l) : ∀ d i : Nat, i + d = l.length → Rl (fun k n => Lslices_IndexFunc_int64_int64__xcv_0 k n l l.length (i : Int)) (.inr ()) := by
  intro d
  induction d with
  | zero =>
    intro i hi
    refine Rl.up (f := fun k n => Lslices_IndexFunc_int64_int64__xcv_0 k n l l.length i) ?_
    show Rl (fun k n => Lslices_IndexFunc_int64_int64__xcv_0s k (Lslices_IndexFunc_int64_int64__xcv_0 k n) _ _ _) _
    unfold Lslices_IndexFunc_int64_int64__xcv_0s
    exact Rl.f (by first | omega | (simp only [decide_eq_true_eq, decide_eq_false_iff_not, Int.toNat_natCast, beq_iff_eq, bne_iff_ne, ne_eq, Int.not_lt, Int.not_le, ge_iff_le, gt_iff_lt, beq_eq_false_iff_ne, Nat.zero_add]; omega)) (Rl.pure _)
  | succ d ih =>
    intro i hi
    have := ih (i + 1) (by omega)
    refine Rl.up (f := fun k n => Lslices_IndexFunc_int64_int64__xcv_0 k n l l.length i) ?_
    show Rl (fun k n => Lslices_IndexFunc_int64_int64__xcv_0s k (Lslices_IndexFunc_int64_int64__xcv_0 k n) _ _ _) _
    unfold Lslices_IndexFunc_int64_int64__xcv_0s
    rw [wrap_i64 (x := (i : Int) + 1) (by omega)]
    refine Rl.t (by first | omega | (simp only [decide_eq_true_eq, decide_eq_false_iff_not, Int.toNat_natCast, beq_iff_eq, bne_iff_ne, ne_eq, Int.not_lt, Int.not_le, ge_iff_le, gt_iff_lt, beq_eq_false_iff_ne, Nat.zero_add]; omega)) (Rl.t (by first | omega | (simp only [decide_eq_true_eq, decide_eq_false_iff_not, Int.toNat_natCast, beq_iff_eq, bne_iff_ne, ne_eq, Int.not_lt, Int.not_le, ge_iff_le, gt_iff_lt, beq_eq_false_iff_ne, Nat.zero_add]; omega)) (Rl.at (getD_some 0 (by first | omega | (simp only [decide_eq_true_eq, decide_eq_false_iff_not, Int.toNat_natCast, beq_iff_eq, bne_iff_ne, ne_eq, Int.not_lt, Int.not_le, ge_iff_le, gt_iff_lt, beq_eq_false_iff_ne, Nat.zero_add]; omega))) (Rl.bind (outside_ev ?_) (Rl.f (by simp) this))))
    rw [Int.toNat_natCast]
    exact h i (by omega)
theorem look_ev (l : List Int) (hl : l.length ≤ 1000000000000000000) (h : okVs l) : ∃ r : Int, r ≠ 4 ∧ Rn (fun k => Fprobe_look k l) r := by
  have h1 : Rn (fun k => Fslices_IndexFunc_int64_int64__xcv k l) (-1) := by
    refine Rn.up (f := fun k => Fslices_IndexFunc_int64_int64__xcv k l) ?_
    show Rn (fun k => bslices_IndexFunc_int64_int64__xcv k l) _
    unfold bslices_IndexFunc_int64_int64__xcv
    exact Rn.bind (index_loop l hl h l.length 0 (by omega)).diag (Rn.pure _)
  have h2 : Rn (fun k => Fslices_ContainsFunc_int64_int64__xcv k l) false := by
    refine Rn.up (f := fun k => Fslices_ContainsFunc_int64_int64__xcv k l) ?_
    show Rn (fun k => bslices_ContainsFunc_int64_int64__xcv k l) _
    unfold bslices_ContainsFunc_int64_int64__xcv
    exact Rn.bind h1 (Rn.const rfl)
  have hb : ∀ b, Rn (fun k => if (((l.length : Int) == 0) = true) then some 6 else some 0) b → Rn (fun k => Fprobe_look k l) b := by
    intro b hh
    refine Rn.up (f := fun k => Fprobe_look k l) ?_
    show Rn (fun k => bprobe_look k l) _
    unfold bprobe_look
    exact Rn.bind h2 (Rn.f (by simp) hh)
  by_cases h0 : l.length = 0
  · exact ⟨6, by decide, hb _ (Rn.t (by first | omega | (simp only [decide_eq_true_eq, decide_eq_false_iff_not, Int.toNat_natCast, beq_iff_eq, bne_iff_ne, ne_eq, Int.not_lt, Int.not_le, ge_iff_le, gt_iff_lt, beq_eq_false_iff_ne, Nat.zero_add]; omega)) (Rn.pure _))⟩
  · exact ⟨0, by decide, hb _ (Rn.f (by first | omega | (simp only [decide_eq_true_eq, decide_eq_false_iff_not, Int.toNat_natCast, beq_iff_eq, bne_iff_ne, ne_eq, Int.not_lt, Int.not_le, ge_iff_le, gt_iff_lt, beq_eq_false_iff_ne, Nat.zero_add]; omega)) (Rn.pure _))⟩
end Go.Proofs.YtlnailgfialgnaaDoor.Am

/- The law ProbeRises in plain words. -/
set_option linter.unusedVariables false
set_option linter.unusedSimpArgs false
set_option maxRecDepth 10000
namespace Go.Proofs.YtlnailgfialgnaaDoor.Am
open Go
def cU (row : List Int) (level : Int) : Nat → Nat
  | 0 => 0
  | i + 1 => cU row level i + (if 0 < i ∧ row.getD (i - 1) 0 < level ∧ level ≤ row.getD i 0 then 1 else 0)
theorem cU_t {row : List Int} {level : Int} {i : Nat} (h : 0 < i ∧ row.getD (i - 1) 0 < level ∧ level ≤ row.getD i 0) : cU row level (i + 1) = cU row level i + 1 := by
  show cU row level i + _ = _
  rw [if_pos h]
theorem cU_f {row : List Int} {level : Int} {i : Nat} (h : ¬ (0 < i ∧ row.getD (i - 1) 0 < level ∧ level ≤ row.getD i 0)) : cU row level (i + 1) = cU row level i := by
  show cU row level i + _ = _
  rw [if_neg h]; rfl
theorem cU_mono (row : List Int) (level : Int) (i : Nat) : ∀ d, cU row level i ≤ cU row level (i + d)
  | 0 => Nat.le_refl _
  | d + 1 => Nat.le_trans (cU_mono row level i d) (Nat.le_add_right _ _)
theorem cU_le (row : List Int) (level : Int) {i j : Nat} (h : i ≤ j) : cU row level i ≤ cU row level j := by
  have := cU_mono row level i (j - i)
  rwa [Nat.add_sub_cancel' h] at this
theorem cU_lt (row : List Int) (level : Int) {i t j : Nat} (h1 : i ≤ t) (h2 : t < j) (h : 0 < t ∧ row.getD (t - 1) 0 < level ∧ level ≤ row.getD t 0) : cU row level i + 1 ≤ cU row level j := by
  have a := cU_le row level h1
  have b := cU_le row level (show t + 1 ≤ j by omega)
  have c := cU_t h
  omega
theorem cU_top (row : List Int) (level : Int) : ∀ i, cU row level (i + 1) ≤ i
  | 0 => by rw [cU_f (by omega)]; exact Nat.le_refl _
  | i + 1 => by
    have := cU_top row level i
    show cU row level (i + 1) + _ ≤ _
    split <;> omega
section
variable (row : List Int) (level : Int) (hl : row.length ≤ 1000000000000000000)
include hl
theorem rise_loop : ∀ d i m : Nat, 1 ≤ i → 1 ≤ m → m ≤ 1000000000000000000 → i + d = max row.length 1 → ∃ o, Rl (fun k n => Lprobe_Rise_0 k n row level (m : Int) (i : Int)) o ∧
    ((∃ a : Nat, i ≤ a ∧ a < row.length ∧ (0 < a ∧ row.getD (a - 1) 0 < level ∧ level ≤ row.getD a 0) ∧ cU row level a + 1 = cU row level i + m ∧ o = .inl ((a : Int), 0)) ∨ cU row level (max row.length 1) < cU row level i + m ∧ o = .inr ()) := by
  intro d
  induction d with
  | zero =>
    intro i m hi hm hm2 e
    refine ⟨_, Rl.up (f := fun k n => Lprobe_Rise_0 k n row level (m : Int) (i : Int)) (r := .inr ()) ?_, .inr ⟨?_, rfl⟩⟩
    · show Rl (fun k n => Lprobe_Rise_0s k (Lprobe_Rise_0 k n) _ _ _ _) _
      unfold Lprobe_Rise_0s
      exact Rl.f (by first | omega | (simp only [decide_eq_true_eq, decide_eq_false_iff_not, Int.toNat_natCast, beq_iff_eq, bne_iff_ne, ne_eq, Int.not_lt, Int.not_le, ge_iff_le, gt_iff_lt, beq_eq_false_iff_ne, Nat.zero_add]; omega)) (Rl.pure _)
    · obtain rfl : i = max row.length 1 := by omega
      omega
  | succ d ih =>
    intro i m hi hm hm2 e
    have up : ∀ o, Rl (fun k n => Lprobe_Rise_0s k (Lprobe_Rise_0 k n) row level (m : Int) (i : Int)) o → Rl (fun k n => Lprobe_Rise_0 k n row level (m : Int) (i : Int)) o := fun o h => Rl.up (f := fun k n => Lprobe_Rise_0 k n row level (m : Int) (i : Int)) h
    have e1 : (IntKind.i64.wrap ((i : Int) - 1)) = ((i - 1 : Nat) : Int) := by rw [wrap_i64 (by omega)]; omega
    have e2 : (IntKind.i64.wrap ((m : Int) - 1)) = ((m - 1 : Nat) : Int) := by rw [wrap_i64 (by omega)]; omega
    have e3 : (IntKind.i64.wrap ((i : Int) + 1)) = ((i + 1 : Nat) : Int) := by rw [wrap_i64 (by omega)]; omega
    by_cases c1 : row.getD (i - 1) 0 < level
    · by_cases c2 : level ≤ row.getD i 0
      · have c := cU_t (row := row) (level := level) (i := i) ⟨by omega, c1, c2⟩
        by_cases hm1 : m = 1
        · refine ⟨_, up _ (?_ : Rl _ (.inl ((i : Int), 0))), .inl ⟨i, Nat.le_refl _, by omega, ⟨by omega, c1, c2⟩, by omega, rfl⟩⟩
          unfold Lprobe_Rise_0s
          rw [e1, e2]
          refine Rl.t (by first | omega | (simp only [decide_eq_true_eq, decide_eq_false_iff_not, Int.toNat_natCast, beq_iff_eq, bne_iff_ne, ne_eq, Int.not_lt, Int.not_le, ge_iff_le, gt_iff_lt, beq_eq_false_iff_ne, Nat.zero_add]; omega)) (Rl.t (by first | omega | (simp only [decide_eq_true_eq, decide_eq_false_iff_not, Int.toNat_natCast, beq_iff_eq, bne_iff_ne, ne_eq, Int.not_lt, Int.not_le, ge_iff_le, gt_iff_lt, beq_eq_false_iff_ne, Nat.zero_add]; omega)) (Rl.at (getD_some 0 (by first | omega | (simp only [decide_eq_true_eq, decide_eq_false_iff_not, Int.toNat_natCast, beq_iff_eq, bne_iff_ne, ne_eq, Int.not_lt, Int.not_le, ge_iff_le, gt_iff_lt, beq_eq_false_iff_ne, Nat.zero_add]; omega))) ?_))
          rw [Int.toNat_natCast]
          refine Rl.t (by first | omega | (simp only [decide_eq_true_eq, decide_eq_false_iff_not, Int.toNat_natCast, beq_iff_eq, bne_iff_ne, ne_eq, Int.not_lt, Int.not_le, ge_iff_le, gt_iff_lt, beq_eq_false_iff_ne, Nat.zero_add]; omega)) (Rl.t (by first | omega | (simp only [decide_eq_true_eq, decide_eq_false_iff_not, Int.toNat_natCast, beq_iff_eq, bne_iff_ne, ne_eq, Int.not_lt, Int.not_le, ge_iff_le, gt_iff_lt, beq_eq_false_iff_ne, Nat.zero_add]; omega)) (Rl.at (getD_some 0 (by first | omega | (simp only [decide_eq_true_eq, decide_eq_false_iff_not, Int.toNat_natCast, beq_iff_eq, bne_iff_ne, ne_eq, Int.not_lt, Int.not_le, ge_iff_le, gt_iff_lt, beq_eq_false_iff_ne, Nat.zero_add]; omega))) (Rl.t (by first | omega | (simp only [decide_eq_true_eq, decide_eq_false_iff_not, Int.toNat_natCast, beq_iff_eq, bne_iff_ne, ne_eq, Int.not_lt, Int.not_le, ge_iff_le, gt_iff_lt, beq_eq_false_iff_ne, Nat.zero_add]; omega)) (Rl.t (by first | omega | (simp only [decide_eq_true_eq, decide_eq_false_iff_not, Int.toNat_natCast, beq_iff_eq, bne_iff_ne, ne_eq, Int.not_lt, Int.not_le, ge_iff_le, gt_iff_lt, beq_eq_false_iff_ne, Nat.zero_add]; omega)) (Rl.pure _)))))
        · obtain ⟨o, o1, o2⟩ := ih (i + 1) (m - 1) (by omega) (by omega) (by omega) (by omega)
          refine ⟨o, up _ ?_, ?_⟩
          · unfold Lprobe_Rise_0s
            rw [e1, e2, e3]
            refine Rl.t (by first | omega | (simp only [decide_eq_true_eq, decide_eq_false_iff_not, Int.toNat_natCast, beq_iff_eq, bne_iff_ne, ne_eq, Int.not_lt, Int.not_le, ge_iff_le, gt_iff_lt, beq_eq_false_iff_ne, Nat.zero_add]; omega)) (Rl.t (by first | omega | (simp only [decide_eq_true_eq, decide_eq_false_iff_not, Int.toNat_natCast, beq_iff_eq, bne_iff_ne, ne_eq, Int.not_lt, Int.not_le, ge_iff_le, gt_iff_lt, beq_eq_false_iff_ne, Nat.zero_add]; omega)) (Rl.at (getD_some 0 (by first | omega | (simp only [decide_eq_true_eq, decide_eq_false_iff_not, Int.toNat_natCast, beq_iff_eq, bne_iff_ne, ne_eq, Int.not_lt, Int.not_le, ge_iff_le, gt_iff_lt, beq_eq_false_iff_ne, Nat.zero_add]; omega))) ?_))
            rw [Int.toNat_natCast]
            exact Rl.t (by first | omega | (simp only [decide_eq_true_eq, decide_eq_false_iff_not, Int.toNat_natCast, beq_iff_eq, bne_iff_ne, ne_eq, Int.not_lt, Int.not_le, ge_iff_le, gt_iff_lt, beq_eq_false_iff_ne, Nat.zero_add]; omega)) (Rl.t (by first | omega | (simp only [decide_eq_true_eq, decide_eq_false_iff_not, Int.toNat_natCast, beq_iff_eq, bne_iff_ne, ne_eq, Int.not_lt, Int.not_le, ge_iff_le, gt_iff_lt, beq_eq_false_iff_ne, Nat.zero_add]; omega)) (Rl.at (getD_some 0 (by first | omega | (simp only [decide_eq_true_eq, decide_eq_false_iff_not, Int.toNat_natCast, beq_iff_eq, bne_iff_ne, ne_eq, Int.not_lt, Int.not_le, ge_iff_le, gt_iff_lt, beq_eq_false_iff_ne, Nat.zero_add]; omega))) (Rl.t (by first | omega | (simp only [decide_eq_true_eq, decide_eq_false_iff_not, Int.toNat_natCast, beq_iff_eq, bne_iff_ne, ne_eq, Int.not_lt, Int.not_le, ge_iff_le, gt_iff_lt, beq_eq_false_iff_ne, Nat.zero_add]; omega)) (Rl.f (by first | omega | (simp only [decide_eq_true_eq, decide_eq_false_iff_not, Int.toNat_natCast, beq_iff_eq, bne_iff_ne, ne_eq, Int.not_lt, Int.not_le, ge_iff_le, gt_iff_lt, beq_eq_false_iff_ne, Nat.zero_add]; omega)) o1))))
          · rcases o2 with ⟨a, a1, a2, a3, a4, a5⟩ | ⟨a1, a2⟩
            · exact .inl ⟨a, by omega, a2, a3, by omega, a5⟩
            · exact .inr ⟨by omega, a2⟩
      · have c := cU_f (row := row) (level := level) (i := i) (fun h => c2 h.2.2)
        obtain ⟨o, o1, o2⟩ := ih (i + 1) m (by omega) (by omega) (by omega) (by omega)
        refine ⟨o, up _ ?_, ?_⟩
        · unfold Lprobe_Rise_0s
          rw [e1, e3]
          refine Rl.t (by first | omega | (simp only [decide_eq_true_eq, decide_eq_false_iff_not, Int.toNat_natCast, beq_iff_eq, bne_iff_ne, ne_eq, Int.not_lt, Int.not_le, ge_iff_le, gt_iff_lt, beq_eq_false_iff_ne, Nat.zero_add]; omega)) (Rl.t (by first | omega | (simp only [decide_eq_true_eq, decide_eq_false_iff_not, Int.toNat_natCast, beq_iff_eq, bne_iff_ne, ne_eq, Int.not_lt, Int.not_le, ge_iff_le, gt_iff_lt, beq_eq_false_iff_ne, Nat.zero_add]; omega)) (Rl.at (getD_some 0 (by first | omega | (simp only [decide_eq_true_eq, decide_eq_false_iff_not, Int.toNat_natCast, beq_iff_eq, bne_iff_ne, ne_eq, Int.not_lt, Int.not_le, ge_iff_le, gt_iff_lt, beq_eq_false_iff_ne, Nat.zero_add]; omega))) ?_))
          rw [Int.toNat_natCast]
          exact Rl.t (by first | omega | (simp only [decide_eq_true_eq, decide_eq_false_iff_not, Int.toNat_natCast, beq_iff_eq, bne_iff_ne, ne_eq, Int.not_lt, Int.not_le, ge_iff_le, gt_iff_lt, beq_eq_false_iff_ne, Nat.zero_add]; omega)) (Rl.t (by first | omega | (simp only [decide_eq_true_eq, decide_eq_false_iff_not, Int.toNat_natCast, beq_iff_eq, bne_iff_ne, ne_eq, Int.not_lt, Int.not_le, ge_iff_le, gt_iff_lt, beq_eq_false_iff_ne, Nat.zero_add]; omega)) (Rl.at (getD_some 0 (by first | omega | (simp only [decide_eq_true_eq, decide_eq_false_iff_not, Int.toNat_natCast, beq_iff_eq, bne_iff_ne, ne_eq, Int.not_lt, Int.not_le, ge_iff_le, gt_iff_lt, beq_eq_false_iff_ne, Nat.zero_add]; omega))) (Rl.f (by first | omega | (simp only [decide_eq_true_eq, decide_eq_false_iff_not, Int.toNat_natCast, beq_iff_eq, bne_iff_ne, ne_eq, Int.not_lt, Int.not_le, ge_iff_le, gt_iff_lt, beq_eq_false_iff_ne, Nat.zero_add]; omega)) o1)))
        · rcases o2 with ⟨a, a1, a2, a3, a4, a5⟩ | ⟨a1, a2⟩
          · exact .inl ⟨a, by omega, a2, a3, by omega, a5⟩
          · exact .inr ⟨by omega, a2⟩
    · have c := cU_f (row := row) (level := level) (i := i) (fun h => c1 h.2.1)
      obtain ⟨o, o1, o2⟩ := ih (i + 1) m (by omega) (by omega) (by omega) (by omega)
      refine ⟨o, up _ ?_, ?_⟩
      · unfold Lprobe_Rise_0s
        rw [e1, e3]
        refine Rl.t (by first | omega | (simp only [decide_eq_true_eq, decide_eq_false_iff_not, Int.toNat_natCast, beq_iff_eq, bne_iff_ne, ne_eq, Int.not_lt, Int.not_le, ge_iff_le, gt_iff_lt, beq_eq_false_iff_ne, Nat.zero_add]; omega)) (Rl.t (by first | omega | (simp only [decide_eq_true_eq, decide_eq_false_iff_not, Int.toNat_natCast, beq_iff_eq, bne_iff_ne, ne_eq, Int.not_lt, Int.not_le, ge_iff_le, gt_iff_lt, beq_eq_false_iff_ne, Nat.zero_add]; omega)) (Rl.at (getD_some 0 (by first | omega | (simp only [decide_eq_true_eq, decide_eq_false_iff_not, Int.toNat_natCast, beq_iff_eq, bne_iff_ne, ne_eq, Int.not_lt, Int.not_le, ge_iff_le, gt_iff_lt, beq_eq_false_iff_ne, Nat.zero_add]; omega))) ?_))
        rw [Int.toNat_natCast]
        exact Rl.f (by first | omega | (simp only [decide_eq_true_eq, decide_eq_false_iff_not, Int.toNat_natCast, beq_iff_eq, bne_iff_ne, ne_eq, Int.not_lt, Int.not_le, ge_iff_le, gt_iff_lt, beq_eq_false_iff_ne, Nat.zero_add]; omega)) o1
      · rcases o2 with ⟨a, a1, a2, a3, a4, a5⟩ | ⟨a1, a2⟩
        · exact .inl ⟨a, by omega, a2, a3, by omega, a5⟩
        · exact .inr ⟨by omega, a2⟩
theorem rise_ev (hv : okVs row) (ha : okV level) (m : Nat) (hm : 1 ≤ m) (hm2 : m ≤ 1000000000000000000) :
    (∃ a : Nat, 1 ≤ a ∧ a < row.length ∧ (0 < a ∧ row.getD (a - 1) 0 < level ∧ level ≤ row.getD a 0) ∧ cU row level a + 1 = m ∧ Rn (fun k => Fprobe_Rise k row level (m : Int)) ((a : Int), 0)) ∨
    cU row level (max row.length 1) < m ∧ Rn (fun k => Fprobe_Rise k row level (m : Int)) (0, 6) := by
  obtain ⟨o, o1, o2⟩ := rise_loop row level hl (max row.length 1 - 1) 1 m (Nat.le_refl _) hm hm2 (by omega)
  have c1 : cU row level 1 = 0 := cU_f (by omega)
  obtain ⟨r, r1, r2⟩ := look_ev row hl hv
  have hb : ∀ b, Rn (fun k => eitherK o (fun r6 => some (r6.1, r6.2)) (fun r6 => some (0, 6))) b → Rn (fun k => Fprobe_Rise k row level (m : Int)) b := by
    intro b h
    refine Rn.up (f := fun k => Fprobe_Rise k row level (m : Int)) ?_
    show Rn (fun k => bprobe_Rise k row level (m : Int)) _
    unfold bprobe_Rise
    exact Rn.f (by first | omega | (simp only [decide_eq_true_eq, decide_eq_false_iff_not, Int.toNat_natCast, beq_iff_eq, bne_iff_ne, ne_eq, Int.not_lt, Int.not_le, ge_iff_le, gt_iff_lt, beq_eq_false_iff_ne, Nat.zero_add]; omega)) (Rn.bind (outside_ev ha) (Rn.t rfl (Rn.bind r2 (Rn.f (by simpa using r1) (Rn.bind o1.diag h)))))
  rcases o2 with ⟨a, a1, a2, a3, a4, rfl⟩ | ⟨a1, rfl⟩
  · exact .inl ⟨a, a1, a2, a3, by omega, hb _ (Rn.pure _)⟩
  · exact .inr ⟨by omega, hb _ (Rn.pure _)⟩
theorem rest2 (x y : Int) : ∀ d i : Nat, 1 ≤ i → row.length ≤ i + d → (∀ t, i ≤ t → t < row.length → ¬ (0 < t ∧ row.getD (t - 1) 0 < level ∧ level ≤ row.getD t 0)) →
    Rl (fun k n => Lshuntlaw20_ProbeRises_2 k n row level x y (i : Int)) (.inr (x, y)) := by
  intro d
  have fin : ∀ i : Nat, row.length ≤ i → Rl (fun k n => Lshuntlaw20_ProbeRises_2 k n row level x y (i : Int)) (.inr (x, y)) := by
    intro i hi
    refine Rl.up (f := fun k n => Lshuntlaw20_ProbeRises_2 k n row level x y (i : Int)) ?_
    show Rl (fun k n => Lshuntlaw20_ProbeRises_2s k (Lshuntlaw20_ProbeRises_2 k n) _ _ _ _ _) _
    unfold Lshuntlaw20_ProbeRises_2s
    exact Rl.f (by first | omega | (simp only [decide_eq_true_eq, decide_eq_false_iff_not, Int.toNat_natCast, beq_iff_eq, bne_iff_ne, ne_eq, Int.not_lt, Int.not_le, ge_iff_le, gt_iff_lt, beq_eq_false_iff_ne, Nat.zero_add]; omega)) (Rl.pure _)
  induction d with
  | zero => intro i h1 h2 h3; exact fin i (by omega)
  | succ d ih =>
    intro i h1 h2 h3
    by_cases hi : row.length ≤ i
    · exact fin i hi
    have o1 := ih (i + 1) (by omega) (by omega) (fun t t1 t2 => h3 t (by omega) t2)
    refine Rl.up (f := fun k n => Lshuntlaw20_ProbeRises_2 k n row level x y (i : Int)) ?_
    show Rl (fun k n => Lshuntlaw20_ProbeRises_2s k (Lshuntlaw20_ProbeRises_2 k n) _ _ _ _ _) _
    unfold Lshuntlaw20_ProbeRises_2s
    have e1 : (IntKind.i64.wrap ((i : Int) - 1)) = ((i - 1 : Nat) : Int) := by rw [wrap_i64 (by omega)]; omega
    have e3 : (IntKind.i64.wrap ((i : Int) + 1)) = ((i + 1 : Nat) : Int) := by rw [wrap_i64 (by omega)]; omega
    rw [e1, e3]
    refine Rl.t (by first | omega | (simp only [decide_eq_true_eq, decide_eq_false_iff_not, Int.toNat_natCast, beq_iff_eq, bne_iff_ne, ne_eq, Int.not_lt, Int.not_le, ge_iff_le, gt_iff_lt, beq_eq_false_iff_ne, Nat.zero_add]; omega)) (Rl.t (by first | omega | (simp only [decide_eq_true_eq, decide_eq_false_iff_not, Int.toNat_natCast, beq_iff_eq, bne_iff_ne, ne_eq, Int.not_lt, Int.not_le, ge_iff_le, gt_iff_lt, beq_eq_false_iff_ne, Nat.zero_add]; omega)) (Rl.at (getD_some 0 (by first | omega | (simp only [decide_eq_true_eq, decide_eq_false_iff_not, Int.toNat_natCast, beq_iff_eq, bne_iff_ne, ne_eq, Int.not_lt, Int.not_le, ge_iff_le, gt_iff_lt, beq_eq_false_iff_ne, Nat.zero_add]; omega))) ?_))
    rw [Int.toNat_natCast]
    by_cases c1 : row.getD (i - 1) 0 < level
    · have c2 : ¬ level ≤ row.getD i 0 := fun c2 => h3 i (Nat.le_refl _) (by omega) ⟨by omega, c1, c2⟩
      exact Rl.t (by first | omega | (simp only [decide_eq_true_eq, decide_eq_false_iff_not, Int.toNat_natCast, beq_iff_eq, bne_iff_ne, ne_eq, Int.not_lt, Int.not_le, ge_iff_le, gt_iff_lt, beq_eq_false_iff_ne, Nat.zero_add]; omega)) (Rl.t (by first | omega | (simp only [decide_eq_true_eq, decide_eq_false_iff_not, Int.toNat_natCast, beq_iff_eq, bne_iff_ne, ne_eq, Int.not_lt, Int.not_le, ge_iff_le, gt_iff_lt, beq_eq_false_iff_ne, Nat.zero_add]; omega)) (Rl.at (getD_some 0 (by first | omega | (simp only [decide_eq_true_eq, decide_eq_false_iff_not, Int.toNat_natCast, beq_iff_eq, bne_iff_ne, ne_eq, Int.not_lt, Int.not_le, ge_iff_le, gt_iff_lt, beq_eq_false_iff_ne, Nat.zero_add]; omega))) (Rl.f (by first | omega | (simp only [decide_eq_true_eq, decide_eq_false_iff_not, Int.toNat_natCast, beq_iff_eq, bne_iff_ne, ne_eq, Int.not_lt, Int.not_le, ge_iff_le, gt_iff_lt, beq_eq_false_iff_ne, Nat.zero_add]; omega)) o1)))
    · exact Rl.f (by first | omega | (simp only [decide_eq_true_eq, decide_eq_false_iff_not, Int.toNat_natCast, beq_iff_eq, bne_iff_ne, ne_eq, Int.not_lt, Int.not_le, ge_iff_le, gt_iff_lt, beq_eq_false_iff_ne, Nat.zero_add]; omega)) o1
theorem rest4 (x : Int) (L : Nat) (hL : L ≤ row.length) : ∀ d i : Nat, 1 ≤ i → L = i + d → (∀ t, i ≤ t → t < L → ¬ (0 < t ∧ row.getD (t - 1) 0 < level ∧ level ≤ row.getD t 0)) →
    Rl (fun k n => Lshuntlaw20_ProbeRises_4 k n row level x (L : Int) (i : Int)) (.inr (row, level, x, (L : Int))) := by
  intro d
  induction d with
  | zero =>
    intro i h1 h2 h3
    refine Rl.up (f := fun k n => Lshuntlaw20_ProbeRises_4 k n row level x (L : Int) (i : Int)) ?_
    show Rl (fun k n => Lshuntlaw20_ProbeRises_4s k (Lshuntlaw20_ProbeRises_4 k n) _ _ _ _ _) _
    unfold Lshuntlaw20_ProbeRises_4s
    exact Rl.f (by first | omega | (simp only [decide_eq_true_eq, decide_eq_false_iff_not, Int.toNat_natCast, beq_iff_eq, bne_iff_ne, ne_eq, Int.not_lt, Int.not_le, ge_iff_le, gt_iff_lt, beq_eq_false_iff_ne, Nat.zero_add]; omega)) (Rl.pure _)
  | succ d ih =>
    intro i h1 h2 h3
    have o1 := ih (i + 1) (by omega) (by omega) (fun t t1 t2 => h3 t (by omega) t2)
    refine Rl.up (f := fun k n => Lshuntlaw20_ProbeRises_4 k n row level x (L : Int) (i : Int)) ?_
    show Rl (fun k n => Lshuntlaw20_ProbeRises_4s k (Lshuntlaw20_ProbeRises_4 k n) _ _ _ _ _) _
    unfold Lshuntlaw20_ProbeRises_4s
    have e1 : (IntKind.i64.wrap ((i : Int) - 1)) = ((i - 1 : Nat) : Int) := by rw [wrap_i64 (by omega)]; omega
    have e3 : (IntKind.i64.wrap ((i : Int) + 1)) = ((i + 1 : Nat) : Int) := by rw [wrap_i64 (by omega)]; omega
    rw [e1, e3]
    refine Rl.t (by first | omega | (simp only [decide_eq_true_eq, decide_eq_false_iff_not, Int.toNat_natCast, beq_iff_eq, bne_iff_ne, ne_eq, Int.not_lt, Int.not_le, ge_iff_le, gt_iff_lt, beq_eq_false_iff_ne, Nat.zero_add]; omega)) (Rl.t (by first | omega | (simp only [decide_eq_true_eq, decide_eq_false_iff_not, Int.toNat_natCast, beq_iff_eq, bne_iff_ne, ne_eq, Int.not_lt, Int.not_le, ge_iff_le, gt_iff_lt, beq_eq_false_iff_ne, Nat.zero_add]; omega)) (Rl.at (getD_some 0 (by first | omega | (simp only [decide_eq_true_eq, decide_eq_false_iff_not, Int.toNat_natCast, beq_iff_eq, bne_iff_ne, ne_eq, Int.not_lt, Int.not_le, ge_iff_le, gt_iff_lt, beq_eq_false_iff_ne, Nat.zero_add]; omega))) ?_))
    rw [Int.toNat_natCast]
    by_cases c1 : row.getD (i - 1) 0 < level
    · have c2 : ¬ level ≤ row.getD i 0 := fun c2 => h3 i (Nat.le_refl _) (by omega) ⟨by omega, c1, c2⟩
      exact Rl.t (by first | omega | (simp only [decide_eq_true_eq, decide_eq_false_iff_not, Int.toNat_natCast, beq_iff_eq, bne_iff_ne, ne_eq, Int.not_lt, Int.not_le, ge_iff_le, gt_iff_lt, beq_eq_false_iff_ne, Nat.zero_add]; omega)) (Rl.t (by first | omega | (simp only [decide_eq_true_eq, decide_eq_false_iff_not, Int.toNat_natCast, beq_iff_eq, bne_iff_ne, ne_eq, Int.not_lt, Int.not_le, ge_iff_le, gt_iff_lt, beq_eq_false_iff_ne, Nat.zero_add]; omega)) (Rl.at (getD_some 0 (by first | omega | (simp only [decide_eq_true_eq, decide_eq_false_iff_not, Int.toNat_natCast, beq_iff_eq, bne_iff_ne, ne_eq, Int.not_lt, Int.not_le, ge_iff_le, gt_iff_lt, beq_eq_false_iff_ne, Nat.zero_add]; omega))) (Rl.f (by first | omega | (simp only [decide_eq_true_eq, decide_eq_false_iff_not, Int.toNat_natCast, beq_iff_eq, bne_iff_ne, ne_eq, Int.not_lt, Int.not_le, ge_iff_le, gt_iff_lt, beq_eq_false_iff_ne, Nat.zero_add]; omega)) o1)))
    · exact Rl.f (by first | omega | (simp only [decide_eq_true_eq, decide_eq_false_iff_not, Int.toNat_natCast, beq_iff_eq, bne_iff_ne, ne_eq, Int.not_lt, Int.not_le, ge_iff_le, gt_iff_lt, beq_eq_false_iff_ne, Nat.zero_add]; omega)) o1
theorem main_rises (hv : okVs row) (ha : okV level) : ∀ D last : Nat, last < max row.length 1 → max row.length 1 ≤ last + D →
    Rl (fun k n => Lshuntlaw20_ProbeRises_0 k n row level (last : Int) ((cU row level (last + 1) + 1 : Nat) : Int)) (.inl true) := by
  intro D
  induction D with
  | zero => intro last h1 h2; omega
  | succ D ih =>
    intro last h1 h2
    have top := cU_top row level last
    refine Rl.up (f := fun k n => Lshuntlaw20_ProbeRises_0 k n row level (last : Int) ((cU row level (last + 1) + 1 : Nat) : Int)) ?_
    show Rl (fun k n => Lshuntlaw20_ProbeRises_0s k (Lshuntlaw20_ProbeRises_0 k n) _ _ _ _) _
    unfold Lshuntlaw20_ProbeRises_0s
    have e0 : (IntKind.i64.wrap ((row.length : Int) + 1)) = ((row.length + 1 : Nat) : Int) := by rw [wrap_i64 (by omega)]; omega
    have e1 : (IntKind.i64.wrap ((last : Int) + 1)) = ((last + 1 : Nat) : Int) := by rw [wrap_i64 (by omega)]; omega
    have e2 : (IntKind.i64.wrap (((cU row level (last + 1) + 1 : Nat) : Int) + 1)) = ((cU row level (last + 1) + 1 + 1 : Nat) : Int) := by rw [wrap_i64 (by omega)]; omega
    rw [e0, e1]
    refine Rl.t (decide_eq_true (by omega)) ?_
    rcases rise_ev row level hl hv ha (cU row level (last + 1) + 1) (by omega) (by omega) with ⟨a, a1, a2, a3, a4, a5⟩ | ⟨a1, a2⟩
    · have hlt : last < a := by
        rcases Nat.lt_or_ge last a with h | h
        · exact h
        · have := cU_lt row level (i := a) (t := a) (j := last + 1) (Nat.le_refl _) (by omega) a3
          omega
      have hno : ∀ t, last + 1 ≤ t → t < a → ¬ (0 < t ∧ row.getD (t - 1) 0 < level ∧ level ≤ row.getD t 0) := by
        intro t t1 t2 t3
        have := cU_lt row level t1 t2 t3
        omega
      have ea : (IntKind.i64.wrap ((a : Int) - 1)) = ((a - 1 : Nat) : Int) := by rw [wrap_i64 (by omega)]; omega
      obtain ⟨b1, b2, b3⟩ := a3
      refine Rl.bind a5 (Rl.f (by simp) ?_)
      simp only
      rw [ea]
      refine Rl.t (by first | omega | (simp only [decide_eq_true_eq, decide_eq_false_iff_not, Int.toNat_natCast, beq_iff_eq, bne_iff_ne, ne_eq, Int.not_lt, Int.not_le, ge_iff_le, gt_iff_lt, beq_eq_false_iff_ne, Nat.zero_add]; omega)) (Rl.t (by first | omega | (simp only [decide_eq_true_eq, decide_eq_false_iff_not, Int.toNat_natCast, beq_iff_eq, bne_iff_ne, ne_eq, Int.not_lt, Int.not_le, ge_iff_le, gt_iff_lt, beq_eq_false_iff_ne, Nat.zero_add]; omega)) (Rl.t (by first | omega | (simp only [decide_eq_true_eq, decide_eq_false_iff_not, Int.toNat_natCast, beq_iff_eq, bne_iff_ne, ne_eq, Int.not_lt, Int.not_le, ge_iff_le, gt_iff_lt, beq_eq_false_iff_ne, Nat.zero_add]; omega)) (Rl.at (getD_some 0 (by first | omega | (simp only [decide_eq_true_eq, decide_eq_false_iff_not, Int.toNat_natCast, beq_iff_eq, bne_iff_ne, ne_eq, Int.not_lt, Int.not_le, ge_iff_le, gt_iff_lt, beq_eq_false_iff_ne, Nat.zero_add]; omega))) ?_)))
      rw [Int.toNat_natCast]
      refine Rl.t (by first | omega | (simp only [decide_eq_true_eq, decide_eq_false_iff_not, Int.toNat_natCast, beq_iff_eq, bne_iff_ne, ne_eq, Int.not_lt, Int.not_le, ge_iff_le, gt_iff_lt, beq_eq_false_iff_ne, Nat.zero_add]; omega)) (Rl.t (by first | omega | (simp only [decide_eq_true_eq, decide_eq_false_iff_not, Int.toNat_natCast, beq_iff_eq, bne_iff_ne, ne_eq, Int.not_lt, Int.not_le, ge_iff_le, gt_iff_lt, beq_eq_false_iff_ne, Nat.zero_add]; omega)) (Rl.at (getD_some 0 (by first | omega | (simp only [decide_eq_true_eq, decide_eq_false_iff_not, Int.toNat_natCast, beq_iff_eq, bne_iff_ne, ne_eq, Int.not_lt, Int.not_le, ge_iff_le, gt_iff_lt, beq_eq_false_iff_ne, Nat.zero_add]; omega))) ?_))
      rw [Int.toNat_natCast]
      refine Rl.f (by first | omega | (simp only [decide_eq_true_eq, decide_eq_false_iff_not, Int.toNat_natCast, beq_iff_eq, bne_iff_ne, ne_eq, Int.not_lt, Int.not_le, ge_iff_le, gt_iff_lt, beq_eq_false_iff_ne, Nat.zero_add]; omega)) (Rl.bind (rest4 row level hl ((cU row level (last + 1) + 1 : Nat) : Int) a (by omega) (a - (last + 1)) (last + 1) (by omega) (by omega) hno).diag ?_)
      have := ih a (by omega) (by omega)
      have c := cU_t (row := row) (level := level) (i := a) ⟨b1, b2, b3⟩
      rw [c, a4] at this
      show Rl (fun k n => Lshuntlaw20_ProbeRises_0 k n row level (a : Int) (IntKind.i64.wrap (((cU row level (last + 1) + 1 : Nat) : Int) + 1))) _
      rw [e2]
      exact this
    · have hno : ∀ t, last + 1 ≤ t → t < row.length → ¬ (0 < t ∧ row.getD (t - 1) 0 < level ∧ level ≤ row.getD t 0) := by
        intro t t1 t2 t3
        have := cU_lt row level t1 (show t < max row.length 1 by omega) t3
        omega
      refine Rl.bind a2 (Rl.t (by decide) (Rl.bind (rest2 row level hl 0 6 row.length (last + 1) (by omega) (by omega) hno).diag ?_))
      exact Rl.of 0 fun k n _ => rfl
end
theorem Rn.get20r {α : Type} {f : Nat → Option α} {r : α} (h : Rn f r) : ∃ k, f k = some r := by
  obtain ⟨K, h⟩ := h
  exact ⟨K, h K (Nat.le_refl _)⟩
theorem pure_ProbeRises (row : List Int) (level : Int) (wr : Wfd (.sl (.int .i64)) row) (wm : Wfd (.int .i64) level) : ∃ k, Fshuntlaw20_ProbeRises k row level = some true := by
  refine Rn.get20r (f := fun k => Fshuntlaw20_ProbeRises k row level) (Rn.up (f := fun k => Fshuntlaw20_ProbeRises k row level) ?_)
  show Rn (fun k => bshuntlaw20_ProbeRises k row level) _
  unfold bshuntlaw20_ProbeRises
  refine Rn.bind awake20_ev (Rn.f (by simp) ?_)
  by_cases hl : 60 < row.length
  · exact Rn.f (by first | omega | (simp only [decide_eq_true_eq, decide_eq_false_iff_not, Int.toNat_natCast, beq_iff_eq, bne_iff_ne, ne_eq, Int.not_lt, Int.not_le, ge_iff_le, gt_iff_lt, beq_eq_false_iff_ne, Nat.zero_add]; omega)) (Rn.pure _)
  refine Rn.t (by first | omega | (simp only [decide_eq_true_eq, decide_eq_false_iff_not, Int.toNat_natCast, beq_iff_eq, bne_iff_ne, ne_eq, Int.not_lt, Int.not_le, ge_iff_le, gt_iff_lt, beq_eq_false_iff_ne, Nat.zero_add]; omega)) ?_
  obtain ⟨b1, o1, o2⟩ := rOutside_ev row (by omega)
  obtain ⟨b2, o3, o4⟩ := rOutside_ev [level] (by simp)
  refine Rn.bind o1 ?_
  cases b1 with
  | true => exact Rn.f (by simp) (Rn.pure _)
  | false =>
    refine Rn.t rfl (Rn.bind o3 ?_)
    cases b2 with
    | true => exact Rn.t rfl (Rn.pure _)
    | false =>
      have hv := o2 rfl
      have ha : okV level := o4 rfl 0 (by simp)
      have := main_rises row level (by omega) hv ha (max row.length 1) 0 (by omega) (by omega)
      have c1 : cU row level (0 + 1) = 0 := cU_f (by omega)
      rw [c1] at this
      exact Rn.f (by simp) (Rn.bind this.diag (Rn.pure _))
end Go.Proofs.YtlnailgfialgnaaDoor.Am

/- The law ProbeRises returns true for every input, and its arguments read as they did. -/
namespace Go.Proofs.YtlnailgfialgnaaDoor.probeRises
open Go.ChangeShapes Go.WideShapes Go.ChangeAt Go.RowKit
open Go.Proofs.YtlnailgfialgnaaDoor.Am
set_option linter.unusedVariables false
theorem own : ownKnob Tryd.prog.godebug = none := by kernel_rfl
theorem laidOut : laidOutB Tryd.prog = true := by kernel_rfl
set_option maxRecDepth 100000 in
theorem lifted (os : Os) (started : os.Started) (H : Type) (enc : TypeId × Value → H) :
    ReturnsInHanded {} Tryd.checked os 6 .any (fun w args => (Rows.probeRisesSpec.pre enc Tryd.prog Tryd.f6 Rows.probeRisesRow.domain false w args ∧ laidMetH Tryd.prog Rows.probeRisesRow.laid w) ∧ sizedMet enc Tryd.prog Tryd.f6 (OpenSpec.ofChange Rows.probeRisesSpec) false w args) (Rows.probeRisesSpec.post enc Tryd.prog Tryd.f6 false true false false) := by
  refine returnsInHanded_of_change_and (C := Tryd.checked) (X := fun w _ => laidMetH Tryd.prog Rows.probeRisesRow.laid w) (fun _ _ _ hh h => h.of_heap hh) own started (by kernel_rfl) Tryd.func6
    (ChangeSpec.witness_shaped (enc := enc) (C := Tryd.checked) (os := os) (X := fun w _ => laidMetH Tryd.prog Rows.probeRisesRow.laid w) false (World.laidAll Tryd.prog os Rows.probeRisesRow.laid) #[.slice none 0 0, .int .i64 0] 8 (World.laidAll_os _ _ _)
      (World.shaped_of_ZipB (by kernel_rfl) (by kernel_rfl)) (by kernel_rfl) (by kernel_rfl) (by kernel_rfl)
      (by rw [MakeChecks.laidMetH_plain _ _ _ (by kernel_rfl)]; exact laidMet_laidAll _ (by kernel_rfl) (by kernel_rfl))) ?_
  intro W base args ds gs before hval0 hW hcnd hsz0 hL _
  have hval : ∀ (j : Nat) t v, Tryd.f6.params[j]? = some t → args[j]? = some v → Value.okWide Tryd.prog W .any base t v := hval0
  have hW' := hW
  obtain ⟨p, q, hA0, hV, rfl, hfz, hnd⟩ := hW
  have hA : DataW.TrodAll enc Tryd.prog W 0 (fun _ => true) true Tryd.f6.params.toList args.toList ds p := hA0
  rw [Tryd.params6] at hA hval
  obtain ⟨v0, vs0, d0, ds0, p0, q0, hargs, rfl, rfl, h0, r0⟩ := trodAll_cons hA
  obtain ⟨v1, vs1, d1, ds1, p1, q1, rfl, rfl, rfl, h1, r1⟩ := trodAll_cons r0
  obtain ⟨rfl, rfl, rfl⟩ := trodAll_nil r1
  obtain rfl : args = #[v0, v1] := by cases args; simp_all
  obtain ⟨rfl, rfl⟩ := trodVars_none hV
  rw [Tryd.params6] at hsz0
  obtain ⟨hz0, hs0⟩ := sized_cons hsz0
  obtain ⟨hz1, hs1⟩ := sized_cons hs0
  have lt0 : ∀ x ∈ p0, x.block < W.heap.size := by obtain ⟨m, hm⟩ := h0; exact DataW.trod_lt m _ _ _ hm
  obtain ⟨y0, rv0, nm0, wf0⟩ := open_cd (d := 9) (c := (.sl (.int .i64))) false (by kernel_rfl) (by kernel_rfl) (by kernel_rfl) (hval 0 44 v0 rfl rfl) h0 hz0
  have lt1 : ∀ x ∈ p1, x.block < W.heap.size := by obtain ⟨m, hm⟩ := h1; exact DataW.trod_lt m _ _ _ hm
  obtain ⟨y1, rv1, nm1, wf1⟩ := open_cd (d := 9) (c := (.int .i64)) false (by kernel_rfl) (by kernel_rfl) (by kernel_rfl) (hval 1 2 v1 rfl rfl) h1 hz1
  clear hA0 hval0
  obtain ⟨k, hk⟩ := pure_ProbeRises y0 y1 wf0 wf1
  refine (law_inst cfg_ok (okshuntlaw20_ProbeRises k) (x := (y0, y1)) (y := true) hk rfl (args := [argV false (.sl (.int .i64)) y0, argV false (.int .i64) y1]) rfl (rvs_cons rv0 (rvs_cons rv1 rvs_nil)) (names_cons nm0 (names_cons nm1 rfl))).mono fun e W' ⟨he, bel⟩ => ?_
  subst he
  exact ⟨_, rfl, _, _, _, [], _, [], hW', trodAll_mk1 (shut_bool Tryd.underlying4 _), (trodAll_cons_mk (Below.trod laidOut (by kernel_rfl) (of_decide_eq_true (by kernel_rfl)) h0 bel lt0) (trodAll_cons_mk (Below.trod laidOut (by kernel_rfl) (of_decide_eq_true (by kernel_rfl)) h1 bel lt1) trodAll_mk0)), rfl, bel.frame _, fun h => by cases h⟩
theorem over : Rows.probeRisesRow.holds Tryd.pinned (OpenSpec.ofChange Rows.probeRisesSpec) :=
  OpenClaim.holds_of_wide 6 Tryd.f6 rfl rfl rfl rfl rfl rfl rfl ⟨rfl, rfl, rfl, rfl, rfl⟩ rfl rfl rfl rfl rfl (by kernel_rfl) Tryd.func6 (by kernel_rfl)
    (of_decide_eq_true (by kernel_rfl)) (by unfold Func.isWrapper; first | (rw [if_pos (by decide +kernel)]; kernel_rfl) | (rw [if_neg (by decide +kernel)]; exact ⟨rfl, rfl⟩))
    (fun os started H enc _ => lifted os started H enc)
theorem proved : Rows.ProbeRisesCardSaid :=
  Claim7.holds_tied_plain_at .later [] [.data, .pinned] true (true, "4a2353d569ac5e883562cd27399fa6eb7ea354b116126048a91403b3b33d02b5") false over (fun _ h => by cases h) (by kernel_rfl) (fun _ h => by cases h) probeRises_row_tie rfl ⟨rfl, rfl⟩ (by kernel_rfl) rfl
    (fun f fn hf hfn => by
      obtain rfl : f = 6 := Option.some.inj ((show Tryd.prog.funcNamed "shunt/shuntlaw20.ProbeRises" = some 6 by kernel_rfl).symm.trans hf) |>.symm
      obtain rfl : fn = Tryd.f6 := (Option.some.inj (Tryd.func6.symm.trans hfn)).symm
      exact ⟨by kernel_rfl, fun j t ht => by
        rw [Tryd.params6] at ht
        have hm : t ∈ [44, 2] := by simpa using Array.mem_of_getElem? ht
        have hall : ([44, 2].all fun u => !Tryd.prog.wantsStandIn u) = true := by kernel_rfl
        exact (show Tryd.prog.wantsStandIn t = false by simpa using List.all_eq_true.1 hall t hm)⟩)
    (by kernel_rfl)
#print axioms proved
end Go.Proofs.YtlnailgfialgnaaDoor.probeRises
namespace Go.Proofs.YtlnailgfialgnaaDoor
/-- The row, under a short name, for the claim. -/
theorem probeRises_holds : Rows.ProbeRisesCardSaid := probeRises.proved
end Go.Proofs.YtlnailgfialgnaaDoor

/- The law WaveCorners returns true for every input, and its arguments read as they did. -/
import Derived.Test.YtbhnafdmilfobaaMP2
import Derived.Test.YtbhnafdmilfobaaRows
import Derived.WalkKit
import Derived.ProofKit
import Derived.OpenShut
import Derived.ShutString
import Derived.ChangeOld
import Derived.Below
import Derived.SizedLaws
import Derived.Carry

set_option linter.unusedVariables false
set_option linter.unusedSimpArgs false
namespace Go.Proofs.Ytbhnafdmilfobaa.Am

/-- With rounds enough the answer is r. -/
def Rn {α : Type} (f : Nat → Option α) (r : α) : Prop := ∃ K, ∀ k, K ≤ k → f k = some r
/-- The same, where a loop's rounds count for themselves. -/
def Rl {α : Type} (f : Nat → Nat → Option α) (r : α) : Prop := ∃ K, ∀ k n, K ≤ k → K ≤ n → f k n = some r
section
variable {α β γ : Type}
theorem Rn.pure (r : α) : Rn (fun _ => some r) r := ⟨0, fun _ _ => rfl⟩
theorem Rn.eq {f : Nat → Option α} {r : α} (K : Nat) (h : ∀ k, K ≤ k → f k = some r) : Rn f r := ⟨K, h⟩
theorem Rn.bind {f : Nat → Option α} {g : Nat → α → Option β} {x : α} {r : β} (h1 : Rn f x) (h2 : Rn (fun k => g k x) r) : Rn (fun k => Option.bind (f k) (g k)) r := by
  obtain ⟨K1, h1⟩ := h1
  obtain ⟨K2, h2⟩ := h2
  exact ⟨max K1 K2, fun k hk => by show Option.bind (f k) (g k) = _; rw [h1 k (by omega)]; exact h2 k (by omega)⟩
/-- A function's rounds are one more than its body's. -/
theorem Rn.up {f : Nat → Option α} {r : α} (h : Rn (fun k => f (k + 1)) r) : Rn f r := by
  obtain ⟨K, h⟩ := h
  refine ⟨K + 1, fun k hk => ?_⟩
  obtain ⟨j, rfl⟩ : ∃ j, k = j + 1 := ⟨k - 1, by omega⟩
  exact h j (by omega)
theorem Rn.const {e : Option α} {r : α} (h : e = some r) : Rn (fun _ => e) r := ⟨0, fun _ _ => h⟩
theorem Rn.t {c : Prop} [Decidable c] {f g : Nat → Option α} {r : α} (h : c) (hf : Rn f r) : Rn (fun k => if c then f k else g k) r := by
  simpa only [if_pos h] using hf
theorem Rn.f {c : Prop} [Decidable c] {f g : Nat → Option α} {r : α} (h : ¬ c) (hg : Rn g r) : Rn (fun k => if c then f k else g k) r := by
  simpa only [if_neg h] using hg
theorem Rn.at {o : Option α} {g : Nat → α → Option β} {x : α} {r : β} (h : o = some x) (hg : Rn (fun k => g k x) r) : Rn (fun k => Option.bind o (g k)) r := by
  simpa only [h, Option.bind_some] using hg
theorem Rl.diag {f : Nat → Nat → Option α} {r : α} (h : Rl f r) : Rn (fun k => f k k) r := by
  obtain ⟨K, h⟩ := h
  exact ⟨K, fun k hk => h k k hk hk⟩
theorem Rl.pure (r : α) : Rl (fun _ _ => some r) r := ⟨0, fun _ _ _ _ => rfl⟩
theorem Rl.bind {f : Nat → Option α} {g : Nat → Nat → α → Option β} {x : α} {r : β} (h1 : Rn f x) (h2 : Rl (fun k n => g k n x) r) : Rl (fun k n => Option.bind (f k) (g k n)) r := by
  obtain ⟨K1, h1⟩ := h1
  obtain ⟨K2, h2⟩ := h2
  exact ⟨max K1 K2, fun k n hk hn => by show Option.bind (f k) (g k n) = _; rw [h1 k (by omega)]; exact h2 k n (by omega) (by omega)⟩
theorem Rl.up {f : Nat → Nat → Option α} {r : α} (h : Rl (fun k n => f k (n + 1)) r) : Rl f r := by
  obtain ⟨K, h⟩ := h
  refine ⟨K + 1, fun k n hk hn => ?_⟩
  obtain ⟨j, rfl⟩ : ∃ j, n = j + 1 := ⟨n - 1, by omega⟩
  exact h k j (by omega) (by omega)
theorem Rl.of {f : Nat → Nat → Option α} {r : α} (K : Nat) (h : ∀ k n, K ≤ n → f k n = some r) : Rl f r := ⟨K, fun k n _ hn => h k n hn⟩
end

theorem wrap_u32_id {x : Int} (h : 0 ≤ x ∧ x < 4294967296) : IntKind.u32.wrap x = x := by rw [wrap_u32]; omega
theorem wrap_u64_id {x : Int} (h : 0 ≤ x ∧ x < 18446744073709551616) : IntKind.u64.wrap x = x := by rw [wrap_u64]; omega
theorem wrap_u8_id {x : Int} (h : 0 ≤ x ∧ x < 256) : IntKind.u8.wrap x = x := by rw [wrap_u8]; omega
/-- What reckons, in one. -/
theorem ps :
  (∀ {p : Prop} [inst : Decidable p], (Decidable.decide p = Bool.true) = p) ∧
  (∀ {p : Prop} {x : Decidable p}, Decidable.decide p = Bool.false ↔ ¬p) ∧
  (∀ {α : Type} [inst : BEq α] [LawfulBEq α] {a b : α}, (a == b) = Bool.true ↔ a = b) ∧
  (∀ {α : Type} [inst : BEq α] [LawfulBEq α] {a b : α}, (a != b) = Bool.true ↔ a ≠ b) ∧
  (∀ {α : Type} (a b : α), (a ≠ b) = ¬a = b) ∧
  (∀ {α : Type} [inst : LT α] {x y : α}, x > y ↔ y < x) ∧
  (∀ {α : Type} [inst : LE α] {x y : α}, x ≥ y ↔ y ≤ x) ∧
  (∀ {a b : Int}, a ≤ b → (a ≤ b) = True) ∧
  (∀ {a b : Int}, ¬a ≤ b → (a ≤ b) = False) ∧
  (∀ {a b : Int}, a < b → (a < b) = True) ∧
  (∀ {a b : Int}, ¬a < b → (a < b) = False) ∧
  (∀ {a b : Int}, a = b → (a = b) = True) ∧
  (∀ {a b : Int}, ¬a = b → (a = b) = False) ∧
  (∀ {a b : Nat}, a ≤ b → (a ≤ b) = True) ∧
  (∀ {a b : Nat}, ¬a ≤ b → (a ≤ b) = False) ∧
  (∀ {a b : Nat}, a < b → (a < b) = True) ∧
  (∀ {a b : Nat}, ¬a < b → (a < b) = False) ∧
  ((¬True) = False) ∧
  ((¬False) = True) ∧
  (∀ (p : Prop), (True ∧ p) = p) ∧
  (∀ (p : Prop), (p ∧ True) = p) ∧
  (∀ (p : Prop), (False ∧ p) = False) ∧
  (∀ (p : Prop), (p ∧ False) = False) ∧
  (∀ (p : Prop), (p ∧ p) = p) ∧
  (∀ (p : Prop), (p ∨ True) = True) ∧
  (∀ (p : Prop), (True ∨ p) = True) ∧
  (∀ (p : Prop), (p ∨ False) = p) ∧
  (∀ (p : Prop), (False ∨ p) = p) ∧
  (∀ {α β : Type} (a : α) (f : α → Option β), (Option.some a).bind f = f a) ∧
  (∀ (n : Nat), (0 : Nat) + n = n) ∧
  (∀ (n : Nat), n + (0 : Nat) = n) ∧
  (∀ (n : Nat), n - (0 : Nat) = n) ∧
  (∀ (n : Nat), (↑n : Int).toNat = n) ∧
  (Int.toNat (0 : Int) = (0 : Nat)) ∧
  (∀ {x : Int}, (-9223372036854775808 : Int) ≤ x ∧ x ≤ (9223372036854775807 : Int) → Go.IntKind.i64.wrap x = x) ∧
  (∀ {x : Int}, (0 : Int) ≤ x ∧ x < (4294967296 : Int) → Go.IntKind.u32.wrap x = x) ∧
  (∀ {x : Int}, (0 : Int) ≤ x ∧ x < (18446744073709551616 : Int) → Go.IntKind.u64.wrap x = x) ∧
  (∀ {x : Int}, (0 : Int) ≤ x ∧ x < (256 : Int) → Go.IntKind.u8.wrap x = x) ∧
  (∀ {α : Type} {l : List α}, List.take (0 : Nat) l = []) ∧
  (∀ {α : Type} (zs : List α), [] ++ zs = zs) ∧
  (∀ {α : Type} [inst : BEq α] [ReflBEq α] (a : α), (a == a) = Bool.true) ∧
  (∀ {α : Type} [inst : BEq α] [LawfulBEq α] (a : α), (a != a) = Bool.false) ∧
  (∀ {α : Type} (a : α), (a = a) = True) ∧
  ((Bool.false = Bool.true) = False) ∧
  ((Bool.true = Bool.false) = False) ∧
  (∀ {α : Type}, ([] : List α).length = (0 : Nat)) ∧
  ((↑(0 : Nat) : Int) = (0 : Int)) ∧
  ((!Bool.true) = Bool.false) ∧
  ((!Bool.false) = Bool.true) ∧
  (∀ {α β : Type} (f : α → Option β), Option.none.bind f = Option.none) ∧
  (∀ {α : Type} [inst : BEq α] [LawfulBEq α] {a b : α}, (a != b) = Bool.false ↔ a = b) ∧
  (∀ {α : Type} [inst : BEq α] [LawfulBEq α] {a b : α}, (a == b) = Bool.false ↔ a ≠ b) ∧
  (∀ (b : Bool), ((!b) = Bool.true) = (b = Bool.false)) ∧
  (∀ (b : Bool), ((!b) = Bool.false) = (b = Bool.true)) :=
  ⟨@decide_eq_true_eq, @decide_eq_false_iff_not, @beq_iff_eq.{0}, @bne_iff_ne.{0}, @ne_eq.{1}, @gt_iff_lt.{0}, @ge_iff_le.{0}, @ile_t, @ile_f, @ilt_t, @ilt_f, @ieq_t, @ieq_f, @nle_t, @nle_f, @nlt_t, @nlt_f, @not_true_eq_false, @not_false_eq_true, @true_and, @and_true, @false_and, @and_false, @and_self, @or_true, @true_or, @or_false, @false_or, @Option.bind_some.{0,0}, @Nat.zero_add, @Nat.add_zero, @Nat.sub_zero, @Int.toNat_natCast, @Int.toNat_zero, @wrap_i64, @wrap_u32_id, @wrap_u64_id, @wrap_u8_id, @List.take_zero.{0}, @List.nil_append.{0}, @beq_self_eq_true.{0}, @bne_self_eq_false.{0}, @eq_self.{1}, @Bool.false_eq_true, @Bool.true_eq_false, @List.length_nil.{0}, @Int.natCast_zero, @Bool.not_true, @Bool.not_false, @Option.bind_none.{0,0}, @bne_eq_false_iff_eq.{0}, @beq_eq_false_iff_ne.{0}, @Bool.not_eq_true', @Bool.not_eq_false'⟩
/-- What digits are worth, the lowest first. -/
def V (B : Int) : List Int → Int
  | [] => 0
  | x :: r => x + B * V B r
/-- Digits of the base. -/
def Dg (B : Int) (l : List Int) : Prop := ∀ x ∈ l, 0 ≤ x ∧ x < B
/-- Without the noughts at the end. -/
def tl : List Int → List Int
  | [] => []
  | x :: r => if x = 0 ∧ tl r = [] then [] else x :: tl r
theorem tl_snoc (l : List Int) (x : Int) : tl (l ++ [x]) = if x = 0 then tl l else l ++ [x] := by
  induction l with
  | nil => by_cases h : x = 0 <;> simp [tl, h]
  | cons y l ih =>
    simp only [List.cons_append, tl, ih]
    by_cases h : x = 0
    · simp [h]
    · simp [h]
theorem tl_len (l : List Int) : (tl l).length ≤ l.length := by
  induction l with
  | nil => exact Nat.le_refl _
  | cons x r ih => simp only [tl]; split <;> simp; omega
theorem tl_take (l : List Int) : l.take (tl l).length = tl l := by
  induction l with
  | nil => rfl
  | cons x r ih =>
    simp only [tl]
    split
    · rfl
    · simp [ih]
theorem tl_tl (l : List Int) : tl (tl l) = tl l := by
  induction l with
  | nil => rfl
  | cons x r ih =>
    simp only [tl]
    split
    · rfl
    · rename_i h
      simp only [tl, ih]
      rw [if_neg h]
section
variable {B : Int}
theorem Dg.nil : Dg B [] := fun x h => by cases h
theorem Dg.cons {x : Int} {l : List Int} (h : 0 ≤ x ∧ x < B) (hl : Dg B l) : Dg B (x :: l) := fun y hy => by
  rcases List.mem_cons.1 hy with rfl | hy
  · exact h
  · exact hl y hy
theorem Dg.tail {x : Int} {l : List Int} (h : Dg B (x :: l)) : Dg B l := fun y hy => h y (List.mem_cons_of_mem _ hy)
theorem Dg.head {x : Int} {l : List Int} (h : Dg B (x :: l)) : 0 ≤ x ∧ x < B := h x (List.mem_cons_self ..)
theorem Dg.append {l m : List Int} (h1 : Dg B l) (h2 : Dg B m) : Dg B (l ++ m) := fun y hy => by
  rcases List.mem_append.1 hy with hy | hy
  · exact h1 y hy
  · exact h2 y hy
theorem Dg.take {l : List Int} (h : Dg B l) (n : Nat) : Dg B (l.take n) := fun y hy => h y (List.mem_of_mem_take hy)
theorem Dg.drop {l : List Int} (h : Dg B l) (n : Nat) : Dg B (l.drop n) := fun y hy => h y (List.mem_of_mem_drop hy)
theorem Dg.get {l : List Int} (h : Dg B l) {i : Nat} {x : Int} (e : l[i]? = some x) : 0 ≤ x ∧ x < B := h x (List.mem_of_getElem? e)
theorem Dg.set {l : List Int} (h : Dg B l) (i : Nat) {x : Int} (hx : 0 ≤ x ∧ x < B) : Dg B (l.set i x) := fun y hy => by
  rcases List.mem_or_eq_of_mem_set hy with hy | rfl
  · exact h y hy
  · exact hx
theorem Dg.tl {l : List Int} (h : Dg B l) : Dg B (tl l) := by rw [← tl_take]; exact h.take _
theorem V_nonneg (hB : 0 ≤ B) {l : List Int} (h : Dg B l) : 0 ≤ V B l := by
  induction l with
  | nil => exact Int.le_refl _
  | cons x l ih => have := Int.mul_nonneg hB (ih h.tail); have := h.head; simp only [V]; omega
/-- Digits in the one form. -/
def Cn (B : Int) (l : List Int) : Prop := Dg B l ∧ tl l = l
theorem Cn.of {l : List Int} (h : Dg B l) : Cn B (tl l) := ⟨h.tl, tl_tl l⟩
theorem Cn.nil : Cn B [] := ⟨Dg.nil, rfl⟩
theorem Cn.tail {x : Int} {l : List Int} (h : Cn B (x :: l)) : Cn B l := by
  refine ⟨h.1.tail, ?_⟩
  have := h.2
  simp only [tl] at this
  split at this
  · cases this
  · simpa using this
theorem Cn.pos {x : Int} {l : List Int} (hB : 0 < B) (h : Cn B (x :: l)) : 0 < V B (x :: l) := by
  induction l generalizing x with
  | nil =>
    have h1 := h.1.head
    have h2 := h.2
    simp only [tl, and_true] at h2
    simp only [V, Int.mul_zero, Int.add_zero]
    split at h2
    · cases h2
    · omega
  | cons y l ih =>
    have := ih h.tail
    have := Int.mul_pos hB this
    have := h.1.head
    rw [V]
    omega
theorem Cn.ext (hB : 0 < B) : ∀ {l m : List Int}, Cn B l → Cn B m → V B l = V B m → l = m := by
  intro l
  induction l with
  | nil =>
    intro m h1 h2 e
    cases m with
    | nil => rfl
    | cons y m => have := h2.pos hB; rw [← e] at this; simp [V] at this
  | cons x l ih =>
    intro m h1 h2 e
    cases m with
    | nil => have := h1.pos hB; rw [e] at this; simp [V] at this
    | cons y m =>
      have hx := h1.1.head
      have hy := h2.1.head
      simp only [V] at e
      have e1 : x = y := by
        have a1 : (x + B * V B l) % B = x := by rw [Int.add_mul_emod_self_left]; exact Int.emod_eq_of_lt hx.1 hx.2
        have a2 : (y + B * V B m) % B = y := by rw [Int.add_mul_emod_self_left]; exact Int.emod_eq_of_lt hy.1 hy.2
        rw [← a1, ← a2, e]
      subst e1
      have e2 : B * V B l = B * V B m := by omega
      have e3 := Int.eq_of_mul_eq_mul_left (by omega) e2
      rw [ih h1.tail h2.tail e3]
theorem Cn.nil_iff (hB : 0 < B) {l : List Int} (h : Cn B l) : l = [] ↔ V B l = 0 := by
  constructor
  · rintro rfl; rfl
  · intro e; exact Cn.ext hB h Cn.nil e
/-- The last digit isn't 0. -/
theorem Cn.last {l : List Int} (h : Dg B l) : tl l = l ↔ l = [] ∨ ∃ m x, l = m ++ [x] ∧ x ≠ 0 := by
  rcases List.eq_nil_or_concat l with rfl | ⟨m, x, rfl⟩
  · simp [tl]
  · simp only [List.concat_eq_append, tl_snoc]
    constructor
    · intro e
      refine .inr ⟨m, x, rfl, fun h0 => ?_⟩
      rw [if_pos h0] at e
      have := tl_len m
      rw [e] at this
      simp at this
      omega
    · rintro (e | ⟨m', x', e, h0⟩)
      · simp at e
      · obtain ⟨h1, h2⟩ := List.append_inj' e rfl
        simp only [List.cons.injEq, and_true] at h2
        rw [h2, if_neg h0]
end
/-- A signed number: its sign and its digits in the one form. -/
structure Nm (B : Int) (s : Bool) (l : List Int) (z : Int) : Prop where
  c : Cn B l
  sg : s = true → l ≠ []
  z : (if s then -(V B l) else V B l) = z
theorem Nm.ext {B : Int} (hB : 0 < B) {s t : Bool} {l m : List Int} {z : Int} (h1 : Nm B s l z) (h2 : Nm B t m z) : s = t ∧ l = m := by
  have p1 := V_nonneg (B := B) (by omega) h1.c.1
  have p2 := V_nonneg (B := B) (by omega) h2.c.1
  have q1 := h1.c.nil_iff hB
  have q2 := h2.c.nil_iff hB
  have e1 := h1.z
  have e2 := h2.z
  have s1 := h1.sg
  have s2 := h2.sg
  cases s <;> cases t
  · refine ⟨rfl, Cn.ext hB h1.c h2.c ?_⟩
    simp at e1 e2; omega
  · have := s2 rfl
    simp at e1 e2
    exact absurd (q2.2 (by omega)) this
  · have := s1 rfl
    simp at e1 e2
    exact absurd (q1.2 (by omega)) this
  · refine ⟨rfl, Cn.ext hB h1.c h2.c ?_⟩
    simp at e1 e2; omega
theorem Nm.neg {B : Int} (hB : 0 < B) {s : Bool} {l : List Int} {z : Int} (h : Nm B s l z) : s = decide (z < 0) := by
  have p := V_nonneg (B := B) (by omega) h.c.1
  have e := h.z
  cases s
  · simp at e
    rw [eq_comm, decide_eq_false_iff_not]; omega
  · have := h.sg rfl
    have q := mt (h.c.nil_iff hB).2 this
    simp at e
    rw [eq_comm, decide_eq_true_eq]; omega
theorem Nm.of {B : Int} (hB : 0 < B) {l : List Int} (h : Cn B l) {z : Int} (e : V B l = z.natAbs) : Nm B (decide (z < 0)) l z := by
  have p := V_nonneg (B := B) (by omega) h.1
  refine ⟨h, fun hs h0 => ?_, ?_⟩
  · have := (h.nil_iff hB).1 h0
    simp at hs; omega
  · by_cases hz : z < 0
    · simp [hz]; omega
    · simp [hz]; omega
end Go.Proofs.Ytbhnafdmilfobaa.Am

/- Plain reckoning: the program's own whole numbers: trim, sums, differences, comparing. -/
set_option linter.unusedVariables false
set_option linter.unusedSimpArgs false
set_option maxRecDepth 10000
namespace Go.Proofs.Ytbhnafdmilfobaa.Am
open Go

/-- Words of the program: 32 bits. -/
abbrev W : Int := 4294967296
end Go.Proofs.Ytbhnafdmilfobaa.Am

/- Plain reckoning: the program's own whole numbers: signed sums, differences, comparing; what a layer's caller gives and takes. -/
set_option linter.unusedVariables false
set_option linter.unusedSimpArgs false
set_option maxRecDepth 10000
namespace Go.Proofs.Ytbhnafdmilfobaa.Am
open Go

/-- Digits of one length are told by their worth. -/
theorem Dg.ext : ∀ {l m : List Int}, Dg W l → Dg W m → l.length = m.length → V W l = V W m → l = m := by
  intro l
  induction l with
  | nil => intro m _ _ hl _; cases m with
    | nil => rfl
    | cons y m => simp at hl
  | cons x l ih =>
    intro m d1 d2 hl e
    cases m with
    | nil => simp at hl
    | cons y m =>
      have hx := d1.head
      have hy := d2.head
      simp only [V] at e
      have a1 : (x + W * V W l) % W = x := by rw [Int.add_mul_emod_self_left]; exact Int.emod_eq_of_lt hx.1 hx.2
      have a2 : (y + W * V W m) % W = y := by rw [Int.add_mul_emod_self_left]; exact Int.emod_eq_of_lt hy.1 hy.2
      have e1 : x = y := by rw [← a1, ← a2, e]
      subst e1
      have e2 : W * V W l = W * V W m := by omega
      have e3 : V W l = V W m := Int.eq_of_mul_eq_mul_left (by decide) e2
      rw [ih d1.tail d2.tail (by simpa using hl) e3]

end Go.Proofs.Ytbhnafdmilfobaa.Am

/- Plain reckoning: Add, Sub, Cmp of the program's own whole numbers and of the layer; what is right, what is told. -/
set_option linter.unusedVariables false
set_option linter.unusedSimpArgs false
set_option maxRecDepth 10000
namespace Go.Proofs.Ytbhnafdmilfobaa.Am
open Go

/-- A right whole number. -/
def Ri (a0 : Bool) (a1 : List Int) : Prop := a1.length ≤ 72 ∧ tl a1 = a1 ∧ (a0 = true → a1 ≠ [])
instance (a0 : Bool) (a1 : List Int) : Decidable (Ri a0 a1) := by unfold Ri; infer_instance
/-- What the words say, signed. -/
def Zv (B : Int) (a0 : Bool) (a1 : List Int) : Int := if a0 then -(V B a1) else V B a1
theorem Ri.nm {a0 : Bool} {a1 : List Int} (h : Ri a0 a1) (hd : Dg W a1) : Nm W a0 a1 (Zv W a0 a1) := ⟨⟨hd, h.2.1⟩, h.2.2, rfl⟩
theorem Nm.ri {a0 : Bool} {a1 : List Int} {z : Int} (h : Nm W a0 a1 z) (hl : a1.length ≤ 72) : Ri a0 a1 := ⟨hl, h.c.2, h.sg⟩
end Go.Proofs.Ytbhnafdmilfobaa.Am

/- Plain reckoning: products whose factors lie in other memory say the same. -/
set_option linter.unusedVariables false
set_option linter.unusedSimpArgs false
set_option maxRecDepth 10000
namespace Go.Proofs.Ytbhnafdmilfobaa.Am
open Go

section
variable {α β γ : Type}
theorem Rn.map {f : Nat → Option α} {r : α} (h : Rn f r) (g : α → β) : Rn (fun k => Option.map g (f k)) (g r) := by
  obtain ⟨K, h⟩ := h
  exact ⟨K, fun k hk => by show Option.map g (f k) = _; rw [h k hk]; rfl⟩
theorem Rn.congr {f g : Nat → Option α} {r : α} (h : ∀ k, f k = g k) (hg : Rn g r) : Rn f r := by
  obtain ⟨K, hg⟩ := hg
  exact ⟨K, fun k hk => by rw [h k]; exact hg k hk⟩
end
/- Both words in one block with another: the first factor. -/
/- Both factors in blocks with another. -/
/- The second factor in a block with another. -/
/- The product laid where the first factor lay. -/
end Go.Proofs.Ytbhnafdmilfobaa.Am

/- Plain reckoning: division by one word; numbers in decimal digits; machine numbers. -/
set_option linter.unusedVariables false
set_option linter.unusedSimpArgs false
set_option maxRecDepth 10000
namespace Go.Proofs.Ytbhnafdmilfobaa.Am
open Go

/-- The magnitude's digits, as bytes, the highest first; ahead of them the sign. -/
def bytesOf (l : List Int) : ByteArray := ByteArray.mk (List.toArray (List.map (fun n : Int => n.toNat.toUInt8) l))
def dec (neg : Bool) (l : List Int) : List Int := (if neg then [45] else []) ++ (l.map fun x => 48 + x).reverse
/-- Digits as signs. -/
def sg (l : List Int) : List Int := l.map fun x => 48 + x
end Go.Proofs.Ytbhnafdmilfobaa.Am

/- Plain reckoning: the program's fractions. -/
set_option linter.unusedVariables false
set_option linter.unusedSectionVars false
set_option linter.unusedSimpArgs false
set_option maxRecDepth 10000
namespace Go.Proofs.Ytbhnafdmilfobaa.Am
open Go

/-- Words that say a fraction in lowest terms. -/
def Fr (n0 : Bool) (n1 : List Int) (d0 : Bool) (d1 : List Int) (q : Rat) : Prop := Nm W n0 n1 q.num ∧ Nm W d0 d1 (q.den : Int)
theorem Rat.den_pos' (q : Rat) : (0 : Int) < q.den := by have := q.den_nz; omega
theorem Fr.d0 {n0 : Bool} {n1 : List Int} {d0 : Bool} {d1 : List Int} {q : Rat} (h : Fr n0 n1 d0 d1 q) : d0 = false := by
  rw [h.2.neg (by decide)]
  have := Rat.den_pos' q
  simp
theorem Fr.ext {n0 n0' : Bool} {n1 n1' : List Int} {d0 d0' : Bool} {d1 d1' : List Int} {q : Rat} (h : Fr n0 n1 d0 d1 q) (h' : Fr n0' n1' d0' d1' q) : n0 = n0' ∧ n1 = n1' ∧ d0 = d0' ∧ d1 = d1' := by
  obtain ⟨e1, e2⟩ := Nm.ext (B := W) (by decide) h.1 h'.1
  obtain ⟨e3, e4⟩ := Nm.ext (B := W) (by decide) h.2 h'.2
  exact ⟨e1, e2, e3, e4⟩
theorem Fr.inj {n0 : Bool} {n1 : List Int} {d0 : Bool} {d1 : List Int} {q q' : Rat} (h : Fr n0 n1 d0 d1 q) (h' : Fr n0 n1 d0 d1 q') : q = q' := by
  have a := h.1.z.symm.trans h'.1.z
  have b := h.2.z.symm.trans h'.2.z
  exact Rat.ext a (by omega)
section
variable {z0 z2 : Bool} {z1 z3 : List Int} {q : Rat} (h : Fr z0 z1 z2 z3 q) (h1 : z1.length ≤ 1000000) (h3 : z3.length ≤ 1000000)
include h h1 h3
end
end Go.Proofs.Ytbhnafdmilfobaa.Am

/- Plain reckoning: the reference's whole numbers, base 65536: magnitudes. -/
set_option linter.unusedVariables false
set_option linter.unusedSimpArgs false
set_option maxRecDepth 10000
namespace Go.Proofs.Ytbhnafdmilfobaa.Am
open Go

/-- Digits of the reference: 16 bits. -/
abbrev U : Int := 65536
theorem Dg.getD {B : Int} (hB : 0 < B) {l : List Int} (h : Dg B l) (i : Nat) : 0 ≤ l[i]?.getD 0 ∧ l[i]?.getD 0 < B := by
  cases e : l[i]? with
  | none => simp [hB]
  | some x => exact h.get e

end Go.Proofs.Ytbhnafdmilfobaa.Am

/- Plain reckoning: what is right and what is the same, by the document's reference; arguments' words. -/
set_option linter.unusedVariables false
set_option linter.unusedSimpArgs false
set_option maxRecDepth 10000
namespace Go.Proofs.Ytbhnafdmilfobaa.Am
open Go

theorem Rn.get {α : Type} {f : Nat → Option α} {r : α} (h : Rn f r) : ∃ k, f k = some r := by
  obtain ⟨K, h⟩ := h
  exact ⟨K, h K (Nat.le_refl _)⟩
end Go.Proofs.Ytbhnafdmilfobaa.Am

/- Plain reckoning: numbers lent and looked at again; the reference's calls of two numbers. -/
set_option linter.unusedVariables false
set_option linter.unusedSimpArgs false
set_option maxRecDepth 10000
namespace Go.Proofs.Ytbhnafdmilfobaa.Am
open Go

/-- The mark behind a number that is lent. -/
abbrev mk (a1 : List Int) : List Int := a1 ++ [11259375]
section
variable {a0 b0 : Bool} {a1 b1 : List Int} (la : a1.length ≤ 9223372036854775807) (lb : b1.length ≤ 9223372036854775807) (da : Dg W a1) (db : Dg W b1)
include la lb da db
end
end Go.Proofs.Ytbhnafdmilfobaa.Am

/- Plain reckoning: right fractions, and the layer's calls of two of them. -/
set_option linter.unusedVariables false
set_option linter.unusedSectionVars false
set_option linter.unusedSimpArgs false
set_option maxRecDepth 10000
namespace Go.Proofs.Ytbhnafdmilfobaa.Am
open Go

/-- What a fraction is refused for. -/
def faultR (n0 : Bool) (n1 : List Int) (d0 : Bool) (d1 : List Int) : Int :=
  if Ri n0 n1 ∧ Ri d0 d1 then (if d0 = false ∧ d1 ≠ [] ∧ Int.gcd (Zv W n0 n1) (Zv W d0 d1) = 1 then 0 else 20) else 10
section
variable {n0 d0 : Bool} {n1 d1 : List Int} (la : n1.length ≤ 9223372036854775807) (lb : d1.length ≤ 9223372036854775807) (da : Dg W n1) (db : Dg W d1)
include la lb da db
end
/-- A fraction's words, as a list's element. -/
abbrev RT := (Bool × List Int) × Bool × List Int
def RT.f (r : RT) : Int := faultR r.1.1 r.1.2 r.2.1 r.2.2
def RT.good (r : RT) : Prop := (r.1.2.length ≤ 9223372036854775807 ∧ Dg W r.1.2) ∧ r.2.2.length ≤ 9223372036854775807 ∧ Dg W r.2.2
section
variable {x0 x2 y0 y2 : Bool} {x1 x3 y1 y3 : List Int} {x y : Rat} (hx : Fr x0 x1 x2 x3 x) (hy : Fr y0 y1 y2 y3 y) (l1 : x1.length ≤ 72) (l3 : x3.length ≤ 72) (m1 : y1.length ≤ 72) (m3 : y3.length ≤ 72)
include hx hy l1 l3 m1 m3
end
end Go.Proofs.Ytbhnafdmilfobaa.Am

/- Plain reckoning: a number's text. -/
set_option linter.unusedVariables false
set_option linter.unusedSimpArgs false
set_option maxRecDepth 10000
namespace Go.Proofs.Ytbhnafdmilfobaa.Am
open Go

/-- A number's text: the digits of its magnitude, the sign ahead. -/
structure Tx (z : Int) (s : ByteArray) : Prop where
  nz : z = 0 → s = bytesOf [48]
  ex : z ≠ 0 → ∃ l, Cn 10 l ∧ V 10 l = z.natAbs ∧ s = bytesOf ((if z < 0 then [45] else []) ++ (sg l).reverse)
theorem Tx.ext {z : Int} {s t : ByteArray} (h1 : Tx z s) (h2 : Tx z t) : s = t := by
  by_cases h : z = 0
  · rw [h1.nz h, h2.nz h]
  · obtain ⟨l, a1, a2, a3⟩ := h1.ex h
    obtain ⟨m, b1, b2, b3⟩ := h2.ex h
    rw [a3, b3, Cn.ext (by decide) a1 b1 (by rw [a2, b2])]
end Go.Proofs.Ytbhnafdmilfobaa.Am

/- Plain reckoning: decimal numbers, and fractions written over their first argument. -/
set_option linter.unusedVariables false
set_option linter.unusedSectionVars false
set_option linter.unusedSimpArgs false
set_option maxRecDepth 10000
namespace Go.Proofs.Ytbhnafdmilfobaa.Am
open Go

/-- Is it a right number? -/
def okN (m e : Int) : Bool := decide (m = 0 ∧ e = 0 ∨ m.tmod 10 ≠ 0 ∧ -999999999 ≤ m ∧ m ≤ 999999999 ∧ -18 ≤ e ∧ e ≤ 9)
theorem okN_iff {m e : Int} : okN m e = true ↔ (m = 0 ∧ e = 0 ∨ m.tmod 10 ≠ 0 ∧ -999999999 ≤ m ∧ m ≤ 999999999 ∧ -18 ≤ e ∧ e ≤ 9) := by unfold okN; exact decide_eq_true_iff
theorem okN_if (m e : Int) (b : Bool) (h : b = true ↔ (m = 0 ∧ e = 0 ∨ m.tmod 10 ≠ 0 ∧ -999999999 ≤ m ∧ m ≤ 999999999 ∧ -18 ≤ e ∧ e ≤ 9)) : b = okN m e := Bool.eq_iff_iff.2 (h.trans okN_iff.symm)
theorem numValid_ev (m e : Int) : Rn (fun k => Fnum_Valid k m e) (okN m e) := by
  refine Rn.up (f := fun k => Fnum_Valid k m e) (Rn.eq 0 fun k _ => ?_)
  show bnum_Valid k m e = _
  unfold bnum_Valid
  have t : m = 0 → m.tmod 10 = 0 := fun h => by rw [h]; rfl
  simp only [beq_iff_eq, decide_eq_true_eq, bne_iff_ne, ne_eq]
  repeat' split
  all_goals refine congrArg some (okN_if m e _ ?_)
  all_goals simp only [beq_iff_eq, decide_eq_true_eq, Bool.false_eq_true, false_iff]
  all_goals grind
theorem refValid_ev (m e : Int) : Rn (fun k => Fshuntref03_Valid k m e) (okN m e) := by
  refine Rn.up (f := fun k => Fshuntref03_Valid k m e) (Rn.eq 0 fun k _ => ?_)
  show bshuntref03_Valid k m e = _
  unfold bshuntref03_Valid
  have t : m = 0 → m.tmod 10 = 0 := fun h => by rw [h]; rfl
  simp only [beq_iff_eq, decide_eq_true_eq, bne_iff_ne, ne_eq, beq_eq_false_iff_ne]
  repeat' split
  all_goals refine congrArg some (okN_if m e _ ?_)
  all_goals simp only [beq_iff_eq, decide_eq_true_eq, Bool.false_eq_true, false_iff]
  all_goals grind

theorem Rl.t {α : Type} {c : Prop} [Decidable c] {f g : Nat → Nat → Option α} {r : α} (h : c) (hf : Rl f r) : Rl (fun k n => if c then f k n else g k n) r := by
  simpa only [if_pos h] using hf
theorem Rl.f {α : Type} {c : Prop} [Decidable c] {f g : Nat → Nat → Option α} {r : α} (h : ¬ c) (hg : Rl g r) : Rl (fun k n => if c then f k n else g k n) r := by
  simpa only [if_neg h] using hg
theorem Rl.at {α β : Type} {o : Option α} {g : Nat → Nat → α → Option β} {x : α} {r : β} (h : o = some x) (hg : Rl (fun k n => g k n x) r) : Rl (fun k n => Option.bind o (g k n)) r := by
  simpa only [h, Option.bind_some] using hg
section
variable {x0 x2 y0 y2 : Bool} {x1 x3 y1 y3 : List Int} {x y : Rat} (hx : Fr x0 x1 x2 x3 x) (hy : Fr y0 y1 y2 y3 y) (l1 : x1.length ≤ 100000) (l3 : x3.length ≤ 100000) (m1 : y1.length ≤ 100000) (m3 : y3.length ≤ 100000)
include hx hy l1 l3 m1 m3
end
end Go.Proofs.Ytbhnafdmilfobaa.Am

/- Plain reckoning: which waves are right. -/
set_option linter.unusedVariables false
set_option linter.unusedSectionVars false
set_option linter.unusedSimpArgs false
set_option maxRecDepth 10000
namespace Go.Proofs.Ytbhnafdmilfobaa.Am
open Go

/-- A loop that looks at each place, and leaves at the first that isn't right. -/
theorem scan {A B : Type} (L s : Nat) (F : Nat → Nat → Int → Option (A ⊕ B)) (b : B) (P : A → Prop) (ok : Nat → Prop)
    (hend : Rl (fun k n => F k n (L : Int)) (.inr b))
    (hgo : ∀ i : Nat, s ≤ i → i < L → ok i → ∀ o, Rl (fun k n => F k n ((i : Int) + 1)) o → Rl (fun k n => F k n (i : Int)) o)
    (hno : ∀ i : Nat, s ≤ i → i < L → ¬ ok i → ∃ a, P a ∧ Rl (fun k n => F k n (i : Int)) (.inl a)) :
    ∀ d i : Nat, s ≤ i → i + d = L → ∃ o, Rl (fun k n => F k n (i : Int)) o ∧ ((∀ j, i ≤ j → j < L → ok j) ∧ o = .inr b ∨ (¬ ∀ j, i ≤ j → j < L → ok j) ∧ ∃ a, P a ∧ o = .inl a) := by
  intro d
  induction d with
  | zero =>
    intro i hs hi
    obtain rfl : i = L := by omega
    exact ⟨_, hend, .inl ⟨fun j h1 h2 => absurd h2 (by omega), rfl⟩⟩
  | succ d ih =>
    intro i hs hi
    by_cases h : ok i
    · obtain ⟨o, h1, h2⟩ := ih (i + 1) (by omega) (by omega)
      refine ⟨o, hgo i hs (by omega) h o h1, ?_⟩
      have e : (∀ j, i + 1 ≤ j → j < L → ok j) ↔ (∀ j, i ≤ j → j < L → ok j) := ⟨fun g j j1 j2 => by
        rcases Nat.lt_or_ge i j with k | k
        · exact g j k j2
        · exact (show i = j by omega) ▸ h, fun g j j1 j2 => g j (by omega) j2⟩
      rwa [e] at h2
    · obtain ⟨a, h1, h2⟩ := hno i hs (by omega) h
      exact ⟨_, h2, .inr ⟨fun g => h (g i (Nat.le_refl _) (by omega)), a, h1, rfl⟩⟩
theorem getD_some {α : Type} {l : List α} {i : Nat} (d : α) (h : i < l.length) : l[i]? = some (l.getD i d) := by
  rw [List.getElem?_eq_getElem h]; simp [List.getD, h]
/-- A right wave. -/
structure OkW (w0 : Int) (w1 : List (Int × Int)) (w2 : List Int) : Prop where
  vals : ∀ j, 0 ≤ j → j < w1.length → okN (w1.getD j (0, 0)).1 (w1.getD j (0, 0)).2 = true
  steps : ∀ j, 0 ≤ j → j < w2.length → 0 ≤ w2.getD j 0 ∧ w2.getD j 0 ≤ 1000000000
  kind : w0 = 1 ∧ w1.length = 1 ∧ w2.length = 0 ∨ w0 = 2 ∧ w1.length = 2 ∧ w2.length = 5 ∧ 1 ≤ w2.getD 4 0 ∧ w2.getD 1 0 + w2.getD 2 0 + w2.getD 3 0 ≤ w2.getD 4 0 ∨
    w0 = 3 ∧ w1.length = w2.length ∧ 1 ≤ w1.length ∧ w1.length ≤ 16 ∧ (∀ j, 1 ≤ j → j < w2.length → w2.getD (j - 1) 0 < w2.getD j 0) ∨ w0 = 4 ∧ 1 ≤ w1.length ∧ w1.length ≤ 16 ∧ w2.length = 0
noncomputable def okW (w0 : Int) (w1 : List (Int × Int)) (w2 : List Int) : Bool := @decide (OkW w0 w1 w2) (Classical.propDecidable _)
theorem okW_iff {w0 : Int} {w1 : List (Int × Int)} {w2 : List Int} : okW w0 w1 w2 = true ↔ OkW w0 w1 w2 := @decide_eq_true_iff _ (Classical.propDecidable _)
theorem okW_f {w0 : Int} {w1 : List (Int × Int)} {w2 : List Int} : okW w0 w1 w2 = false ↔ ¬ OkW w0 w1 w2 := @decide_eq_false_iff_not _ (Classical.propDecidable _)
section
variable (w0 : Int) (w1 : List (Int × Int)) (w2 : List Int) (h1 : w1.length ≤ 1000000000000000000) (h2 : w2.length ≤ 1000000000000000000)
include h1 h2
theorem wvalid0 : ∃ o, Rl (fun k n => Lwave_Valid_0 k n w1 w1.length 0 w0 w1 w2) o ∧ ((∀ j, 0 ≤ j → j < w1.length → okN (w1.getD j (0, 0)).1 (w1.getD j (0, 0)).2 = true) ∧ o = .inr (w0, w1, w2) ∨ (¬ ∀ j, 0 ≤ j → j < w1.length → okN (w1.getD j (0, 0)).1 (w1.getD j (0, 0)).2 = true) ∧ ∃ a : Bool × Int × List (Int × Int) × List Int × Int × Int, a.1 = false ∧ o = .inl a) := by
  refine scan w1.length 0 (fun k n i => Lwave_Valid_0 k n w1 w1.length i w0 w1 w2) (w0, w1, w2) (fun a => a.1 = false) (fun j => okN (w1.getD j (0, 0)).1 (w1.getD j (0, 0)).2 = true) ?_ ?_ ?_ w1.length 0 (by omega) (by omega)
  · refine Rl.up (f := fun k n => Lwave_Valid_0 k n w1 w1.length w1.length w0 w1 w2) (Rl.of 0 fun k n _ => ?_)
    show Lwave_Valid_0s k (Lwave_Valid_0 k n) _ _ _ _ _ _ = _
    unfold Lwave_Valid_0s
    exact if_neg (by simp)
  · intro i hs hi hok o ho
    refine Rl.up (f := fun k n => Lwave_Valid_0 k n w1 w1.length i w0 w1 w2) ?_
    show Rl (fun k n => Lwave_Valid_0s k (Lwave_Valid_0 k n) _ _ _ _ _ _) _
    unfold Lwave_Valid_0s
    refine Rl.t (decide_eq_true (by omega)) (Rl.t (by omega) (Rl.at (getD_some (0, 0) (by omega)) (Rl.bind (numValid_ev _ _) (Rl.f (by rw [Int.toNat_natCast, hok]; decide) ?_))))
    rw [wrap_i64 (by omega)]
    exact ho
  · intro i hs hi hok
    refine ⟨(false, w0, w1, w2, (w1.getD i (0, 0)).1, (w1.getD i (0, 0)).2), rfl, Rl.up (f := fun k n => Lwave_Valid_0 k n w1 w1.length i w0 w1 w2) ?_⟩
    show Rl (fun k n => Lwave_Valid_0s k (Lwave_Valid_0 k n) _ _ _ _ _ _) _
    unfold Lwave_Valid_0s
    refine Rl.t (decide_eq_true (by omega)) (Rl.t (by omega) (Rl.at (getD_some (0, 0) (by omega)) (Rl.bind (numValid_ev _ _) (Rl.t (by rw [Int.toNat_natCast, Bool.eq_false_iff.2 hok]; rfl) (Rl.pure _)))))
theorem wvalid2 : ∃ o, Rl (fun k n => Lwave_Valid_2 k n w2 w2.length 0 w0 w1 w2) o ∧ ((∀ j, 0 ≤ j → j < w2.length → 0 ≤ w2.getD j 0 ∧ w2.getD j 0 ≤ 1000000000) ∧ o = .inr (w0, w1, w2) ∨ (¬ ∀ j, 0 ≤ j → j < w2.length → 0 ≤ w2.getD j 0 ∧ w2.getD j 0 ≤ 1000000000) ∧ ∃ a : Bool × Int × List (Int × Int) × List Int, a.1 = false ∧ o = .inl a) := by
  refine scan w2.length 0 (fun k n i => Lwave_Valid_2 k n w2 w2.length i w0 w1 w2) (w0, w1, w2) (fun a => a.1 = false) (fun j => 0 ≤ w2.getD j 0 ∧ w2.getD j 0 ≤ 1000000000) ?_ ?_ ?_ w2.length 0 (by omega) (by omega)
  · refine Rl.up (f := fun k n => Lwave_Valid_2 k n w2 w2.length w2.length w0 w1 w2) (Rl.of 0 fun k n _ => ?_)
    show Lwave_Valid_2s k (Lwave_Valid_2 k n) _ _ _ _ _ _ = _
    unfold Lwave_Valid_2s
    exact if_neg (by simp)
  · intro i hs hi hok o ho
    refine Rl.up (f := fun k n => Lwave_Valid_2 k n w2 w2.length i w0 w1 w2) ?_
    show Rl (fun k n => Lwave_Valid_2s k (Lwave_Valid_2 k n) _ _ _ _ _ _) _
    unfold Lwave_Valid_2s
    refine Rl.t (decide_eq_true (by omega)) (Rl.t (by omega) (Rl.at (getD_some 0 (by omega)) (Rl.t (decide_eq_false (by rw [Int.toNat_natCast]; omega)) (Rl.f (by rw [decide_eq_true_eq, Int.toNat_natCast]; omega) ?_))))
    rw [wrap_i64 (by omega)]
    exact ho
  · intro i hs hi hok
    refine ⟨(false, w0, w1, w2), rfl, Rl.up (f := fun k n => Lwave_Valid_2 k n w2 w2.length i w0 w1 w2) ?_⟩
    show Rl (fun k n => Lwave_Valid_2s k (Lwave_Valid_2 k n) _ _ _ _ _ _) _
    unfold Lwave_Valid_2s
    refine Rl.t (decide_eq_true (by omega)) (Rl.t (by omega) (Rl.at (getD_some 0 (by omega)) ?_))
    rw [Int.toNat_natCast]
    by_cases h0 : w2.getD i 0 < 0
    · exact Rl.f (by rw [decide_eq_false_iff_not]; omega) (Rl.pure _)
    · exact Rl.t (decide_eq_false h0) (Rl.t (decide_eq_true (by omega)) (Rl.pure _))
theorem wvalid5 (hlen : 1 ≤ w2.length) : ∃ o, Rl (fun k n => Lwave_Valid_5 k n 1 w0 w1 w2) o ∧ ((∀ j, 1 ≤ j → j < w2.length → w2.getD (j - 1) 0 < w2.getD j 0) ∧ o = .inr (w0, w1, w2) ∨ (¬ ∀ j, 1 ≤ j → j < w2.length → w2.getD (j - 1) 0 < w2.getD j 0) ∧ ∃ a : Bool × Int × List (Int × Int) × List Int, a.1 = false ∧ o = .inl a) := by
  refine scan w2.length 1 (fun k n i => Lwave_Valid_5 k n i w0 w1 w2) (w0, w1, w2) (fun a => a.1 = false) (fun j => w2.getD (j - 1) 0 < w2.getD j 0) ?_ ?_ ?_ (w2.length - 1) 1 (by omega) (by omega)
  · refine Rl.up (f := fun k n => Lwave_Valid_5 k n w2.length w0 w1 w2) (Rl.of 0 fun k n _ => ?_)
    show Lwave_Valid_5s k (Lwave_Valid_5 k n) _ _ _ _ = _
    unfold Lwave_Valid_5s
    exact if_neg (by simp)
  · intro i hs hi hok o ho
    refine Rl.up (f := fun k n => Lwave_Valid_5 k n i w0 w1 w2) ?_
    show Rl (fun k n => Lwave_Valid_5s k (Lwave_Valid_5 k n) _ _ _ _) _
    unfold Lwave_Valid_5s
    have e1 : (IntKind.i64.wrap ((i : Int) - 1)) = ((i - 1 : Nat) : Int) := by rw [wrap_i64 (by omega)]; omega
    rw [e1]
    refine Rl.t (decide_eq_true (by omega)) (Rl.t (by omega) (Rl.at (getD_some 0 (by omega)) (Rl.t (by omega) (Rl.at (getD_some 0 (by omega)) (Rl.f (by rw [decide_eq_true_eq, Int.toNat_natCast, Int.toNat_natCast]; omega) ?_)))))
    rw [wrap_i64 (by omega)]
    exact ho
  · intro i hs hi hok
    refine ⟨(false, w0, w1, w2), rfl, Rl.up (f := fun k n => Lwave_Valid_5 k n i w0 w1 w2) ?_⟩
    show Rl (fun k n => Lwave_Valid_5s k (Lwave_Valid_5 k n) _ _ _ _) _
    unfold Lwave_Valid_5s
    have e1 : (IntKind.i64.wrap ((i : Int) - 1)) = ((i - 1 : Nat) : Int) := by rw [wrap_i64 (by omega)]; omega
    rw [e1]
    exact Rl.t (decide_eq_true (by omega)) (Rl.t (by omega) (Rl.at (getD_some 0 (by omega)) (Rl.t (by omega) (Rl.at (getD_some 0 (by omega)) (Rl.t (decide_eq_true (by rw [Int.toNat_natCast, Int.toNat_natCast]; omega)) (Rl.pure _))))))
theorem rvalid0 : ∃ o, Rl (fun k n => Lshuntref04_Valid_0 k n 0 w0 w1 w2) o ∧ ((∀ j, 0 ≤ j → j < w1.length → okN (w1.getD j (0, 0)).1 (w1.getD j (0, 0)).2 = true) ∧ o = .inr (w0, w1, w2) ∨ (¬ ∀ j, 0 ≤ j → j < w1.length → okN (w1.getD j (0, 0)).1 (w1.getD j (0, 0)).2 = true) ∧ ∃ a : Bool × Int × List (Int × Int) × List Int, a.1 = false ∧ o = .inl a) := by
  refine scan w1.length 0 (fun k n i => Lshuntref04_Valid_0 k n i w0 w1 w2) (w0, w1, w2) (fun a => a.1 = false) (fun j => okN (w1.getD j (0, 0)).1 (w1.getD j (0, 0)).2 = true) ?_ ?_ ?_ w1.length 0 (by omega) (by omega)
  · refine Rl.up (f := fun k n => Lshuntref04_Valid_0 k n w1.length w0 w1 w2) (Rl.of 0 fun k n _ => ?_)
    show Lshuntref04_Valid_0s k (Lshuntref04_Valid_0 k n) _ _ _ _ = _
    unfold Lshuntref04_Valid_0s
    exact if_neg (by simp)
  · intro i hs hi hok o ho
    refine Rl.up (f := fun k n => Lshuntref04_Valid_0 k n i w0 w1 w2) ?_
    show Rl (fun k n => Lshuntref04_Valid_0s k (Lshuntref04_Valid_0 k n) _ _ _ _) _
    unfold Lshuntref04_Valid_0s
    refine Rl.t (decide_eq_true (by omega)) (Rl.t (by omega) (Rl.at (getD_some (0, 0) (by omega)) (Rl.bind (refValid_ev _ _) (Rl.f (by rw [Int.toNat_natCast, hok]; decide) ?_))))
    rw [wrap_i64 (by omega)]
    exact ho
  · intro i hs hi hok
    refine ⟨(false, w0, w1, w2), rfl, Rl.up (f := fun k n => Lshuntref04_Valid_0 k n i w0 w1 w2) ?_⟩
    show Rl (fun k n => Lshuntref04_Valid_0s k (Lshuntref04_Valid_0 k n) _ _ _ _) _
    unfold Lshuntref04_Valid_0s
    refine Rl.t (decide_eq_true (by omega)) (Rl.t (by omega) (Rl.at (getD_some (0, 0) (by omega)) (Rl.bind (refValid_ev _ _) (Rl.t (by rw [Int.toNat_natCast, Bool.eq_false_iff.2 hok]; rfl) (Rl.pure _)))))
theorem rvalid2 : ∃ o, Rl (fun k n => Lshuntref04_Valid_2 k n 0 w0 w1 w2) o ∧ ((∀ j, 0 ≤ j → j < w2.length → 0 ≤ w2.getD j 0 ∧ w2.getD j 0 ≤ 1000000000) ∧ o = .inr (w0, w1, w2) ∨ (¬ ∀ j, 0 ≤ j → j < w2.length → 0 ≤ w2.getD j 0 ∧ w2.getD j 0 ≤ 1000000000) ∧ ∃ a : Bool × Int × List (Int × Int) × List Int, a.1 = false ∧ o = .inl a) := by
  refine scan w2.length 0 (fun k n i => Lshuntref04_Valid_2 k n i w0 w1 w2) (w0, w1, w2) (fun a => a.1 = false) (fun j => 0 ≤ w2.getD j 0 ∧ w2.getD j 0 ≤ 1000000000) ?_ ?_ ?_ w2.length 0 (by omega) (by omega)
  · refine Rl.up (f := fun k n => Lshuntref04_Valid_2 k n w2.length w0 w1 w2) (Rl.of 0 fun k n _ => ?_)
    show Lshuntref04_Valid_2s k (Lshuntref04_Valid_2 k n) _ _ _ _ = _
    unfold Lshuntref04_Valid_2s
    exact if_neg (by simp)
  · intro i hs hi hok o ho
    refine Rl.up (f := fun k n => Lshuntref04_Valid_2 k n i w0 w1 w2) ?_
    show Rl (fun k n => Lshuntref04_Valid_2s k (Lshuntref04_Valid_2 k n) _ _ _ _) _
    unfold Lshuntref04_Valid_2s
    refine Rl.t (decide_eq_true (by omega)) (Rl.t (by omega) (Rl.at (getD_some 0 (by omega)) (Rl.t (decide_eq_false (by rw [Int.toNat_natCast]; omega)) (Rl.t (by omega) (Rl.at (getD_some 0 (by omega)) (Rl.f (by rw [decide_eq_true_eq, Int.toNat_natCast]; omega) ?_))))))
    rw [wrap_i64 (by omega)]
    exact ho
  · intro i hs hi hok
    refine ⟨(false, w0, w1, w2), rfl, Rl.up (f := fun k n => Lshuntref04_Valid_2 k n i w0 w1 w2) ?_⟩
    show Rl (fun k n => Lshuntref04_Valid_2s k (Lshuntref04_Valid_2 k n) _ _ _ _) _
    unfold Lshuntref04_Valid_2s
    refine Rl.t (decide_eq_true (by omega)) (Rl.t (by omega) (Rl.at (getD_some 0 (by omega)) ?_))
    rw [Int.toNat_natCast]
    by_cases h0 : w2.getD i 0 < 0
    · exact Rl.f (by rw [decide_eq_false_iff_not]; omega) (Rl.pure _)
    · exact Rl.t (decide_eq_false h0) (Rl.t (by omega) (Rl.at (getD_some 0 (by omega)) (Rl.t (decide_eq_true (by omega)) (Rl.pure _))))
end
theorem rising_ev (w2 : List Int) (h2 : w2.length ≤ 1000000000000000000) (hlen : 1 ≤ w2.length) : ∃ b, Rn (fun k => Fshuntref04_rising k w2) b ∧ (b = true ↔ ∀ j, 1 ≤ j → j < w2.length → w2.getD (j - 1) 0 < w2.getD j 0) := by
  obtain ⟨o, ho, h⟩ : ∃ o, Rl (fun k n => Lshuntref04_rising_0 k n w2 1) o ∧ ((∀ j, 1 ≤ j → j < w2.length → w2.getD (j - 1) 0 < w2.getD j 0) ∧ o = .inr () ∨ (¬ ∀ j, 1 ≤ j → j < w2.length → w2.getD (j - 1) 0 < w2.getD j 0) ∧ ∃ a : Bool, a = false ∧ o = .inl a) := by
    refine scan w2.length 1 (fun k n i => Lshuntref04_rising_0 k n w2 i) () (fun a => a = false) (fun j => w2.getD (j - 1) 0 < w2.getD j 0) ?_ ?_ ?_ (w2.length - 1) 1 (by omega) (by omega)
    · refine Rl.up (f := fun k n => Lshuntref04_rising_0 k n w2 w2.length) (Rl.of 0 fun k n _ => ?_)
      show Lshuntref04_rising_0s k (Lshuntref04_rising_0 k n) _ _ = _
      unfold Lshuntref04_rising_0s
      exact if_neg (by simp)
    · intro i hs hi hok o ho
      refine Rl.up (f := fun k n => Lshuntref04_rising_0 k n w2 i) ?_
      show Rl (fun k n => Lshuntref04_rising_0s k (Lshuntref04_rising_0 k n) _ _) _
      unfold Lshuntref04_rising_0s
      have e1 : (IntKind.i64.wrap ((i : Int) - 1)) = ((i - 1 : Nat) : Int) := by rw [wrap_i64 (by omega)]; omega
      rw [e1]
      refine Rl.t (decide_eq_true (by omega)) (Rl.t (by omega) (Rl.at (getD_some 0 (by omega)) (Rl.t (by omega) (Rl.at (getD_some 0 (by omega)) (Rl.f (by rw [decide_eq_true_eq, Int.toNat_natCast, Int.toNat_natCast]; omega) ?_)))))
      rw [wrap_i64 (by omega)]
      exact ho
    · intro i hs hi hok
      refine ⟨false, rfl, Rl.up (f := fun k n => Lshuntref04_rising_0 k n w2 i) ?_⟩
      show Rl (fun k n => Lshuntref04_rising_0s k (Lshuntref04_rising_0 k n) _ _) _
      unfold Lshuntref04_rising_0s
      have e1 : (IntKind.i64.wrap ((i : Int) - 1)) = ((i - 1 : Nat) : Int) := by rw [wrap_i64 (by omega)]; omega
      rw [e1]
      exact Rl.t (decide_eq_true (by omega)) (Rl.t (by omega) (Rl.at (getD_some 0 (by omega)) (Rl.t (by omega) (Rl.at (getD_some 0 (by omega)) (Rl.t (decide_eq_true (by rw [Int.toNat_natCast, Int.toNat_natCast]; omega)) (Rl.pure _))))))
  rcases h with ⟨h, rfl⟩ | ⟨h, a, ha, rfl⟩
  · exact ⟨true, Rn.up (f := fun k => Fshuntref04_rising k w2) (Rn.bind ho.diag (Rn.pure _)), by simp only [true_iff]; exact h⟩
  · subst ha
    exact ⟨false, Rn.up (f := fun k => Fshuntref04_rising k w2) (Rn.bind ho.diag (Rn.pure _)), by simp only [Bool.false_eq_true, false_iff]; exact h⟩
end Go.Proofs.Ytbhnafdmilfobaa.Am

/- Plain reckoning: which waves are right, the whole. -/
set_option linter.unusedVariables false
set_option linter.unusedSectionVars false
set_option linter.unusedSimpArgs false
set_option maxRecDepth 10000
namespace Go.Proofs.Ytbhnafdmilfobaa.Am
open Go

theorem okW_eq {w0 : Int} {w1 : List (Int × Int)} {w2 : List Int} {b : Bool} (h : b = true ↔ OkW w0 w1 w2) : b = okW w0 w1 w2 := Bool.eq_iff_iff.2 (h.trans okW_iff.symm)
section
variable (w0 : Int) (w1 : List (Int × Int)) (w2 : List Int) (h1 : w1.length ≤ 1000000000000000000) (h2 : w2.length ≤ 1000000000000000000)
include h1 h2
theorem waveValid_ev : Rn (fun k => Fwave_Valid k w0 w1 w2) (okW w0 w1 w2) := by
  refine Rn.up (f := fun k => Fwave_Valid k w0 w1 w2) ?_
  show Rn (fun k => bwave_Valid k w0 w1 w2) _
  unfold bwave_Valid
  obtain ⟨o, ho, hv⟩ := wvalid0 w0 w1 w2 h1 h2
  refine Rn.bind ho.diag ?_
  rcases hv with ⟨hv, rfl⟩ | ⟨hv, a, ha, rfl⟩
  case inr =>
    have : okW w0 w1 w2 = false := okW_f.2 fun h => hv h.vals
    rw [this, ← ha]
    exact Rn.pure _
  show Rn (fun k => Option.bind (Lwave_Valid_2 k k w2 w2.length 0 w0 w1 w2) _) _
  obtain ⟨o, ho, hs⟩ := wvalid2 w0 w1 w2 h1 h2
  refine Rn.bind ho.diag ?_
  rcases hs with ⟨hs, rfl⟩ | ⟨hs, a, ha, rfl⟩
  case inr =>
    have : okW w0 w1 w2 = false := okW_f.2 fun h => hs h.steps
    rw [this, ← ha]
    exact Rn.pure _
  have hk : OkW w0 w1 w2 ↔ _ := ⟨fun h => h.kind, fun h => ⟨hv, hs, h⟩⟩
  by_cases k1 : w0 = 1
  · refine Rn.t (by simp [k1]) (Rn.eq 0 fun k _ => ?_)
    dsimp only
    repeat' split
    all_goals refine congrArg some (okW_eq (Iff.trans ?_ hk.symm))
    all_goals simp only [beq_iff_eq, decide_eq_true_eq, Bool.false_eq_true, false_iff, Bool.not_eq_true] at *
    all_goals omega
  refine Rn.f (by simpa using k1) ?_
  by_cases k2 : w0 = 2
  · refine Rn.t (by simp [k2]) ?_
    by_cases l1 : w1.length = 2
    · refine Rn.t (by simp [l1]) ?_
      by_cases l2 : w2.length = 5
      · refine Rn.t (by simp [l2]) ?_
        refine Rn.at (getD_some 0 (by show 4 < w2.length; omega)) ?_
        by_cases l3 : w2.getD 4 0 ≥ 1
        · refine Rn.t (decide_eq_true l3) (Rn.at (getD_some 0 (by show 1 < w2.length; omega)) (Rn.at (getD_some 0 (by show 2 < w2.length; omega)) (Rn.at (getD_some 0 (by show 3 < w2.length; omega)) (Rn.at (getD_some 0 (by show 4 < w2.length; omega)) (Rn.const (congrArg some (okW_eq (Iff.trans ?_ hk.symm))))))))
          have s1 := hs 1 (by omega) (by omega)
          have s2 := hs 2 (by omega) (by omega)
          have s3 := hs 3 (by omega) (by omega)
          dsimp only
          rw [wrap_i64 (x := w2.getD 1 0 + w2.getD 2 0) (by omega), wrap_i64 (by omega), decide_eq_true_eq]
          constructor
          · intro h; exact .inr (.inl ⟨k2, l1, l2, l3, h⟩)
          · rintro (⟨a, _⟩ | ⟨_, _, _, _, h⟩ | ⟨a, _⟩ | ⟨a, _⟩) <;> omega
        · refine Rn.f (by rw [decide_eq_true_eq]; exact l3) (Rn.const (congrArg some (okW_eq (Iff.trans ?_ hk.symm))))
          simp only [Bool.false_eq_true, false_iff]
          omega
      · refine Rn.f (by simpa using (by omega : ¬ (w2.length : Int) = 5)) (Rn.const (congrArg some (okW_eq (Iff.trans ?_ hk.symm))))
        simp only [Bool.false_eq_true, false_iff]
        omega
    · refine Rn.f (by simpa using (by omega : ¬ (w1.length : Int) = 2)) (Rn.const (congrArg some (okW_eq (Iff.trans ?_ hk.symm))))
      simp only [Bool.false_eq_true, false_iff]
      omega
  refine Rn.f (by simpa using k2) ?_
  by_cases k3 : w0 = 3
  · refine Rn.t (by simp [k3]) ?_
    by_cases l0 : w2.length = 0
    · have e5 : Rn (fun k => Lwave_Valid_5 k k 1 w0 w1 w2) (.inr (w0, w1, w2)) := Rn.eq 1 fun k hk => by
        obtain ⟨k, rfl⟩ : ∃ m, k = m + 1 := ⟨k - 1, by omega⟩
        show Lwave_Valid_5s (k + 1) (Lwave_Valid_5 (k + 1) k) _ _ _ _ = _
        unfold Lwave_Valid_5s
        exact if_neg (by rw [l0]; decide)
      refine Rn.bind e5 (Rn.eq 0 fun k _ => ?_)
      show (if _ then _ else _) = _
      dsimp only
      repeat' split
      all_goals refine congrArg some (okW_eq (Iff.trans ?_ hk.symm))
      all_goals simp only [beq_iff_eq, decide_eq_true_eq, Bool.false_eq_true, false_iff, Bool.not_eq_true] at *
      all_goals omega
    obtain ⟨o, ho, h5⟩ := wvalid5 w0 w1 w2 h1 h2 (by omega)
    refine Rn.bind ho.diag ?_
    rcases h5 with ⟨h5, rfl⟩ | ⟨h5, a, ha, rfl⟩
    case inr =>
      have : okW w0 w1 w2 = false := okW_f.2 fun h => by
        rcases h.kind with g | g | g | g
        · omega
        · omega
        · exact h5 g.2.2.2.2
        · omega
      rw [this, ← ha]
      exact Rn.pure _
    refine Rn.eq 0 fun k _ => ?_
    show (if _ then _ else _) = _
    dsimp only
    have hk3 : OkW w0 w1 w2 ↔ (w1.length = w2.length ∧ 1 ≤ w1.length ∧ w1.length ≤ 16) := hk.trans ⟨fun g => by
      rcases g with g | g | g | g
      · omega
      · omega
      · exact ⟨g.2.1, g.2.2.1, g.2.2.2.1⟩
      · omega, fun g => .inr (.inr (.inl ⟨k3, g.1, g.2.1, g.2.2, h5⟩))⟩
    repeat' split
    all_goals refine congrArg some (okW_eq (Iff.trans ?_ hk3.symm))
    all_goals simp only [beq_iff_eq, decide_eq_true_eq, Bool.false_eq_true, false_iff, Bool.not_eq_true] at *
    all_goals omega
  refine Rn.f (by simpa using k3) ?_
  by_cases k4 : w0 = 4
  · refine Rn.t (by simp [k4]) (Rn.eq 0 fun k _ => ?_)
    dsimp only
    repeat' split
    all_goals refine congrArg some (okW_eq (Iff.trans ?_ hk.symm))
    all_goals simp only [beq_iff_eq, decide_eq_true_eq, Bool.false_eq_true, false_iff, Bool.not_eq_true] at *
    all_goals omega
  refine Rn.f (by simpa using k4) (Rn.const (congrArg some (okW_eq (Iff.trans ?_ hk.symm))))
  simp only [Bool.false_eq_true, false_iff]
  omega
theorem waveRef_ev : Rn (fun k => Fshuntref04_Valid k w0 w1 w2) (okW w0 w1 w2) := by
  refine Rn.up (f := fun k => Fshuntref04_Valid k w0 w1 w2) ?_
  show Rn (fun k => bshuntref04_Valid k w0 w1 w2) _
  unfold bshuntref04_Valid
  obtain ⟨o, ho, hv⟩ := rvalid0 w0 w1 w2 h1 h2
  refine Rn.bind ho.diag ?_
  rcases hv with ⟨hv, rfl⟩ | ⟨hv, a, ha, rfl⟩
  case inr =>
    have : okW w0 w1 w2 = false := okW_f.2 fun h => hv h.vals
    rw [this, ← ha]
    exact Rn.pure _
  show Rn (fun k => Option.bind (Lshuntref04_Valid_2 k k 0 w0 w1 w2) _) _
  obtain ⟨o, ho, hs⟩ := rvalid2 w0 w1 w2 h1 h2
  refine Rn.bind ho.diag ?_
  rcases hs with ⟨hs, rfl⟩ | ⟨hs, a, ha, rfl⟩
  case inr =>
    have : okW w0 w1 w2 = false := okW_f.2 fun h => hs h.steps
    rw [this, ← ha]
    exact Rn.pure _
  have hk : OkW w0 w1 w2 ↔ _ := ⟨fun h => h.kind, fun h => ⟨hv, hs, h⟩⟩
  by_cases k1 : w0 = 1
  · refine Rn.t (by simp [k1]) (Rn.eq 0 fun k _ => ?_)
    dsimp only
    repeat' split
    all_goals refine congrArg some (okW_eq (Iff.trans ?_ hk.symm))
    all_goals simp only [beq_iff_eq, decide_eq_true_eq, Bool.false_eq_true, false_iff, Bool.not_eq_true] at *
    all_goals omega
  refine Rn.f (by simpa using k1) ?_
  by_cases k2 : w0 = 2
  · refine Rn.t (by simp [k2]) ?_
    by_cases l1 : w1.length = 2
    · refine Rn.t (by simp [l1]) ?_
      by_cases l2 : w2.length = 5
      · refine Rn.t (by simp [l2]) ?_
        refine Rn.at (getD_some 0 (by show 4 < w2.length; omega)) ?_
        by_cases l3 : w2.getD 4 0 > 0
        · refine Rn.t (decide_eq_true l3) (Rn.at (getD_some 0 (by show 1 < w2.length; omega)) (Rn.at (getD_some 0 (by show 2 < w2.length; omega)) (Rn.at (getD_some 0 (by show 3 < w2.length; omega)) (Rn.at (getD_some 0 (by show 4 < w2.length; omega)) (Rn.const (congrArg some (okW_eq (Iff.trans ?_ hk.symm))))))))
          have s1 := hs 1 (by omega) (by omega)
          have s2 := hs 2 (by omega) (by omega)
          have s3 := hs 3 (by omega) (by omega)
          dsimp only
          rw [wrap_i64 (x := w2.getD 1 0 + w2.getD 2 0) (by omega), wrap_i64 (by omega), decide_eq_true_eq]
          constructor
          · intro h; exact .inr (.inl ⟨k2, l1, l2, l3, h⟩)
          · rintro (⟨a, _⟩ | ⟨_, _, _, _, h⟩ | ⟨a, _⟩ | ⟨a, _⟩) <;> omega
        · refine Rn.f (by rw [decide_eq_true_eq]; exact l3) (Rn.const (congrArg some (okW_eq (Iff.trans ?_ hk.symm))))
          simp only [Bool.false_eq_true, false_iff]
          omega
      · refine Rn.f (by simpa using (by omega : ¬ (w2.length : Int) = 5)) (Rn.const (congrArg some (okW_eq (Iff.trans ?_ hk.symm))))
        simp only [Bool.false_eq_true, false_iff]
        omega
    · refine Rn.f (by simpa using (by omega : ¬ (w1.length : Int) = 2)) (Rn.const (congrArg some (okW_eq (Iff.trans ?_ hk.symm))))
      simp only [Bool.false_eq_true, false_iff]
      omega
  refine Rn.f (by simpa using k2) ?_
  by_cases k3 : w0 = 3
  · refine Rn.t (by simp [k3]) ?_
    by_cases l0 : w1.length = w2.length ∧ 1 ≤ w1.length ∧ w1.length ≤ 16
    · refine Rn.t (by rw [beq_iff_eq]; show (w1.length : Int) = w2.length; omega) (Rn.t (decide_eq_true (by show (w1.length : Int) ≥ 1; omega)) (Rn.t (decide_eq_true (by show (w1.length : Int) ≤ 16; omega)) ?_))
      obtain ⟨b, hb, h5⟩ := rising_ev w2 h2 (by omega)
      have : b = okW w0 w1 w2 := okW_eq (h5.trans (Iff.trans ⟨fun g => .inr (.inr (.inl ⟨k3, l0.1, l0.2.1, l0.2.2, g⟩)), fun g => by
        rcases g with g | g | g | g
        · omega
        · omega
        · exact g.2.2.2.2
        · omega⟩ hk.symm))
      rw [← this]
      exact Rn.bind hb (Rn.pure _)
    · have : okW w0 w1 w2 = false := okW_f.2 fun h => by have := h.kind; omega
      rw [this]
      by_cases c1 : w1.length = w2.length
      · refine Rn.t (by rw [beq_iff_eq]; show (w1.length : Int) = w2.length; omega) ?_
        by_cases c2 : 1 ≤ w1.length
        · refine Rn.t (decide_eq_true (by show (w1.length : Int) ≥ 1; omega)) (Rn.f (by rw [decide_eq_true_eq]; show ¬ (w1.length : Int) ≤ 16; omega) (Rn.pure _))
        · exact Rn.f (by rw [decide_eq_true_eq]; show ¬ (w1.length : Int) ≥ 1; omega) (Rn.pure _)
      · exact Rn.f (by rw [beq_iff_eq]; show ¬ (w1.length : Int) = w2.length; omega) (Rn.pure _)
  refine Rn.f (by simpa using k3) ?_
  by_cases k4 : w0 = 4
  · refine Rn.t (by simp [k4]) (Rn.eq 0 fun k _ => ?_)
    dsimp only
    repeat' split
    all_goals refine congrArg some (okW_eq (Iff.trans ?_ hk.symm))
    all_goals simp only [beq_iff_eq, decide_eq_true_eq, Bool.false_eq_true, false_iff, Bool.not_eq_true] at *
    all_goals omega
  refine Rn.f (by simpa using k4) (Rn.const (congrArg some (okW_eq (Iff.trans ?_ hk.symm))))
  simp only [Bool.false_eq_true, false_iff]
  omega
end
end Go.Proofs.Ytbhnafdmilfobaa.Am

/- The fixed fact that every law asks first. -/
namespace Go.Proofs.Ytbhnafdmilfobaa.Am
theorem awake4_eq (j : Nat) : Fshuntlaw04_awake (j + 60) = some true := by kernel_rfl
theorem awake4_ev : Rn (fun k => Fshuntlaw04_awake k) true := Rn.eq 60 fun k hk => by
  obtain ⟨j, rfl⟩ : ∃ j, k = j + 60 := ⟨k - 60, by omega⟩
  exact awake4_eq j
end Go.Proofs.Ytbhnafdmilfobaa.Am

/- The law WaveAgain in plain words. -/
set_option linter.unusedVariables false
set_option linter.unusedSectionVars false
set_option linter.unusedSimpArgs false
set_option maxRecDepth 10000
namespace Go.Proofs.Ytbhnafdmilfobaa.Am
open Go
abbrev cdW : Cd := .pr (.int .i64) (.pr (.sl (.pr (.int .i64) (.int .i64))) (.sl (.int .i64)))
theorem wlen {w : Int × List (Int × Int) × List Int} (h : Wfd cdW w) : w.2.1.length ≤ 1000000000000000000 ∧ w.2.2.length ≤ 1000000000000000000 := by
  obtain ⟨_, ⟨⟨a, ra⟩, _⟩, ⟨b, rb⟩, _⟩ := h
  have ra : w.2.1.length * 16 ≤ reachBytes := ra
  have rb : w.2.2.length * 8 ≤ reachBytes := rb

  unfold maxLen at a b
  unfold reachBytes at ra rb
  omega
end Go.Proofs.Ytbhnafdmilfobaa.Am

/- Plain reckoning: the next corner of a wave. -/
set_option linter.unusedVariables false
set_option linter.unusedSectionVars false
set_option linter.unusedSimpArgs false
set_option maxRecDepth 10000
namespace Go.Proofs.Ytbhnafdmilfobaa.Am
open Go

/-- The first of a list that lies behind a step, and in range. -/
def firstN (step : Int) (l : List Int) : Option Int := l.find? fun c => decide (step < c ∧ c ≤ 1000000000)
def tellN : Option Int → Int × Bool
  | some c => (c, true)
  | none => (0, false)
def tellS : Option Int → (Int × Bool) ⊕ Unit
  | some c => .inl (c, true)
  | none => .inr ()
theorem first_loop (step : Int) (l : List Int) (hl : l.length ≤ 1000000000000000000) : ∀ d i : Nat, i + d = l.length → Rl (fun k n => Lwave_Next_1 k n step l l.length i) (tellS (firstN step (l.drop i))) := by
  intro d
  induction d with
  | zero =>
    intro i hi
    refine Rl.up (f := fun k n => Lwave_Next_1 k n step l l.length i) (Rl.of 0 fun k n _ => ?_)
    show Lwave_Next_1s k (Lwave_Next_1 k n) _ _ _ _ = _
    unfold Lwave_Next_1s
    rw [List.drop_of_length_le (by omega)]
    exact if_neg (by simp; omega)
  | succ d ih =>
    intro i hi
    refine Rl.up (f := fun k n => Lwave_Next_1 k n step l l.length i) ?_
    show Rl (fun k n => Lwave_Next_1s k (Lwave_Next_1 k n) _ _ _ _) _
    unfold Lwave_Next_1s
    have hd : l.drop i = l.getD i 0 :: l.drop (i + 1) := by rw [List.drop_eq_getElem_cons (by omega)]; simp [List.getD, show i < l.length by omega]
    have wr : IntKind.i64.wrap ((i : Int) + 1) = ((i + 1 : Nat) : Int) := by rw [wrap_i64 (by omega)]; rfl
    refine Rl.t (decide_eq_true (by omega)) (Rl.t (by omega) (Rl.at (getD_some 0 (by omega)) ?_))
    rw [Int.toNat_natCast, hd, wr]
    unfold firstN
    by_cases h1 : step < l.getD i 0
    · by_cases h2 : l.getD i 0 ≤ 1000000000
      · rw [List.find?_cons_of_pos (by exact decide_eq_true ⟨h1, h2⟩)]
        exact Rl.t (decide_eq_true h1) (Rl.t (decide_eq_true h2) (Rl.pure _))
      · rw [List.find?_cons_of_neg (by simp only [decide_eq_true_eq]; omega)]
        exact Rl.t (decide_eq_true h1) (Rl.f (by rw [decide_eq_true_eq]; exact h2) (ih (i + 1) (by omega)))
    · rw [List.find?_cons_of_neg (by simp only [decide_eq_true_eq]; omega)]
      exact Rl.f (by rw [decide_eq_true_eq]; exact h1) (ih (i + 1) (by omega))
/-- The corners of two periods from b on. -/
def corn (b s1 s2 s3 s4 : Int) : List Int := [b, b + s1, b + s1 + s2, b + s1 + s2 + s3, b + s4, b + s4 + s1, b + s4 + s1 + s2, b + s4 + s1 + s2 + s3]
theorem corn_loop {w2 : List Int} {s1 s2 s3 s4 b : Int} (r1 : w2[1]? = some s1) (r2 : w2[2]? = some s2) (r3 : w2[3]? = some s3) (r4 : w2[4]? = some s4)
    (hb : 0 ≤ b ∧ b ≤ 2000000000) (h1 : 0 ≤ s1 ∧ s1 ≤ 1000000000) (h2 : 0 ≤ s2 ∧ s2 ≤ 1000000000) (h3 : 0 ≤ s3 ∧ s3 ≤ 1000000000) (h4 : 0 ≤ s4 ∧ s4 ≤ 1000000000) :
    Rl (fun k n => Lwave_corners_0 k n w2 b 0 0 []) (8, corn b s1 s2 s3 s4) := by
  have step : ∀ (k n : Nat) (a : Int) (ls : List Int) (x : Int), (x = 0 ∨ x = 1) → ls.length ≤ 100 → 0 ≤ a ∧ a ≤ 4000000000 → Lwave_corners_0 k (n + 1) w2 a ls.length x ls = Lwave_corners_0 k n w2 (a + s4) (ls ++ [a, a + s1, a + s1 + s2, a + s1 + s2 + s3]).length (x + 1) (ls ++ [a, a + s1, a + s1 + s2, a + s1 + s2 + s3]) := by
    intro k n a ls x hx hl ha
    show Lwave_corners_0s k (Lwave_corners_0 k n) _ _ _ _ _ = _
    unfold Lwave_corners_0s
    rw [if_pos (decide_eq_true (by omega))]
    simp only [r1, r2, r3, r4, Option.bind_some]
    rw [wrap_i64 (x := a + s1) (by omega), wrap_i64 (x := a + s1 + s2) (by omega), wrap_i64 (x := a + s1 + s2 + s3) (by omega), wrap_i64 (x := a + s4) (by omega), wrap_i64 (x := x + 1) (by omega)]
    rw [if_pos (by omega), if_pos (by simp; omega)]
    simp
  refine ⟨3, fun k n hk hn => ?_⟩
  obtain ⟨n, rfl⟩ : ∃ m, n = m + 1 + 1 + 1 := ⟨n - 3, by omega⟩
  have e1 := step k (n + 1 + 1) b [] 0 (by omega) (by simp) (by omega)
  have e2 := step k (n + 1) (b + s4) [b, b + s1, b + s1 + s2, b + s1 + s2 + s3] 1 (by omega) (by simp) (by omega)
  refine e1.trans (e2.trans ?_)
  show Lwave_corners_0s k (Lwave_corners_0 k n) _ _ _ _ _ = _
  unfold Lwave_corners_0s
  exact if_neg (by decide)
/-- The corner ahead of a step, or at it, with which a period begins. -/
def baseN (s0 s4 step : Int) : Int := if step > s0 then s0 + (step - s0) / s4 * s4 else s0
/-- The least corner above a step. -/
def pulseN (b s1 s2 s3 s4 step : Int) : Int :=
  if step < b then b else if step < b + s1 then b + s1 else if step < b + s1 + s2 then b + s1 + s2 else if step < b + s1 + s2 + s3 then b + s1 + s2 + s3 else b + s4
theorem corn_first {b s1 s2 s3 s4 step : Int} (h1 : 0 ≤ s1) (h2 : 0 ≤ s2) (h3 : 0 ≤ s3) (h4 : s1 + s2 + s3 ≤ s4) (hs : step < b + s4) :
    firstN step (corn b s1 s2 s3 s4) = if pulseN b s1 s2 s3 s4 step ≤ 1000000000 then some (pulseN b s1 s2 s3 s4 step) else none := by
  unfold firstN corn pulseN
  simp only [List.find?_cons, List.find?_nil]
  repeat' split
  all_goals simp only [decide_eq_true_eq, decide_eq_false_iff_not, not_and] at *
  all_goals first | rfl | (exfalso; omega) | (congr 1; omega)
theorem base_in {s0 s4 step : Int} (h0 : 0 ≤ s0) (h4 : 0 < s4) (hs : 0 ≤ step) : 0 ≤ baseN s0 s4 step ∧ step < baseN s0 s4 step + s4 ∧ (baseN s0 s4 step ≤ step ∨ baseN s0 s4 step = s0) ∧ (s0 ≤ baseN s0 s4 step) := by
  unfold baseN
  split
  · have a := Int.emod_add_mul_ediv (step - s0) s4
    have b := Int.emod_nonneg (step - s0) (show s4 ≠ 0 by omega)
    have c := Int.emod_lt_of_pos (step - s0) h4
    have d := Int.mul_comm s4 ((step - s0) / s4)
    have e := Int.mul_nonneg (Int.ediv_nonneg (show 0 ≤ step - s0 by omega) (show 0 ≤ s4 by omega)) (show 0 ≤ s4 by omega)
    omega
  · omega
/-- What Next tells of a right wave. -/
def nextQ (w0 : Int) (w1 : List (Int × Int)) (w2 : List Int) (step : Int) : Int × Bool :=
  if w0 = 2 then tellN (if pulseN (baseN (w2.getD 0 0) (w2.getD 4 0) step) (w2.getD 1 0) (w2.getD 2 0) (w2.getD 3 0) (w2.getD 4 0) step ≤ 1000000000 then some (pulseN (baseN (w2.getD 0 0) (w2.getD 4 0) step) (w2.getD 1 0) (w2.getD 2 0) (w2.getD 3 0) (w2.getD 4 0) step) else none)
  else if w0 = 3 then tellN (firstN step w2) else if w0 = 4 then tellN (if step + 1 ≤ 1000000000 then some (step + 1) else none) else (0, false)
section
variable {w0 : Int} {w1 : List (Int × Int)} {w2 : List Int} (hw : OkW w0 w1 w2) {step : Int} (h0 : 0 ≤ step) (h1 : step ≤ 1000000000)
include hw h0 h1
theorem corners_ev (hk : w0 = 2) : Rn (fun k => Fwave_corners k w0 w1 w2 step) (corn (baseN (w2.getD 0 0) (w2.getD 4 0) step) (w2.getD 1 0) (w2.getD 2 0) (w2.getD 3 0) (w2.getD 4 0)) := by
  obtain ⟨g1, g2, g3, g4⟩ : w1.length = 2 ∧ w2.length = 5 ∧ 1 ≤ w2.getD 4 0 ∧ w2.getD 1 0 + w2.getD 2 0 + w2.getD 3 0 ≤ w2.getD 4 0 := by
    rcases hw.kind with g | g | g | g
    · omega
    · exact g.2
    · omega
    · omega
  have q0 := hw.steps 0 (by omega) (by omega)
  have q1 := hw.steps 1 (by omega) (by omega)
  have q2 := hw.steps 2 (by omega) (by omega)
  have q3 := hw.steps 3 (by omega) (by omega)
  have q4 := hw.steps 4 (by omega) (by omega)
  have r0 := getD_some (l := w2) 0 (show 0 < w2.length by omega)
  have r1 := getD_some (l := w2) 0 (show 1 < w2.length by omega)
  have r2 := getD_some (l := w2) 0 (show 2 < w2.length by omega)
  have r3 := getD_some (l := w2) 0 (show 3 < w2.length by omega)
  have r4 := getD_some (l := w2) 0 (show 4 < w2.length by omega)
  generalize w2.getD 0 0 = s0 at *
  generalize w2.getD 1 0 = s1 at *
  generalize w2.getD 2 0 = s2 at *
  generalize w2.getD 3 0 = s3 at *
  generalize w2.getD 4 0 = s4 at *
  have hb := base_in (s0 := s0) (s4 := s4) (step := step) (by omega) (by omega) h0
  refine Rn.up (f := fun k => Fwave_corners k w0 w1 w2 step) (Rn.at r0 ?_)
  by_cases c : step > s0
  · have hbe : baseN s0 s4 step = s0 + (step - s0) / s4 * s4 := by unfold baseN; rw [if_pos c]
    have ed : Int.tdiv (step - s0) s4 = (step - s0) / s4 := Int.tdiv_eq_ediv_of_nonneg (by omega)
    have en := Int.ediv_nonneg (show 0 ≤ step - s0 by omega) (show 0 ≤ s4 by omega)
    have el := Int.ediv_le_self s4 (show 0 ≤ step - s0 by omega)
    have hm : 0 ≤ (step - s0) / s4 * s4 := Int.mul_nonneg en (by omega)
    have lp := corn_loop r1 r2 r3 r4 (b := baseN s0 s4 step) (by omega) q1 q2 q3 q4
    refine Rn.t (decide_eq_true c) (Rn.at r4 (Rn.f (by omega) (Rn.at r4 ?_)))
    rw [wrap_i64 (x := step - s0) (by omega), ed, wrap_i64 (x := (step - s0) / s4) (by omega), wrap_i64 (x := (step - s0) / s4 * s4) (by omega), wrap_i64 (by omega), ← hbe]
    exact Rn.bind lp.diag (Rn.t (by simp [corn]) (Rn.const (by simp [corn])))
  · have hbe : baseN s0 s4 step = s0 := by unfold baseN; rw [if_neg c]
    have lp := corn_loop r1 r2 r3 r4 (b := baseN s0 s4 step) (by omega) q1 q2 q3 q4
    refine Rn.f (by rw [decide_eq_true_eq]; exact c) ?_
    rw [hbe] at lp ⊢
    exact Rn.bind lp.diag (Rn.t (by simp [corn]) (Rn.const (by simp [corn])))
theorem nextRight_ev : Rn (fun k => Fwave_Next k w0 w1 w2 step) (nextQ w0 w1 w2 step) := by
  have hl : w1.length ≤ 1000000000000000000 ∧ w2.length ≤ 1000000000000000000 := by
    have := hw.kind; omega
  have hv := waveValid_ev w0 w1 w2 hl.1 hl.2
  rw [okW_iff.2 hw] at hv
  refine Rn.up (f := fun k => Fwave_Next k w0 w1 w2 step) (Rn.bind hv (Rn.t (by decide) (Rn.t (by rw [decide_eq_false_iff_not]; omega) (Rn.f (by rw [decide_eq_true_eq]; omega) ?_))))
  unfold nextQ
  by_cases k2 : w0 = 2
  · rw [if_pos k2]
    obtain ⟨g1, g2, g3, g4⟩ : w1.length = 2 ∧ w2.length = 5 ∧ 1 ≤ w2.getD 4 0 ∧ w2.getD 1 0 + w2.getD 2 0 + w2.getD 3 0 ≤ w2.getD 4 0 := by
      rcases hw.kind with g | g | g | g
      · omega
      · exact g.2
      · omega
      · omega
    have q0 := hw.steps 0 (by omega) (by omega)
    have q1 := hw.steps 1 (by omega) (by omega)
    have q2 := hw.steps 2 (by omega) (by omega)
    have q3 := hw.steps 3 (by omega) (by omega)
    have hb := base_in (s0 := w2.getD 0 0) (s4 := w2.getD 4 0) (step := step) (by omega) (by omega) h0
    refine Rn.t (by rw [beq_iff_eq]; exact k2) (Rn.bind (corners_ev hw h0 h1 k2) ?_)
    rw [← corn_first q1.1 q2.1 q3.1 g4 hb.2.1]
    generalize hc : corn _ _ _ _ _ = l
    have ll : l.length = 8 := by rw [← hc]; rfl
    have lp := first_loop step l (by omega) l.length 0 (by omega)
    rw [List.drop_zero] at lp
    refine Rn.bind lp.diag ?_
    cases firstN step l <;> exact Rn.pure _
  rw [if_neg k2]
  refine Rn.f (by rw [beq_iff_eq]; exact k2) ?_
  by_cases k3 : w0 = 3
  · rw [if_pos k3]
    have lp := first_loop step w2 (by omega) w2.length 0 (by omega)
    rw [List.drop_zero] at lp
    refine Rn.t (by rw [beq_iff_eq]; exact k3) (Rn.bind lp.diag ?_)
    cases firstN step w2 <;> exact Rn.pure _
  rw [if_neg k3]
  refine Rn.f (by rw [beq_iff_eq]; exact k3) ?_
  by_cases k4 : w0 = 4
  · rw [if_pos k4]
    refine Rn.t (by rw [beq_iff_eq]; exact k4) ?_
    rw [wrap_i64 (by omega)]
    have lp : Rl (fun k n => Lwave_Next_1a k n step 1 1 0 [step + 1]) (if step + 1 ≤ 1000000000 then .inl (step + 1, true, [step + 1]) else .inr [step + 1]) := by
      refine ⟨2, fun k n hk hn => ?_⟩
      obtain ⟨n, rfl⟩ : ∃ m, n = m + 1 + 1 := ⟨n - 2, by omega⟩
      show Lwave_Next_1as k (Lwave_Next_1a k (n + 1)) _ _ _ _ _ = _
      unfold Lwave_Next_1as
      rw [if_pos (by decide), if_pos (by decide)]
      show (if decide (step + 1 > step) = true then _ else _) = _
      rw [if_pos (decide_eq_true (by omega))]
      by_cases c : step + 1 ≤ 1000000000
      · rw [if_pos (decide_eq_true c), if_pos c]
      · rw [if_neg (by rw [decide_eq_true_eq]; exact c), if_neg c]
        show Lwave_Next_1as k (Lwave_Next_1a k n) _ _ _ _ _ = _
        unfold Lwave_Next_1as
        exact if_neg (by decide)
    refine Rn.bind lp.diag ?_
    by_cases c : step + 1 ≤ 1000000000
    · rw [if_pos c, if_pos c]; exact Rn.pure _
    · rw [if_neg c, if_neg c]; exact Rn.pure _
  rw [if_neg k4]
  refine Rn.f (by rw [beq_iff_eq]; exact k4) ?_
  have lp : Rl (fun k n => Lwave_Next_1a k n step 0 0 0 []) (.inr []) := by
    refine Rl.up (f := fun k n => Lwave_Next_1a k n step 0 0 0 []) (Rl.of 0 fun k n _ => ?_)
    show Lwave_Next_1as k (Lwave_Next_1a k n) _ _ _ _ _ = _
    unfold Lwave_Next_1as
    exact if_neg (by decide)
  exact Rn.bind lp.diag (Rn.pure _)
end
theorem Next_ev (w0 : Int) (w1 : List (Int × Int)) (w2 : List Int) (step : Int) (h1 : w1.length ≤ 1000000000000000000) (h2 : w2.length ≤ 1000000000000000000) :
    Rn (fun k => Fwave_Next k w0 w1 w2 step) (if okW w0 w1 w2 = true ∧ 0 ≤ step ∧ step ≤ 1000000000 then nextQ w0 w1 w2 step else (0, false)) := by
  by_cases hw : okW w0 w1 w2 = true
  · by_cases hs : 0 ≤ step ∧ step ≤ 1000000000
    · rw [if_pos ⟨hw, hs⟩]; exact nextRight_ev (okW_iff.1 hw) hs.1 hs.2
    · rw [if_neg (fun h => hs h.2)]
      refine Rn.up (f := fun k => Fwave_Next k w0 w1 w2 step) (Rn.bind (waveValid_ev w0 w1 w2 h1 h2) (Rn.t (by simp [hw]) ?_))
      by_cases h : step < 0
      · exact Rn.f (by rw [decide_eq_false_iff_not]; omega) (Rn.pure _)
      · exact Rn.t (by rw [decide_eq_false_iff_not]; omega) (Rn.t (by rw [decide_eq_true_eq]; omega) (Rn.pure _))
  · rw [if_neg (fun h => hw h.1)]
    exact Rn.up (f := fun k => Fwave_Next k w0 w1 w2 step) (Rn.bind (waveValid_ev w0 w1 w2 h1 h2) (Rn.f (by simp [hw]) (Rn.pure _)))
end Go.Proofs.Ytbhnafdmilfobaa.Am

/- Plain reckoning: where corners lie, and lines between them. -/
set_option linter.unusedVariables false
set_option linter.unusedSectionVars false
set_option linter.unusedSimpArgs false
set_option maxRecDepth 10000
namespace Go.Proofs.Ytbhnafdmilfobaa.Am
open Go
theorem kind2 {w0 : Int} {w1 : List (Int × Int)} {w2 : List Int} (ok : OkW w0 w1 w2) (h : w0 = 2) : w1.length = 2 ∧ w2.length = 5 ∧ 1 ≤ w2.getD 4 0 ∧ w2.getD 1 0 + w2.getD 2 0 + w2.getD 3 0 ≤ w2.getD 4 0 := by
  rcases ok.kind with g | g | g | g
  · omega
  · exact g.2
  · omega
  · omega
theorem steps_le {w0 : Int} {w1 : List (Int × Int)} {w2 : List Int} (ok : OkW w0 w1 w2) : ∀ x ∈ w2, x ≤ 1000000000 := by
  intro x hx
  obtain ⟨i, hi, rfl⟩ := List.mem_iff_getElem.1 hx
  have := (ok.steps i (by omega) hi).2
  simpa [List.getD, hi] using this
theorem first_some {step n : Int} {l : List Int} (h : firstN step l = some n) : step < n ∧ n ≤ 1000000000 := by
  have := List.find?_some h
  simpa using this
theorem first_keep {step n m : Int} : ∀ {l : List Int}, (∀ x ∈ l, x ≤ 1000000000) → firstN step l = some n → step ≤ m → m < n → firstN m l = some n
  | [], _, h, _, _ => by simp [firstN] at h
  | x :: l, hl, h, h1, h2 => by
    have hx := hl x (by simp)
    unfold firstN at h ⊢
    by_cases c : step < x
    · rw [List.find?_cons_of_pos (by exact decide_eq_true ⟨c, hx⟩)] at h
      obtain rfl : x = n := by simpa using h
      rw [List.find?_cons_of_pos (by exact decide_eq_true ⟨h2, hx⟩)]
    · rw [List.find?_cons_of_neg (by simp only [decide_eq_true_eq]; omega)] at h
      rw [List.find?_cons_of_neg (by simp only [decide_eq_true_eq]; omega)]
      exact first_keep (fun y hy => hl y (by simp [hy])) h h1 h2
theorem base_q {s0 s4 step : Int} (h4 : 0 < s4) : ∃ q, 0 ≤ q ∧ baseN s0 s4 step = s0 + q * s4 := by
  unfold baseN
  split
  · exact ⟨(step - s0) / s4, Int.ediv_nonneg (by omega) (by omega), rfl⟩
  · exact ⟨0, by omega, by omega⟩
theorem base_keep {s0 s4 step m : Int} (h0 : 0 ≤ s0) (h4 : 0 < s4) (hs : 0 ≤ step) (h1 : step ≤ m) (h2 : m < baseN s0 s4 step + s4) (h3 : m < baseN s0 s4 step → baseN s0 s4 step = s0) : baseN s0 s4 m = baseN s0 s4 step := by
  obtain ⟨q, hq, e⟩ := base_q (s0 := s0) (s4 := s4) (step := step) h4
  have hb := base_in (step := step) h0 h4 hs
  generalize hB : baseN s0 s4 step = b at *
  have hm := Int.mul_nonneg hq (show 0 ≤ s4 by omega)
  unfold baseN
  split
  · have hbm : b ≤ m := by
      rcases Int.lt_or_le m b with g | g
      · have := h3 g; omega
      · exact g
    have e2 : m - s0 = (m - b) + q * s4 := by omega
    rw [e2, Int.add_mul_ediv_right _ _ (by omega), Int.ediv_eq_zero_of_lt (by omega) (by omega), Int.zero_add]
    omega
  · rcases Int.lt_or_le m b with g | g
    · exact (h3 g).symm
    · omega
theorem pulseN_ok {b s1 s2 s3 s4 step : Int} (h1 : 0 ≤ s1) (h2 : 0 ≤ s2) (h3 : 0 ≤ s3) (h4 : s1 + s2 + s3 ≤ s4) (hs : step < b + s4) :
    step < pulseN b s1 s2 s3 s4 step ∧ pulseN b s1 s2 s3 s4 step ≤ b + s4 ∧ (step < b → pulseN b s1 s2 s3 s4 step = b) ∧ ∀ m, step ≤ m → m < pulseN b s1 s2 s3 s4 step → pulseN b s1 s2 s3 s4 m = pulseN b s1 s2 s3 s4 step := by
  unfold pulseN
  refine ⟨?_, ?_, ?_, ?_⟩
  · repeat' split
    all_goals omega
  · repeat' split
    all_goals omega
  · intro h; rw [if_pos h]
  · intro m a b
    repeat' split
    all_goals first | rfl | (exfalso; (repeat' split at b) <;> omega)
theorem next_f {w0 : Int} {w1 : List (Int × Int)} {w2 : List Int} {step : Int} (h : (nextQ w0 w1 w2 step).2 = false) : (nextQ w0 w1 w2 step).1 = 0 := by
  unfold nextQ at *
  have t : ∀ o, (tellN o).2 = false → (tellN o).1 = 0 := fun o ho => by cases o <;> simp_all [tellN]
  split
  · rw [if_pos (by assumption)] at h; exact t _ h
  · rw [if_neg (by assumption)] at h
    split
    · rw [if_pos (by assumption)] at h; exact t _ h
    · rw [if_neg (by assumption)] at h
      split
      · rw [if_pos (by assumption)] at h; exact t _ h
      · rfl
theorem tell_t {o : Option Int} (h : (tellN o).2 = true) : ∃ n, o = some n ∧ (tellN o).1 = n := by
  cases o with
  | none => simp [tellN] at h
  | some n => exact ⟨n, rfl, rfl⟩
theorem ifs_some {c : Prop} [Decidable c] {x n : Int} (h : (if c then some x else none) = some n) : c ∧ x = n := by
  by_cases g : c
  · rw [if_pos g] at h; exact ⟨g, by simpa using h⟩
  · rw [if_neg g] at h; cases h
theorem next_t {w0 : Int} {w1 : List (Int × Int)} {w2 : List Int} (ok : OkW w0 w1 w2) {step : Int} (h0 : 0 ≤ step) (h : (nextQ w0 w1 w2 step).2 = true) :
    step < (nextQ w0 w1 w2 step).1 ∧ (nextQ w0 w1 w2 step).1 ≤ 1000000000 ∧ w0 ≠ 1 ∧ ∀ m, step ≤ m → m < (nextQ w0 w1 w2 step).1 → nextQ w0 w1 w2 m = ((nextQ w0 w1 w2 step).1, true) := by
  by_cases k2 : w0 = 2
  · have hn : ∀ s, nextQ w0 w1 w2 s = _ := fun s => by unfold nextQ; rw [if_pos k2]
    simp only [hn] at h ⊢
    obtain ⟨g1, g2, g3, g4⟩ := kind2 ok k2
    have q0 := ok.steps 0 (by omega) (by omega)
    have q1 := ok.steps 1 (by omega) (by omega)
    have q2 := ok.steps 2 (by omega) (by omega)
    have q3 := ok.steps 3 (by omega) (by omega)
    obtain ⟨n, hn1, hn2⟩ := tell_t h
    obtain ⟨p1, p2⟩ := ifs_some hn1
    rw [hn2]
    have hb := base_in (s0 := w2.getD 0 0) (s4 := w2.getD 4 0) (step := step) (by omega) (by omega) h0
    obtain ⟨o1, o2, o3, o4⟩ := pulseN_ok q1.1 q2.1 q3.1 g4 hb.2.1
    rw [p2] at o1 o2 o3 o4 p1
    refine ⟨o1, p1, by omega, fun m m1 m2 => ?_⟩
    have hbk := base_keep (s0 := w2.getD 0 0) (s4 := w2.getD 4 0) (m := m) q0.1 (by omega) h0 m1 (by omega) (fun g => by
      by_cases c : step < baseN (w2.getD 0 0) (w2.getD 4 0) step
      · omega
      · omega)
    rw [hbk, o4 m m1 m2, if_pos p1]
    rfl
  by_cases k3 : w0 = 3
  · have hn : ∀ s, nextQ w0 w1 w2 s = tellN (firstN s w2) := fun s => by unfold nextQ; rw [if_neg k2, if_pos k3]
    simp only [hn] at h ⊢
    obtain ⟨n, hn1, hn2⟩ := tell_t h
    rw [hn2]
    have := first_some hn1
    refine ⟨this.1, this.2, by omega, fun m m1 m2 => ?_⟩
    rw [first_keep (steps_le ok) hn1 m1 m2]
    rfl
  by_cases k4 : w0 = 4
  · have hn : ∀ s, nextQ w0 w1 w2 s = tellN (if s + 1 ≤ 1000000000 then some (s + 1) else none) := fun s => by unfold nextQ; rw [if_neg k2, if_neg k3, if_pos k4]
    simp only [hn] at h ⊢
    obtain ⟨n, hn1, hn2⟩ := tell_t h
    obtain ⟨p1, p2⟩ := ifs_some hn1
    rw [hn2]
    refine ⟨by omega, by omega, by omega, fun m m1 m2 => ?_⟩
    have : m = step := by omega
    subst this
    rw [hn1]; rfl
  · unfold nextQ at h
    rw [if_neg k2, if_neg k3, if_neg k4] at h
    cases h
end Go.Proofs.Ytbhnafdmilfobaa.Am

/- The law WaveCorners in plain words. -/
set_option linter.unusedVariables false
set_option linter.unusedSectionVars false
set_option linter.unusedSimpArgs false
set_option maxRecDepth 10000
namespace Go.Proofs.Ytbhnafdmilfobaa.Am
open Go
theorem pure_WaveCorners (w : Int × List (Int × Int) × List Int) (step : Int) (ww : Wfd cdW w) (ws : Wfd (.int .i64) step) : ∃ k, Fshuntlaw04_WaveCorners k w.1 w.2.1 w.2.2 step = some true := by
  obtain ⟨l1, l2⟩ := wlen ww
  obtain ⟨w0, w1, w2⟩ := w
  dsimp only at l1 l2 ⊢
  suffices h : Rn (fun k => Fshuntlaw04_WaveCorners k w0 w1 w2 step) true from h.get
  refine Rn.up (f := fun k => Fshuntlaw04_WaveCorners k w0 w1 w2 step) (Rn.bind awake4_ev (Rn.f (by decide) (Rn.bind (Next_ev w0 w1 w2 step l1 l2) ?_)))
  by_cases hw : okW w0 w1 w2 = true ∧ 0 ≤ step ∧ step ≤ 1000000000
  rotate_left
  · rw [if_neg hw]
    exact Rn.t (by rfl) (Rn.pure _)
  rw [if_pos hw]
  have ok := okW_iff.1 hw.1
  by_cases ht : (nextQ w0 w1 w2 step).2 = true
  rotate_left
  · have hf : (nextQ w0 w1 w2 step).2 = false := Bool.eq_false_iff.2 ht
    exact Rn.t (by rw [hf]; rfl) (Rn.const (by rw [next_f hf]; rfl))
  obtain ⟨n1, n2, n3, n4⟩ := next_t ok hw.2.1 ht
  have hr := waveRef_ev w0 w1 w2 l1 l2
  rw [hw.1] at hr
  generalize (nextQ w0 w1 w2 step).1 = n at *
  refine Rn.f (by rw [ht]; decide) (Rn.bind hr (Rn.t (by decide) (Rn.t (by rw [decide_eq_false_iff_not]; omega) (Rn.t (by rw [decide_eq_false_iff_not]; omega) (Rn.t (by rw [decide_eq_false_iff_not]; omega) (Rn.f (by rw [beq_iff_eq]; exact n3) ?_))))))
  have et : Int.tdiv (n - step) 2 = (n - step) / 2 := Int.tdiv_eq_ediv_of_nonneg (by omega)
  rw [wrap_i64 (x := n - step) (by omega), et, wrap_i64 (x := (n - step) / 2) (by omega), wrap_i64 (x := step + (n - step) / 2) (by omega)]
  refine Rn.bind (nextRight_ev ok (step := step + (n - step) / 2) (by omega) (by omega)) ?_
  by_cases c : n - step = 1
  · exact Rn.f (by simp [c]) (Rn.pure _)
  · rw [n4 _ (by omega) (by omega)]
    exact Rn.t (by simp [c]) (Rn.t rfl (Rn.f (by simp) (Rn.pure _)))
end Go.Proofs.Ytbhnafdmilfobaa.Am

/- The law WaveCorners returns true for every input, and its arguments read as they did. -/
namespace Go.Proofs.Ytbhnafdmilfobaa.waveCorners
open Go.ChangeShapes Go.WideShapes Go.ChangeAt Go.RowKit
open Go.Proofs.Ytbhnafdmilfobaa.Am
set_option linter.unusedVariables false
theorem own : ownKnob Try.prog.godebug = none := by kernel_rfl
theorem laidOut : laidOutB Try.prog = true := by kernel_rfl
set_option maxRecDepth 100000 in
theorem lifted (os : Os) (started : os.Started) (H : Type) (enc : TypeId × Value → H) :
    ReturnsInHanded {} Try.checked os 5 .any (Rows.waveCornersSpec.pre6 enc Try.prog Try.f5 Rows.waveCornersRow.domain false) (Rows.waveCornersSpec.post enc Try.prog Try.f5 false true false false) := by
  refine returnsInHanded_of_change_sized (C := Try.checked) own started (by kernel_rfl) Try.func5
    (ChangeSpec.witness6 (enc := enc) (C := Try.checked) false ⟨#[], #[.agg #[.int .i64 0, .slice none 0 0, .slice none 0 0], .int .i64 0], []⟩ 8 (by kernel_rfl) (by kernel_rfl) (by kernel_rfl) (by kernel_rfl)) ?_
  intro W base args ds gs before hval0 hW hcnd hsz0 _
  have hval : ∀ (j : Nat) t v, Try.f5.params[j]? = some t → args[j]? = some v → Value.okWide Try.prog W .any base t v := hval0
  have hW' := hW
  obtain ⟨p, q, hA0, hV, rfl, hfz, hnd⟩ := hW
  have hA : DataW.TrodAll enc Try.prog W 0 (fun _ => true) true Try.f5.params.toList args.toList ds p := hA0
  rw [Try.params5] at hA hval
  obtain ⟨v0, vs0, d0, ds0, p0, q0, hargs, rfl, rfl, h0, r0⟩ := trodAll_cons hA
  obtain ⟨v1, vs1, d1, ds1, p1, q1, rfl, rfl, rfl, h1, r1⟩ := trodAll_cons r0
  obtain ⟨rfl, rfl, rfl⟩ := trodAll_nil r1
  obtain rfl : args = #[v0, v1] := by cases args; simp_all
  obtain ⟨rfl, rfl⟩ := trodVars_none hV
  rw [Try.params5] at hsz0
  obtain ⟨hz0, hs0⟩ := sized_cons hsz0
  obtain ⟨hz1, hs1⟩ := sized_cons hs0
  have lt0 : ∀ x ∈ p0, x.block < W.heap.size := by obtain ⟨m, hm⟩ := h0; exact DataW.trod_lt m _ _ _ hm
  obtain ⟨y0, rv0, nm0, wf0⟩ := open_cd (d := 9) (c := (.pr (.int .i64) (.pr (.sl (.pr (.int .i64) (.int .i64))) (.sl (.int .i64))))) true (by kernel_rfl) (by kernel_rfl) (by kernel_rfl) (hval 0 40 v0 rfl rfl) h0 hz0
  have lt1 : ∀ x ∈ p1, x.block < W.heap.size := by obtain ⟨m, hm⟩ := h1; exact DataW.trod_lt m _ _ _ hm
  obtain ⟨y1, rv1, nm1, wf1⟩ := open_cd (d := 9) (c := (.int .i64)) false (by kernel_rfl) (by kernel_rfl) (by kernel_rfl) (hval 1 3 v1 rfl rfl) h1 hz1
  clear hA0 hval0
  obtain ⟨k, hk⟩ := pure_WaveCorners y0 y1 wf0 wf1
  refine (law_inst cfg_ok (okshuntlaw04_WaveCorners k) (x := (y0.1, y0.2.1, y0.2.2, y1)) (y := true) hk rfl (args := [argV true (.pr (.int .i64) (.pr (.sl (.pr (.int .i64) (.int .i64))) (.sl (.int .i64)))) y0, argV false (.int .i64) y1]) rfl (rvs_cons rv0 (rvs_cons rv1 rvs_nil)) (names_cons nm0 (names_cons nm1 rfl))).mono fun e W' ⟨he, bel⟩ => ?_
  subst he
  exact ⟨_, rfl, _, _, _, [], _, [], hW', trodAll_mk1 (shut_bool Try.underlying4 _), (trodAll_cons_mk (Below.trod laidOut (by kernel_rfl) (of_decide_eq_true (by kernel_rfl)) h0 bel lt0) (trodAll_cons_mk (Below.trod laidOut (by kernel_rfl) (of_decide_eq_true (by kernel_rfl)) h1 bel lt1) trodAll_mk0)), rfl, bel.frame _, fun h => by cases h⟩
theorem over : Rows.waveCornersRow.holds Try.pinned (OpenSpec.ofChange Rows.waveCornersSpec) :=
  OpenClaim.holds_of_wide 5 Try.f5 rfl rfl rfl rfl rfl rfl rfl ⟨rfl, rfl, rfl, rfl, rfl⟩ rfl rfl rfl rfl rfl (by kernel_rfl) Try.func5 (by kernel_rfl)
    (of_decide_eq_true (by kernel_rfl)) (by unfold Func.isWrapper; first | (rw [if_pos (by decide +kernel)]; kernel_rfl) | (rw [if_neg (by decide +kernel)]; exact ⟨rfl, rfl⟩))
    (fun os started H enc _ => lifted os started H enc)
theorem proved : Rows.WaveCornersSaid := over
#print axioms proved
end Go.Proofs.Ytbhnafdmilfobaa.waveCorners
namespace Go.Proofs.Ytbhnafdmilfobaa
/-- The row, under a short name, for the claim. -/
theorem waveCorners_holds : Rows.WaveCornersSaid := waveCorners.proved
end Go.Proofs.Ytbhnafdmilfobaa

/- Plain reckoning: rounds enough, and what rows of digits are worth. -/
import Derived.Test.YtlnailgfialgnaaGreatDoorMP3
import Derived.KernelRfl

set_option linter.unusedVariables false
set_option linter.unusedSimpArgs false
namespace Go.Proofs.YtlnailgfialgnaaGreatDoor.Am

/-- With rounds enough the answer is r. -/
def Rn {α : Type} (f : Nat → Option α) (r : α) : Prop := ∃ K, ∀ k, K ≤ k → f k = some r
/-- The same, where a loop's rounds count for themselves. -/
def Rl {α : Type} (f : Nat → Nat → Option α) (r : α) : Prop := ∃ K, ∀ k n, K ≤ k → K ≤ n → f k n = some r
section
variable {α β γ : Type}
theorem Rn.pure (r : α) : Rn (fun _ => some r) r := ⟨0, fun _ _ => rfl⟩
theorem Rn.eq {f : Nat → Option α} {r : α} (K : Nat) (h : ∀ k, K ≤ k → f k = some r) : Rn f r := ⟨K, h⟩
theorem Rn.bind {f : Nat → Option α} {g : Nat → α → Option β} {x : α} {r : β} (h1 : Rn f x) (h2 : Rn (fun k => g k x) r) : Rn (fun k => Option.bind (f k) (g k)) r := by
  obtain ⟨K1, h1⟩ := h1
  obtain ⟨K2, h2⟩ := h2
  exact ⟨max K1 K2, fun k hk => by show Option.bind (f k) (g k) = _; rw [h1 k (by omega)]; exact h2 k (by omega)⟩
/-- A function's rounds are one more than its body's. -/
theorem Rn.up {f : Nat → Option α} {r : α} (h : Rn (fun k => f (k + 1)) r) : Rn f r := by
  obtain ⟨K, h⟩ := h
  refine ⟨K + 1, fun k hk => ?_⟩
  obtain ⟨j, rfl⟩ : ∃ j, k = j + 1 := ⟨k - 1, by omega⟩
  exact h j (by omega)
theorem Rn.const {e : Option α} {r : α} (h : e = some r) : Rn (fun _ => e) r := ⟨0, fun _ _ => h⟩
theorem Rn.t {c : Prop} [Decidable c] {f g : Nat → Option α} {r : α} (h : c) (hf : Rn f r) : Rn (fun k => if c then f k else g k) r := by
  simpa only [if_pos h] using hf
theorem Rn.f {c : Prop} [Decidable c] {f g : Nat → Option α} {r : α} (h : ¬ c) (hg : Rn g r) : Rn (fun k => if c then f k else g k) r := by
  simpa only [if_neg h] using hg
theorem Rn.at {o : Option α} {g : Nat → α → Option β} {x : α} {r : β} (h : o = some x) (hg : Rn (fun k => g k x) r) : Rn (fun k => Option.bind o (g k)) r := by
  simpa only [h, Option.bind_some] using hg
theorem Rl.diag {f : Nat → Nat → Option α} {r : α} (h : Rl f r) : Rn (fun k => f k k) r := by
  obtain ⟨K, h⟩ := h
  exact ⟨K, fun k hk => h k k hk hk⟩
theorem Rl.pure (r : α) : Rl (fun _ _ => some r) r := ⟨0, fun _ _ _ _ => rfl⟩
theorem Rl.bind {f : Nat → Option α} {g : Nat → Nat → α → Option β} {x : α} {r : β} (h1 : Rn f x) (h2 : Rl (fun k n => g k n x) r) : Rl (fun k n => Option.bind (f k) (g k n)) r := by
  obtain ⟨K1, h1⟩ := h1
  obtain ⟨K2, h2⟩ := h2
  exact ⟨max K1 K2, fun k n hk hn => by show Option.bind (f k) (g k n) = _; rw [h1 k (by omega)]; exact h2 k n (by omega) (by omega)⟩
theorem Rl.up {f : Nat → Nat → Option α} {r : α} (h : Rl (fun k n => f k (n + 1)) r) : Rl f r := by
  obtain ⟨K, h⟩ := h
  refine ⟨K + 1, fun k n hk hn => ?_⟩
  obtain ⟨j, rfl⟩ : ∃ j, n = j + 1 := ⟨n - 1, by omega⟩
  exact h k j (by omega) (by omega)
theorem Rl.of {f : Nat → Nat → Option α} {r : α} (K : Nat) (h : ∀ k n, K ≤ n → f k n = some r) : Rl f r := ⟨K, fun k n _ hn => h k n hn⟩
end

theorem wrap_u32_id {x : Int} (h : 0 ≤ x ∧ x < 4294967296) : IntKind.u32.wrap x = x := by rw [wrap_u32]; omega
theorem wrap_u64_id {x : Int} (h : 0 ≤ x ∧ x < 18446744073709551616) : IntKind.u64.wrap x = x := by rw [wrap_u64]; omega
theorem wrap_u8_id {x : Int} (h : 0 ≤ x ∧ x < 256) : IntKind.u8.wrap x = x := by rw [wrap_u8]; omega
theorem fdiv_pos (x : Int) {d : Int} (h : 0 ≤ d) : x.fdiv d = x / d := by
  rw [Int.fdiv_eq_ediv_of_nonneg _ h]
theorem tdiv_pos {x d : Int} (h : 0 ≤ x) : x.tdiv d = x / d := Int.tdiv_eq_ediv_of_nonneg h
theorem tmod_pos {x d : Int} (h : 0 ≤ x) : x.tmod d = x % d := Int.tmod_eq_emod_of_nonneg h
/-- What reckons, in one. -/
theorem ps :
  (∀ {p : Prop} [inst : Decidable p], (Decidable.decide p = Bool.true) = p) ∧
  (∀ {p : Prop} {x : Decidable p}, Decidable.decide p = Bool.false ↔ ¬p) ∧
  (∀ {α : Type} [inst : BEq α] [LawfulBEq α] {a b : α}, (a == b) = Bool.true ↔ a = b) ∧
  (∀ {α : Type} [inst : BEq α] [LawfulBEq α] {a b : α}, (a != b) = Bool.true ↔ a ≠ b) ∧
  (∀ {α : Type} (a b : α), (a ≠ b) = ¬a = b) ∧
  (∀ {α : Type} [inst : LT α] {x y : α}, x > y ↔ y < x) ∧
  (∀ {α : Type} [inst : LE α] {x y : α}, x ≥ y ↔ y ≤ x) ∧
  (∀ {a b : Int}, a ≤ b → (a ≤ b) = True) ∧
  (∀ {a b : Int}, ¬a ≤ b → (a ≤ b) = False) ∧
  (∀ {a b : Int}, a < b → (a < b) = True) ∧
  (∀ {a b : Int}, ¬a < b → (a < b) = False) ∧
  (∀ {a b : Int}, a = b → (a = b) = True) ∧
  (∀ {a b : Int}, ¬a = b → (a = b) = False) ∧
  (∀ {a b : Nat}, a ≤ b → (a ≤ b) = True) ∧
  (∀ {a b : Nat}, ¬a ≤ b → (a ≤ b) = False) ∧
  (∀ {a b : Nat}, a < b → (a < b) = True) ∧
  (∀ {a b : Nat}, ¬a < b → (a < b) = False) ∧
  ((¬True) = False) ∧
  ((¬False) = True) ∧
  (∀ (p : Prop), (True ∧ p) = p) ∧
  (∀ (p : Prop), (p ∧ True) = p) ∧
  (∀ (p : Prop), (False ∧ p) = False) ∧
  (∀ (p : Prop), (p ∧ False) = False) ∧
  (∀ (p : Prop), (p ∧ p) = p) ∧
  (∀ (p : Prop), (p ∨ True) = True) ∧
  (∀ (p : Prop), (True ∨ p) = True) ∧
  (∀ (p : Prop), (p ∨ False) = p) ∧
  (∀ (p : Prop), (False ∨ p) = p) ∧
  (∀ {α β : Type} (a : α) (f : α → Option β), (Option.some a).bind f = f a) ∧
  (∀ (n : Nat), (0 : Nat) + n = n) ∧
  (∀ (n : Nat), n + (0 : Nat) = n) ∧
  (∀ (n : Nat), n - (0 : Nat) = n) ∧
  (∀ (n : Nat), (↑n : Int).toNat = n) ∧
  (Int.toNat (0 : Int) = (0 : Nat)) ∧
  (∀ {x : Int}, (-9223372036854775808 : Int) ≤ x ∧ x ≤ (9223372036854775807 : Int) → Go.IntKind.i64.wrap x = x) ∧
  (∀ {x : Int}, (0 : Int) ≤ x ∧ x < (4294967296 : Int) → Go.IntKind.u32.wrap x = x) ∧
  (∀ {x : Int}, (0 : Int) ≤ x ∧ x < (18446744073709551616 : Int) → Go.IntKind.u64.wrap x = x) ∧
  (∀ {x : Int}, (0 : Int) ≤ x ∧ x < (256 : Int) → Go.IntKind.u8.wrap x = x) ∧
  (∀ {α : Type} {l : List α}, List.take (0 : Nat) l = []) ∧
  (∀ {α : Type} (zs : List α), [] ++ zs = zs) ∧
  (∀ {α : Type} [inst : BEq α] [ReflBEq α] (a : α), (a == a) = Bool.true) ∧
  (∀ {α : Type} [inst : BEq α] [LawfulBEq α] (a : α), (a != a) = Bool.false) ∧
  (∀ {α : Type} (a : α), (a = a) = True) ∧
  ((Bool.false = Bool.true) = False) ∧
  ((Bool.true = Bool.false) = False) ∧
  (∀ {α : Type}, ([] : List α).length = (0 : Nat)) ∧
  ((↑(0 : Nat) : Int) = (0 : Int)) ∧
  ((!Bool.true) = Bool.false) ∧
  ((!Bool.false) = Bool.true) ∧
  (∀ {α β : Type} (f : α → Option β), Option.none.bind f = Option.none) ∧
  (∀ {α : Type} [inst : BEq α] [LawfulBEq α] {a b : α}, (a != b) = Bool.false ↔ a = b) ∧
  (∀ {α : Type} [inst : BEq α] [LawfulBEq α] {a b : α}, (a == b) = Bool.false ↔ a ≠ b) ∧
  (∀ (b : Bool), ((!b) = Bool.true) = (b = Bool.false)) ∧
  (∀ (b : Bool), ((!b) = Bool.false) = (b = Bool.true)) :=
  ⟨@decide_eq_true_eq, @decide_eq_false_iff_not, @beq_iff_eq.{0}, @bne_iff_ne.{0}, @ne_eq.{1}, @gt_iff_lt.{0}, @ge_iff_le.{0}, @ile_t, @ile_f, @ilt_t, @ilt_f, @ieq_t, @ieq_f, @nle_t, @nle_f, @nlt_t, @nlt_f, @not_true_eq_false, @not_false_eq_true, @true_and, @and_true, @false_and, @and_false, @and_self, @or_true, @true_or, @or_false, @false_or, @Option.bind_some.{0,0}, @Nat.zero_add, @Nat.add_zero, @Nat.sub_zero, @Int.toNat_natCast, @Int.toNat_zero, @wrap_i64, @wrap_u32_id, @wrap_u64_id, @wrap_u8_id, @List.take_zero.{0}, @List.nil_append.{0}, @beq_self_eq_true.{0}, @bne_self_eq_false.{0}, @eq_self.{1}, @Bool.false_eq_true, @Bool.true_eq_false, @List.length_nil.{0}, @Int.natCast_zero, @Bool.not_true, @Bool.not_false, @Option.bind_none.{0,0}, @bne_eq_false_iff_eq.{0}, @beq_eq_false_iff_ne.{0}, @Bool.not_eq_true', @Bool.not_eq_false'⟩
/-- The lower words and a higher one, as one. -/
theorem or_add {x y : Int} (hx : 0 ≤ x ∧ x < 4294967296) (hy : 0 ≤ y ∧ y < 4294967296) :
    ((BitVec.toNat ((BitVec.ofInt 64 (x * 4294967296)) ||| (BitVec.ofInt 64 y)) : Nat) : Int) = x * 4294967296 + y := by
  obtain ⟨a, rfl⟩ := Int.eq_ofNat_of_zero_le hx.1
  obtain ⟨b, rfl⟩ := Int.eq_ofNat_of_zero_le hy.1
  have h1 : (BitVec.ofInt 64 ((a : Int) * 4294967296)).toNat = a <<< 32 := by
    rw [BitVec.toNat_ofInt, Nat.shiftLeft_eq]
    have : ((a : Int) * 4294967296) = ((a * 2 ^ 32 : Nat) : Int) := by simp
    rw [this]
    have ha : a * 2 ^ 32 < 2 ^ 64 := by omega
    omega
  have h2 : (BitVec.ofInt 64 (b : Int)).toNat = b := by
    rw [BitVec.toNat_ofInt]
    omega
  rw [BitVec.toNat_or, h1, h2, ← Nat.shiftLeft_add_eq_or_of_lt (by omega : b < 2 ^ 32), Nat.shiftLeft_eq]
  simp
theorem and_low {x : Int} (hx : 0 ≤ x ∧ x < 18446744073709551616) : ((BitVec.toNat ((BitVec.ofInt 64 x) &&& (BitVec.ofInt 64 4294967295)) : Nat) : Int) = x % 4294967296 := by
  obtain ⟨a, rfl⟩ := Int.eq_ofNat_of_zero_le hx.1
  have h1 : (BitVec.ofInt 64 (a : Int)).toNat = a := by rw [BitVec.toNat_ofInt]; omega
  have h2 : (BitVec.ofInt 64 (4294967295 : Int)).toNat = 2 ^ 32 - 1 := by decide
  rw [BitVec.toNat_and, h1, h2, Nat.and_two_pow_sub_one_eq_mod]
  omega

/-- What digits are worth, the lowest first. -/
def V (B : Int) : List Int → Int
  | [] => 0
  | x :: r => x + B * V B r
/-- Digits of the base. -/
def Dg (B : Int) (l : List Int) : Prop := ∀ x ∈ l, 0 ≤ x ∧ x < B
/-- Without the noughts at the end. -/
def tl : List Int → List Int
  | [] => []
  | x :: r => if x = 0 ∧ tl r = [] then [] else x :: tl r
theorem tl_snoc (l : List Int) (x : Int) : tl (l ++ [x]) = if x = 0 then tl l else l ++ [x] := by
  induction l with
  | nil => by_cases h : x = 0 <;> simp [tl, h]
  | cons y l ih =>
    simp only [List.cons_append, tl, ih]
    by_cases h : x = 0
    · simp [h]
    · simp [h]
theorem tl_len (l : List Int) : (tl l).length ≤ l.length := by
  induction l with
  | nil => exact Nat.le_refl _
  | cons x r ih => simp only [tl]; split <;> simp; omega
theorem tl_take (l : List Int) : l.take (tl l).length = tl l := by
  induction l with
  | nil => rfl
  | cons x r ih =>
    simp only [tl]
    split
    · rfl
    · simp [ih]
theorem tl_tl (l : List Int) : tl (tl l) = tl l := by
  induction l with
  | nil => rfl
  | cons x r ih =>
    simp only [tl]
    split
    · rfl
    · rename_i h
      simp only [tl, ih]
      rw [if_neg h]
section
variable {B : Int}
theorem V_append (l m : List Int) : V B (l ++ m) = V B l + B ^ l.length * V B m := by
  induction l with
  | nil => simp [V]
  | cons x l ih =>
    simp only [List.cons_append, V, ih, List.length_cons, Int.pow_succ]
    rw [Int.mul_add, Int.add_assoc, Int.mul_comm (B ^ l.length) B, Int.mul_assoc]
theorem V_snoc (l : List Int) (x : Int) : V B (l ++ [x]) = V B l + B ^ l.length * x := by rw [V_append]; simp [V]
theorem Dg.nil : Dg B [] := fun x h => by cases h
theorem Dg.cons {x : Int} {l : List Int} (h : 0 ≤ x ∧ x < B) (hl : Dg B l) : Dg B (x :: l) := fun y hy => by
  rcases List.mem_cons.1 hy with rfl | hy
  · exact h
  · exact hl y hy
theorem Dg.tail {x : Int} {l : List Int} (h : Dg B (x :: l)) : Dg B l := fun y hy => h y (List.mem_cons_of_mem _ hy)
theorem Dg.head {x : Int} {l : List Int} (h : Dg B (x :: l)) : 0 ≤ x ∧ x < B := h x (List.mem_cons_self ..)
theorem Dg.append {l m : List Int} (h1 : Dg B l) (h2 : Dg B m) : Dg B (l ++ m) := fun y hy => by
  rcases List.mem_append.1 hy with hy | hy
  · exact h1 y hy
  · exact h2 y hy
theorem Dg.take {l : List Int} (h : Dg B l) (n : Nat) : Dg B (l.take n) := fun y hy => h y (List.mem_of_mem_take hy)
theorem Dg.drop {l : List Int} (h : Dg B l) (n : Nat) : Dg B (l.drop n) := fun y hy => h y (List.mem_of_mem_drop hy)
theorem Dg.get {l : List Int} (h : Dg B l) {i : Nat} {x : Int} (e : l[i]? = some x) : 0 ≤ x ∧ x < B := h x (List.mem_of_getElem? e)
theorem Dg.rep (n : Nat) (h : 0 < B) : Dg B (List.replicate n 0) := fun y hy => by
  rw [(List.mem_replicate.1 hy).2]; omega
theorem Dg.set {l : List Int} (h : Dg B l) (i : Nat) {x : Int} (hx : 0 ≤ x ∧ x < B) : Dg B (l.set i x) := fun y hy => by
  rcases List.mem_or_eq_of_mem_set hy with hy | rfl
  · exact h y hy
  · exact hx
theorem Dg.tl {l : List Int} (h : Dg B l) : Dg B (tl l) := by rw [← tl_take]; exact h.take _
theorem V_nonneg (hB : 0 ≤ B) {l : List Int} (h : Dg B l) : 0 ≤ V B l := by
  induction l with
  | nil => exact Int.le_refl _
  | cons x l ih => have := Int.mul_nonneg hB (ih h.tail); have := h.head; simp only [V]; omega
theorem V_lt (hB : 0 < B) {l : List Int} (h : Dg B l) : V B l < B ^ l.length := by
  induction l with
  | nil => simp [V]
  | cons x l ih =>
    have h1 := ih h.tail
    have h2 := h.head
    have h3 : B * (V B l + 1) ≤ B * B ^ l.length := Int.mul_le_mul_of_nonneg_left (by omega) (by omega)
    simp only [V, List.length_cons, Int.pow_succ]
    rw [Int.mul_add] at h3
    rw [Int.mul_comm (B ^ l.length) B]
    omega
theorem V_rep (n : Nat) : V B (List.replicate n 0) = 0 := by
  induction n with
  | zero => rfl
  | succ n ih => simp [List.replicate_succ, V, ih]
theorem V_tl (l : List Int) : V B (tl l) = V B l := by
  induction l with
  | nil => rfl
  | cons x l ih =>
    simp only [tl]
    split
    · rename_i h
      rw [h.2] at ih
      simp only [V] at ih ⊢
      rw [← ih, h.1]; simp
    · simp only [V, ih]
/-- Digits in the one form. -/
def Cn (B : Int) (l : List Int) : Prop := Dg B l ∧ tl l = l
theorem Cn.of {l : List Int} (h : Dg B l) : Cn B (tl l) := ⟨h.tl, tl_tl l⟩
theorem Cn.nil : Cn B [] := ⟨Dg.nil, rfl⟩
theorem Cn.tail {x : Int} {l : List Int} (h : Cn B (x :: l)) : Cn B l := by
  refine ⟨h.1.tail, ?_⟩
  have := h.2
  simp only [tl] at this
  split at this
  · cases this
  · simpa using this
theorem Cn.pos {x : Int} {l : List Int} (hB : 0 < B) (h : Cn B (x :: l)) : 0 < V B (x :: l) := by
  induction l generalizing x with
  | nil =>
    have h1 := h.1.head
    have h2 := h.2
    simp only [tl, and_true] at h2
    simp only [V, Int.mul_zero, Int.add_zero]
    split at h2
    · cases h2
    · omega
  | cons y l ih =>
    have := ih h.tail
    have := Int.mul_pos hB this
    have := h.1.head
    rw [V]
    omega
theorem Cn.ext (hB : 0 < B) : ∀ {l m : List Int}, Cn B l → Cn B m → V B l = V B m → l = m := by
  intro l
  induction l with
  | nil =>
    intro m h1 h2 e
    cases m with
    | nil => rfl
    | cons y m => have := h2.pos hB; rw [← e] at this; simp [V] at this
  | cons x l ih =>
    intro m h1 h2 e
    cases m with
    | nil => have := h1.pos hB; rw [e] at this; simp [V] at this
    | cons y m =>
      have hx := h1.1.head
      have hy := h2.1.head
      simp only [V] at e
      have e1 : x = y := by
        have a1 : (x + B * V B l) % B = x := by rw [Int.add_mul_emod_self_left]; exact Int.emod_eq_of_lt hx.1 hx.2
        have a2 : (y + B * V B m) % B = y := by rw [Int.add_mul_emod_self_left]; exact Int.emod_eq_of_lt hy.1 hy.2
        rw [← a1, ← a2, e]
      subst e1
      have e2 : B * V B l = B * V B m := by omega
      have e3 := Int.eq_of_mul_eq_mul_left (by omega) e2
      rw [ih h1.tail h2.tail e3]
theorem Cn.nil_iff (hB : 0 < B) {l : List Int} (h : Cn B l) : l = [] ↔ V B l = 0 := by
  constructor
  · rintro rfl; rfl
  · intro e; exact Cn.ext hB h Cn.nil e
/-- The last digit isn't 0. -/
theorem Cn.last {l : List Int} (h : Dg B l) : tl l = l ↔ l = [] ∨ ∃ m x, l = m ++ [x] ∧ x ≠ 0 := by
  rcases List.eq_nil_or_concat l with rfl | ⟨m, x, rfl⟩
  · simp [tl]
  · simp only [List.concat_eq_append, tl_snoc]
    constructor
    · intro e
      refine .inr ⟨m, x, rfl, fun h0 => ?_⟩
      rw [if_pos h0] at e
      have := tl_len m
      rw [e] at this
      simp at this
      omega
    · rintro (e | ⟨m', x', e, h0⟩)
      · simp at e
      · obtain ⟨h1, h2⟩ := List.append_inj' e rfl
        simp only [List.cons.injEq, and_true] at h2
        rw [h2, if_neg h0]
/-- Long numbers are great. -/
theorem Cn.ge (hB : 0 < B) {l : List Int} (h : Cn B l) (h0 : l ≠ []) : B ^ (l.length - 1) ≤ V B l := by
  rcases (Cn.last h.1).1 h.2 with e | ⟨m, x, rfl, hx⟩
  · exact absurd e h0
  · have h1 := h.1 x (by simp)
    have h2 : Dg B m := fun y hy => h.1 y (by simp [hy])
    have h3 := V_nonneg (by omega) h2
    rw [V_snoc]
    have hp : 0 < B ^ m.length := Int.pow_pos hB
    have h4 : B ^ m.length * 1 ≤ B ^ m.length * x := Int.mul_le_mul_of_nonneg_left (by omega) (by omega)
    simp only [List.length_append, List.length_cons, List.length_nil, Nat.zero_add, Nat.add_sub_cancel]
    omega
theorem pow_mono (hB : 1 ≤ B) {a b : Nat} (h : a ≤ b) : B ^ a ≤ B ^ b := by
  obtain ⟨c, rfl⟩ := Nat.exists_eq_add_of_le h
  rw [Int.pow_add]
  have h1 : 0 < B ^ a := Int.pow_pos (by omega)
  have h2 : (1 : Int) ≤ B ^ c := by have : 0 < B ^ c := Int.pow_pos (by omega); omega
  have := Int.mul_le_mul_of_nonneg_left h2 (Int.le_of_lt h1)
  omega
theorem Cn.len_lt (hB : 1 < B) {l m : List Int} (h1 : Cn B l) (h2 : Cn B m) (h : l.length < m.length) : V B l < V B m := by
  have a := V_lt (by omega) h1.1
  have b := h2.ge (by omega) (by rintro rfl; simp at h)
  have c := pow_mono (B := B) (by omega) (show l.length ≤ m.length - 1 by omega)
  omega
/-- How many digits there are. -/
theorem Cn.len_le (hB : 1 < B) {l : List Int} (h : Cn B l) (n : Nat) : l.length ≤ n ↔ V B l < B ^ n := by
  constructor
  · intro e
    have a := V_lt (by omega) h.1
    have c := pow_mono (B := B) (by omega) e
    omega
  · intro e
    by_cases h0 : l = []
    · simp [h0]
    · have b := h.ge (by omega) h0
      refine Nat.le_of_not_lt fun hlt => ?_
      have c := pow_mono (B := B) (by omega) (show n ≤ l.length - 1 by omega)
      omega
theorem V_take_succ {l : List Int} {i : Nat} {x : Int} (e : l[i]? = some x) : V B (l.take (i + 1)) = V B (l.take i) + B ^ i * x := by
  rw [List.take_add_one, e]
  have : (l.take i).length = i := by rw [List.length_take]; have := (List.getElem?_eq_some_iff.1 e).1; omega
  simp only [Option.toList_some]
  rw [V_snoc, this]
theorem V_split (l : List Int) (i : Nat) (h : i ≤ l.length) : V B l = V B (l.take i) + B ^ i * V B (l.drop i) := by
  conv => lhs; rw [← List.take_append_drop i l, V_append, List.length_take, Nat.min_eq_left h]
theorem V_drop {l : List Int} {i : Nat} {x : Int} (e : l[i]? = some x) : V B (l.drop i) = x + B * V B (l.drop (i + 1)) := by
  obtain ⟨h, rfl⟩ := List.getElem?_eq_some_iff.1 e
  rw [List.drop_eq_getElem_cons h]
  rfl
end
theorem get_of {l : List Int} {i : Nat} (h : i < l.length) : ∃ x, l[i]? = some x := ⟨l[i], List.getElem?_eq_getElem h⟩
theorem set_take_succ (l : List Int) (i : Nat) (x : Int) (h : i < l.length) : (l.set i x).take (i + 1) = l.take i ++ [x] := by
  rw [List.take_add_one, List.take_set_of_le (Nat.le_refl i), List.getElem?_set_self h]
  rfl

/-- A signed number: its sign and its digits in the one form. -/
structure Nm (B : Int) (s : Bool) (l : List Int) (z : Int) : Prop where
  c : Cn B l
  sg : s = true → l ≠ []
  z : (if s then -(V B l) else V B l) = z
theorem Nm.cast {B : Int} {s : Bool} {l : List Int} {z z' : Int} (h : Nm B s l z) (e : z = z') : Nm B s l z' := e ▸ h
theorem Nm.ext {B : Int} (hB : 0 < B) {s t : Bool} {l m : List Int} {z : Int} (h1 : Nm B s l z) (h2 : Nm B t m z) : s = t ∧ l = m := by
  have p1 := V_nonneg (B := B) (by omega) h1.c.1
  have p2 := V_nonneg (B := B) (by omega) h2.c.1
  have q1 := h1.c.nil_iff hB
  have q2 := h2.c.nil_iff hB
  have e1 := h1.z
  have e2 := h2.z
  have s1 := h1.sg
  have s2 := h2.sg
  cases s <;> cases t
  · refine ⟨rfl, Cn.ext hB h1.c h2.c ?_⟩
    simp at e1 e2; omega
  · have := s2 rfl
    simp at e1 e2
    exact absurd (q2.2 (by omega)) this
  · have := s1 rfl
    simp at e1 e2
    exact absurd (q1.2 (by omega)) this
  · refine ⟨rfl, Cn.ext hB h1.c h2.c ?_⟩
    simp at e1 e2; omega
theorem Nm.abs {B : Int} (hB : 0 < B) {s : Bool} {l : List Int} {z : Int} (h : Nm B s l z) : V B l = z.natAbs := by
  have p := V_nonneg (B := B) (by omega) h.c.1
  have := h.z
  cases s <;> simp at this <;> omega
theorem Nm.neg {B : Int} (hB : 0 < B) {s : Bool} {l : List Int} {z : Int} (h : Nm B s l z) : s = decide (z < 0) := by
  have p := V_nonneg (B := B) (by omega) h.c.1
  have e := h.z
  cases s
  · simp at e
    rw [eq_comm, decide_eq_false_iff_not]; omega
  · have := h.sg rfl
    have q := mt (h.c.nil_iff hB).2 this
    simp at e
    rw [eq_comm, decide_eq_true_eq]; omega
theorem Nm.of {B : Int} (hB : 0 < B) {l : List Int} (h : Cn B l) {z : Int} (e : V B l = z.natAbs) : Nm B (decide (z < 0)) l z := by
  have p := V_nonneg (B := B) (by omega) h.1
  refine ⟨h, fun hs h0 => ?_, ?_⟩
  · have := (h.nil_iff hB).1 h0
    simp at hs; omega
  · by_cases hz : z < 0
    · simp [hz]; omega
    · simp [hz]; omega
end Go.Proofs.YtlnailgfialgnaaGreatDoor.Am

/- Plain reckoning: loops that look through a row. -/
set_option linter.unusedVariables false
set_option linter.unusedSimpArgs false
namespace Go.Proofs.YtlnailgfialgnaaGreatDoor.Am
open Go
theorem Rl.t {α : Type} {c : Prop} [Decidable c] {f g : Nat → Nat → Option α} {r : α} (h : c) (hf : Rl f r) : Rl (fun k n => if c then f k n else g k n) r := by
  simpa only [if_pos h] using hf
theorem Rl.f {α : Type} {c : Prop} [Decidable c] {f g : Nat → Nat → Option α} {r : α} (h : ¬ c) (hg : Rl g r) : Rl (fun k n => if c then f k n else g k n) r := by
  simpa only [if_neg h] using hg
theorem Rl.at {α β : Type} {o : Option α} {g : Nat → Nat → α → Option β} {x : α} {r : β} (h : o = some x) (hg : Rl (fun k n => g k n x) r) : Rl (fun k n => Option.bind o (g k n)) r := by
  simpa only [h, Option.bind_some] using hg
theorem getD_some {α : Type} {l : List α} {i : Nat} (d : α) (h : i < l.length) : l[i]? = some (l.getD i d) := by
  rw [List.getElem?_eq_getElem h]; simp [List.getD, h]
/-- A loop that looks at each place, and leaves at the first that isn't right. -/
theorem scan {A B : Type} (L s : Nat) (F : Nat → Nat → Int → Option (A ⊕ B)) (b : B) (P : A → Prop) (ok : Nat → Prop)
    (hend : Rl (fun k n => F k n (L : Int)) (.inr b))
    (hgo : ∀ i : Nat, s ≤ i → i < L → ok i → ∀ o, Rl (fun k n => F k n ((i : Int) + 1)) o → Rl (fun k n => F k n (i : Int)) o)
    (hno : ∀ i : Nat, s ≤ i → i < L → ¬ ok i → ∃ a, P a ∧ Rl (fun k n => F k n (i : Int)) (.inl a)) :
    ∀ d i : Nat, s ≤ i → i + d = L → ∃ o, Rl (fun k n => F k n (i : Int)) o ∧ ((∀ j, i ≤ j → j < L → ok j) ∧ o = .inr b ∨ (¬ ∀ j, i ≤ j → j < L → ok j) ∧ ∃ a, P a ∧ o = .inl a) := by
  intro d
  induction d with
  | zero =>
    intro i hs hi
    obtain rfl : i = L := by omega
    exact ⟨_, hend, .inl ⟨fun j h1 h2 => absurd h2 (by omega), rfl⟩⟩
  | succ d ih =>
    intro i hs hi
    by_cases h : ok i
    · obtain ⟨o, h1, h2⟩ := ih (i + 1) (by omega) (by omega)
      refine ⟨o, hgo i hs (by omega) h o h1, ?_⟩
      have e : (∀ j, i + 1 ≤ j → j < L → ok j) ↔ (∀ j, i ≤ j → j < L → ok j) := ⟨fun g j j1 j2 => by
        rcases Nat.lt_or_ge i j with k | k
        · exact g j k j2
        · exact (show i = j by omega) ▸ h, fun g j j1 j2 => g j (by omega) j2⟩
      rwa [e] at h2
    · obtain ⟨a, h1, h2⟩ := hno i hs (by omega) h
      exact ⟨_, h2, .inr ⟨fun g => h (g i (Nat.le_refl _) (by omega)), a, h1, rfl⟩⟩
end Go.Proofs.YtlnailgfialgnaaGreatDoor.Am

/- The fixed fact that every law of layer 20 asks first. -/
set_option linter.unusedVariables false
set_option linter.unusedSimpArgs false
set_option maxRecDepth 10000
namespace Go.Proofs.YtlnailgfialgnaaGreatDoor.Am
open Go
theorem fix20 {α : Type} {f : Nat → Option α} {x : α} (h : ∀ j, f (j + 40) = some x) : Rn f x := Rn.eq 40 fun k hk => by
  obtain ⟨j, rfl⟩ : ∃ j, k = j + 40 := ⟨k - 40, by omega⟩
  exact h j
theorem awake20_ev : Rn (fun k => Fshuntlaw20_awake k) true := fix20 fun j => by kernel_rfl
end Go.Proofs.YtlnailgfialgnaaGreatDoor.Am

/- Plain reckoning: rows of whole numbers within the probe's bounds. -/
set_option linter.unusedVariables false
set_option linter.unusedSimpArgs false
set_option maxRecDepth 10000
namespace Go.Proofs.YtlnailgfialgnaaGreatDoor.Am
open Go
def okV (x : Int) : Prop := -2000000000000000000 ≤ x ∧ x ≤ 2000000000000000000
theorem okV_of {x : Int} (h1 : ¬ x > 2000000000000000000) (h2 : ¬ x < -2000000000000000000) : okV x := ⟨by omega, by omega⟩
theorem rout_loop (l : List Int) (hl : l.length ≤ 1000000000000000000) : ∃ o, Rl (fun k n => Lshuntref20_Outside_0 k n l (0 : Nat)) o ∧
    ((∀ j, 0 ≤ j → j < l.length → okV (l.getD j 0)) ∧ o = .inr () ∨ (¬ ∀ j, 0 ≤ j → j < l.length → okV (l.getD j 0)) ∧ ∃ a : Bool, a = true ∧ o = .inl a) := by
  refine scan l.length 0 (fun k n i => Lshuntref20_Outside_0 k n l i) () (fun a => a = true) (fun j => okV (l.getD j 0)) ?_ ?_ ?_ l.length 0 (by omega) (by omega)
  · refine Rl.up (f := fun k n => Lshuntref20_Outside_0 k n l l.length) (Rl.of 0 fun k n _ => ?_)
    show Lshuntref20_Outside_0s k (Lshuntref20_Outside_0 k n) _ _ = _
    unfold Lshuntref20_Outside_0s
    exact if_neg (by first | omega | (simp only [decide_eq_true_eq, decide_eq_false_iff_not, Int.toNat_natCast, beq_iff_eq, bne_iff_ne, ne_eq, Int.not_lt, Int.not_le, ge_iff_le, gt_iff_lt, beq_eq_false_iff_ne, Nat.zero_add]; omega))
  · intro i hs hi hok o ho
    refine Rl.up (f := fun k n => Lshuntref20_Outside_0 k n l i) ?_
    show Rl (fun k n => Lshuntref20_Outside_0s k (Lshuntref20_Outside_0 k n) _ _) _
    unfold Lshuntref20_Outside_0s
    obtain ⟨h1, h2⟩ := hok
    rw [wrap_i64 (x := (i : Int) + 1) (by omega)]
    exact Rl.t (by first | omega | (simp only [decide_eq_true_eq, decide_eq_false_iff_not, Int.toNat_natCast, beq_iff_eq, bne_iff_ne, ne_eq, Int.not_lt, Int.not_le, ge_iff_le, gt_iff_lt, beq_eq_false_iff_ne, Nat.zero_add]; omega)) (Rl.t (by first | omega | (simp only [decide_eq_true_eq, decide_eq_false_iff_not, Int.toNat_natCast, beq_iff_eq, bne_iff_ne, ne_eq, Int.not_lt, Int.not_le, ge_iff_le, gt_iff_lt, beq_eq_false_iff_ne, Nat.zero_add]; omega)) (Rl.at (getD_some 0 (by first | omega | (simp only [decide_eq_true_eq, decide_eq_false_iff_not, Int.toNat_natCast, beq_iff_eq, bne_iff_ne, ne_eq, Int.not_lt, Int.not_le, ge_iff_le, gt_iff_lt, beq_eq_false_iff_ne, Nat.zero_add]; omega))) (Rl.t (by first | omega | (simp only [decide_eq_true_eq, decide_eq_false_iff_not, Int.toNat_natCast, beq_iff_eq, bne_iff_ne, ne_eq, Int.not_lt, Int.not_le, ge_iff_le, gt_iff_lt, beq_eq_false_iff_ne, Nat.zero_add]; omega)) (Rl.t (by first | omega | (simp only [decide_eq_true_eq, decide_eq_false_iff_not, Int.toNat_natCast, beq_iff_eq, bne_iff_ne, ne_eq, Int.not_lt, Int.not_le, ge_iff_le, gt_iff_lt, beq_eq_false_iff_ne, Nat.zero_add]; omega)) (Rl.at (getD_some 0 (by first | omega | (simp only [decide_eq_true_eq, decide_eq_false_iff_not, Int.toNat_natCast, beq_iff_eq, bne_iff_ne, ne_eq, Int.not_lt, Int.not_le, ge_iff_le, gt_iff_lt, beq_eq_false_iff_ne, Nat.zero_add]; omega))) (Rl.f (by first | omega | (simp only [decide_eq_true_eq, decide_eq_false_iff_not, Int.toNat_natCast, beq_iff_eq, bne_iff_ne, ne_eq, Int.not_lt, Int.not_le, ge_iff_le, gt_iff_lt, beq_eq_false_iff_ne, Nat.zero_add]; omega)) ho))))))
  · intro i hs hi hok
    refine ⟨true, rfl, Rl.up (f := fun k n => Lshuntref20_Outside_0 k n l i) ?_⟩
    show Rl (fun k n => Lshuntref20_Outside_0s k (Lshuntref20_Outside_0 k n) _ _) _
    unfold Lshuntref20_Outside_0s
    refine Rl.t (by first | omega | (simp only [decide_eq_true_eq, decide_eq_false_iff_not, Int.toNat_natCast, beq_iff_eq, bne_iff_ne, ne_eq, Int.not_lt, Int.not_le, ge_iff_le, gt_iff_lt, beq_eq_false_iff_ne, Nat.zero_add]; omega)) (Rl.t (by first | omega | (simp only [decide_eq_true_eq, decide_eq_false_iff_not, Int.toNat_natCast, beq_iff_eq, bne_iff_ne, ne_eq, Int.not_lt, Int.not_le, ge_iff_le, gt_iff_lt, beq_eq_false_iff_ne, Nat.zero_add]; omega)) (Rl.at (getD_some 0 (by first | omega | (simp only [decide_eq_true_eq, decide_eq_false_iff_not, Int.toNat_natCast, beq_iff_eq, bne_iff_ne, ne_eq, Int.not_lt, Int.not_le, ge_iff_le, gt_iff_lt, beq_eq_false_iff_ne, Nat.zero_add]; omega))) ?_))
    by_cases h1 : l.getD i 0 > 2000000000000000000
    · exact Rl.f (by first | omega | (simp only [decide_eq_true_eq, decide_eq_false_iff_not, Int.toNat_natCast, beq_iff_eq, bne_iff_ne, ne_eq, Int.not_lt, Int.not_le, ge_iff_le, gt_iff_lt, beq_eq_false_iff_ne, Nat.zero_add]; omega)) (Rl.pure _)
    have h2 : l.getD i 0 < -2000000000000000000 := by
      by_cases h2 : l.getD i 0 < -2000000000000000000
      · exact h2
      · exact absurd (okV_of h1 h2) hok
    exact Rl.t (by first | omega | (simp only [decide_eq_true_eq, decide_eq_false_iff_not, Int.toNat_natCast, beq_iff_eq, bne_iff_ne, ne_eq, Int.not_lt, Int.not_le, ge_iff_le, gt_iff_lt, beq_eq_false_iff_ne, Nat.zero_add]; omega)) (Rl.t (by first | omega | (simp only [decide_eq_true_eq, decide_eq_false_iff_not, Int.toNat_natCast, beq_iff_eq, bne_iff_ne, ne_eq, Int.not_lt, Int.not_le, ge_iff_le, gt_iff_lt, beq_eq_false_iff_ne, Nat.zero_add]; omega)) (Rl.at (getD_some 0 (by first | omega | (simp only [decide_eq_true_eq, decide_eq_false_iff_not, Int.toNat_natCast, beq_iff_eq, bne_iff_ne, ne_eq, Int.not_lt, Int.not_le, ge_iff_le, gt_iff_lt, beq_eq_false_iff_ne, Nat.zero_add]; omega))) (Rl.t (by first | omega | (simp only [decide_eq_true_eq, decide_eq_false_iff_not, Int.toNat_natCast, beq_iff_eq, bne_iff_ne, ne_eq, Int.not_lt, Int.not_le, ge_iff_le, gt_iff_lt, beq_eq_false_iff_ne, Nat.zero_add]; omega)) (Rl.pure _))))
end Go.Proofs.YtlnailgfialgnaaGreatDoor.Am

/- Plain reckoning: the program's own whole numbers: trim, sums, differences, comparing. -/
set_option linter.unusedVariables false
set_option linter.unusedSimpArgs false
set_option maxRecDepth 10000
namespace Go.Proofs.YtlnailgfialgnaaGreatDoor.Am
open Go

/-- Words of the program: 32 bits. -/
abbrev W : Int := 4294967296
theorem Wpos (i : Nat) : (0 : Int) < W ^ i := Int.pow_pos (by decide)
theorem trim_loop (k : Nat) (w : List Int) (hl : w.length ≤ 140737488355328) : ∀ (i n : Nat), i ≤ w.length → i < n → Lbig_trim_0 k n w i = some (w, ((tl (w.take i)).length : Int)) := by
  intro i
  induction i with
  | zero =>
    intro n hi hn
    obtain ⟨n, rfl⟩ : ∃ m, n = m + 1 := ⟨n - 1, by omega⟩
    show Lbig_trim_0s k (Lbig_trim_0 k n) w _ = _
    unfold Lbig_trim_0s
    simp (config := { implicitDefEqProofs := false, maxSteps := 2000000 }) (disch := omega) only [ps, ↓reduceIte, reduceCtorEq, Int.reduceLT, Int.reduceLE, Int.reduceEq, Nat.reduceLT, Nat.reduceLeDiff, Nat.reduceEqDiff, Int.reduceNeg, eitherK]
    rfl
  | succ i ih =>
    intro n hi hn
    obtain ⟨n, rfl⟩ : ∃ m, n = m + 1 := ⟨n - 1, by omega⟩
    show Lbig_trim_0s k (Lbig_trim_0 k n) w _ = _
    unfold Lbig_trim_0s
    obtain ⟨x, hx⟩ := get_of (show i < w.length by omega)
    have h1 : (((i + 1 : Nat) : Int) - 1) = (i : Int) := by omega
    have ht : w.take (i + 1) = w.take i ++ [x] := by rw [List.take_add_one, hx]; rfl
    simp (config := { implicitDefEqProofs := false, maxSteps := 2000000 }) (disch := omega) only [ps, ↓reduceIte, reduceCtorEq, Int.reduceLT, Int.reduceLE, Int.reduceEq, Nat.reduceLT, Nat.reduceLeDiff, Nat.reduceEqDiff, Int.reduceNeg, eitherK, h1, hx]
    by_cases h : x = 0
    · simp (config := { implicitDefEqProofs := false, maxSteps := 2000000 }) (disch := omega) only [ps, ↓reduceIte, reduceCtorEq, Int.reduceLT, Int.reduceLE, Int.reduceEq, Nat.reduceLT, Nat.reduceLeDiff, Nat.reduceEqDiff, Int.reduceNeg, eitherK, h]
      rw [ih n (by omega) (by omega), ht, tl_snoc, if_pos h]
    · simp (config := { implicitDefEqProofs := false, maxSteps := 2000000 }) (disch := omega) only [ps, ↓reduceIte, reduceCtorEq, Int.reduceLT, Int.reduceLE, Int.reduceEq, Nat.reduceLT, Nat.reduceLeDiff, Nat.reduceEqDiff, Int.reduceNeg, eitherK, h]
      rw [ht, tl_snoc, if_neg h]
      simp
      omega
theorem trim_ev (w : List Int) (hl : w.length ≤ 140737488355328) : Rn (fun k => Fbig_trim k w) (tl w) := by
  refine Rn.eq (w.length + 2) fun k hk => ?_
  obtain ⟨k, rfl⟩ : ∃ m, k = m + 1 := ⟨k - 1, by omega⟩
  show bbig_trim k w = _
  unfold bbig_trim
  have := tl_len w
  rw [trim_loop k w hl w.length k (Nat.le_refl _) (by omega)]
  simp (config := { implicitDefEqProofs := false, maxSteps := 2000000 }) (disch := omega) only [ps, ↓reduceIte, reduceCtorEq, Int.reduceLT, Int.reduceLE, Int.reduceEq, Nat.reduceLT, Nat.reduceLeDiff, Nat.reduceEqDiff, Int.reduceNeg, eitherK, List.take_length, tl_take]

theorem cmp_loop (k : Nat) (a b : List Int) (hl : a.length = b.length) (hla : a.length ≤ 140737488355328) (ha : Dg W a) (hb : Dg W b) : ∀ (i n : Nat), i ≤ a.length → i < n → V W (a.drop i) = V W (b.drop i) →
    ∃ r, Lbig_cmp_0 k n a b ((i : Int) - 1) = some r ∧ (match r with | .inl c => c | .inr _ => 0) = (if V W a < V W b then -1 else if V W a = V W b then 0 else 1) := by
  intro i
  induction i with
  | zero =>
    intro n hi hn e
    obtain ⟨n, rfl⟩ : ∃ m, n = m + 1 := ⟨n - 1, by omega⟩
    refine ⟨.inr (), ?_, ?_⟩
    · show Lbig_cmp_0s k (Lbig_cmp_0 k n) a b _ = _
      unfold Lbig_cmp_0s
      simp (config := { implicitDefEqProofs := false, maxSteps := 2000000 }) (disch := omega) only [ps, ↓reduceIte, reduceCtorEq, Int.reduceLT, Int.reduceLE, Int.reduceEq, Nat.reduceLT, Nat.reduceLeDiff, Nat.reduceEqDiff, Int.reduceNeg, eitherK]
    · simp only [List.drop_zero] at e
      simp [e]
  | succ i ih =>
    intro n hi hn e
    obtain ⟨n, rfl⟩ : ∃ m, n = m + 1 := ⟨n - 1, by omega⟩
    obtain ⟨x, hx⟩ := get_of (show i < a.length by omega)
    obtain ⟨y, hy⟩ := get_of (show i < b.length by omega)
    have h1 : (((i + 1 : Nat) : Int) - 1) = (i : Int) := by omega
    have hxb := ha.get hx
    have hyb := hb.get hy
    have sa := V_split (B := W) a i (by omega)
    have sb := V_split (B := W) b i (by omega)
    have la : V W (a.take i) < W ^ i := by have := V_lt (B := W) (by decide) (ha.take i); rwa [List.length_take, Nat.min_eq_left (by omega)] at this
    have lb : V W (b.take i) < W ^ i := by have := V_lt (B := W) (by decide) (hb.take i); rwa [List.length_take, Nat.min_eq_left (by omega)] at this
    have na := V_nonneg (B := W) (by decide) (ha.take i)
    have nb := V_nonneg (B := W) (by decide) (hb.take i)
    rw [V_drop hx, e] at sa
    rw [V_drop hy] at sb
    by_cases h : x = y
    · subst h
      obtain ⟨r, h2, h3⟩ := ih n (by omega) (by omega) (by rw [V_drop hx, V_drop hy, e])
      refine ⟨r, ?_, h3⟩
      show Lbig_cmp_0s k (Lbig_cmp_0 k n) a b _ = _
      unfold Lbig_cmp_0s
      simp (config := { implicitDefEqProofs := false, maxSteps := 2000000 }) (disch := omega) only [ps, ↓reduceIte, reduceCtorEq, Int.reduceLT, Int.reduceLE, Int.reduceEq, Nat.reduceLT, Nat.reduceLeDiff, Nat.reduceEqDiff, Int.reduceNeg, eitherK, h1, hx, hy, h2]
    · have hP := Wpos i
      by_cases h2 : x < y
      · have hlt : V W a < V W b := by
          have : W ^ i * (x + 1) ≤ W ^ i * y := Int.mul_le_mul_of_nonneg_left (by omega) (by omega)
          rw [sa, sb]
          grind
        refine ⟨.inl (-1), ?_, by rw [if_pos hlt]⟩
        show Lbig_cmp_0s k (Lbig_cmp_0 k n) a b _ = _
        unfold Lbig_cmp_0s
        simp (config := { implicitDefEqProofs := false, maxSteps := 2000000 }) (disch := omega) only [ps, ↓reduceIte, reduceCtorEq, Int.reduceLT, Int.reduceLE, Int.reduceEq, Nat.reduceLT, Nat.reduceLeDiff, Nat.reduceEqDiff, Int.reduceNeg, eitherK, h1, hx, hy, h, h2]
      · have hlt : V W b < V W a := by
          have : W ^ i * (y + 1) ≤ W ^ i * x := Int.mul_le_mul_of_nonneg_left (by omega) (by omega)
          rw [sa, sb]
          grind
        refine ⟨.inl 1, ?_, by rw [if_neg (by omega), if_neg (by omega)]⟩
        show Lbig_cmp_0s k (Lbig_cmp_0 k n) a b _ = _
        unfold Lbig_cmp_0s
        simp (config := { implicitDefEqProofs := false, maxSteps := 2000000 }) (disch := omega) only [ps, ↓reduceIte, reduceCtorEq, Int.reduceLT, Int.reduceLE, Int.reduceEq, Nat.reduceLT, Nat.reduceLeDiff, Nat.reduceEqDiff, Int.reduceNeg, eitherK, h1, hx, hy, h, h2]
theorem cmp_ev (a b : List Int) (hla : a.length ≤ 140737488355328) (hlb : b.length ≤ 140737488355328) (ha : Cn W a) (hb : Cn W b) : Rn (fun k => Fbig_cmp k a b) (if V W a < V W b then -1 else if V W a = V W b then 0 else 1) := by
  refine Rn.eq (a.length + 2) fun k hk => ?_
  obtain ⟨k, rfl⟩ : ∃ m, k = m + 1 := ⟨k - 1, by omega⟩
  show bbig_cmp k a b = _
  unfold bbig_cmp
  by_cases h : a.length = b.length
  · obtain ⟨r, h1, h2⟩ := cmp_loop k a b h hla ha.1 hb.1 a.length k (Nat.le_refl _) (by omega) (by rw [List.drop_length, h, List.drop_length])
    simp (config := { implicitDefEqProofs := false, maxSteps := 2000000 }) (disch := omega) only [ps, ↓reduceIte, reduceCtorEq, Int.reduceLT, Int.reduceLE, Int.reduceEq, Nat.reduceLT, Nat.reduceLeDiff, Nat.reduceEqDiff, Int.reduceNeg, eitherK, h1]
    rw [← h2]
    cases r <;> simp [eitherK]
  · by_cases h2 : a.length < b.length
    · have := Cn.len_lt (by decide) ha hb h2
      simp (config := { implicitDefEqProofs := false, maxSteps := 2000000 }) (disch := omega) only [ps, ↓reduceIte, reduceCtorEq, Int.reduceLT, Int.reduceLE, Int.reduceEq, Nat.reduceLT, Nat.reduceLeDiff, Nat.reduceEqDiff, Int.reduceNeg, eitherK, h, h2]
    · have := Cn.len_lt (by decide) hb ha (by omega)
      simp (config := { implicitDefEqProofs := false, maxSteps := 2000000 }) (disch := omega) only [ps, ↓reduceIte, reduceCtorEq, Int.reduceLT, Int.reduceLE, Int.reduceEq, Nat.reduceLT, Nat.reduceLeDiff, Nat.reduceEqDiff, Int.reduceNeg, eitherK, h, h2]

theorem add_loop (k : Nat) (a b : List Int) (hba : b.length ≤ a.length) (hla : a.length ≤ 35184372088000) (ha : Dg W a) (hb : Dg W b) : ∀ (d i n : Nat) (carry : Int) (outs : List Int), i + d = a.length → d < n → 0 ≤ carry ∧ carry ≤ 1 → outs.length = a.length + 1 → Dg W outs →
    V W (outs.take i) + carry * W ^ i = V W (a.take i) + V W (b.take i) →
    ∃ carry' outs', Lbig_add_0 k n a b (a.length + 1) carry a.length i outs = some (a, a.length + 1, carry', outs') ∧ (0 ≤ carry' ∧ carry' ≤ 1) ∧ outs'.length = a.length + 1 ∧ Dg W outs' ∧ V W (outs'.take a.length) + carry' * W ^ a.length = V W a + V W b := by
  intro d
  induction d with
  | zero =>
    intro i n carry outs hi hn hc hl hd e
    obtain ⟨n, rfl⟩ : ∃ m, n = m + 1 := ⟨n - 1, by omega⟩
    have hia : i = a.length := by omega
    subst hia
    refine ⟨carry, outs, ?_, hc, hl, hd, ?_⟩
    · show Lbig_add_0s k (Lbig_add_0 k n) a b _ _ _ _ _ = _
      unfold Lbig_add_0s
      simp (config := { implicitDefEqProofs := false, maxSteps := 2000000 }) (disch := omega) only [ps, ↓reduceIte, reduceCtorEq, Int.reduceLT, Int.reduceLE, Int.reduceEq, Nat.reduceLT, Nat.reduceLeDiff, Nat.reduceEqDiff, Int.reduceNeg, eitherK]
    · rw [e, List.take_length, List.take_of_length_le hba]
  | succ d ih =>
    intro i n carry outs hi hn hc hl hd e
    obtain ⟨n, rfl⟩ : ∃ m, n = m + 1 := ⟨n - 1, by omega⟩
    obtain ⟨x, hx⟩ := get_of (show i < a.length by omega)
    obtain ⟨o, ho⟩ := get_of (show i < outs.length by omega)
    have hxb := ha.get hx
    have h1 : ((i : Int) + 1) = ((i + 1 : Nat) : Int) := rfl
    have ta := V_take_succ (B := W) hx
    have key : ∀ (y : Int), (0 ≤ y ∧ y < W) → V W (b.take (i + 1)) = V W (b.take i) + W ^ i * y → ∃ carry' outs', Lbig_add_0 k n a b (a.length + 1) ((x + carry + y) / W) a.length ((i + 1 : Nat) : Int) (outs.set i ((x + carry + y) % W)) = some (a, a.length + 1, carry', outs') ∧ (0 ≤ carry' ∧ carry' ≤ 1) ∧ outs'.length = a.length + 1 ∧ Dg W outs' ∧ V W (outs'.take a.length) + carry' * W ^ a.length = V W a + V W b := by
      intro y hy tb
      have hdm := Int.emod_add_mul_ediv (x + carry + y) W
      refine ih (i + 1) n _ _ (by omega) (by omega) ?_ (by simpa using hl) (hd.set i ?_) ?_
      · unfold W at *; omega
      · unfold W at *; omega
      · rw [set_take_succ _ _ _ (by omega), V_snoc, List.length_take, Nat.min_eq_left (by omega), ta, tb, Int.pow_succ]
        grind
    show ∃ carry' outs', Lbig_add_0s k (Lbig_add_0 k n) a b _ _ _ _ _ = _ ∧ _
    unfold Lbig_add_0s
    by_cases hb2 : i < b.length
    · obtain ⟨y, hy⟩ := get_of hb2
      have hyb := hb.get hy
      obtain ⟨c', o', q1, q2⟩ := key y hyb (V_take_succ hy)
      refine ⟨c', o', ?_, q2⟩
      rw [← q1]
      unfold W at hxb hyb
      simp (config := { implicitDefEqProofs := false, maxSteps := 2000000 }) (disch := omega) only [ps, ↓reduceIte, reduceCtorEq, Int.reduceLT, Int.reduceLE, Int.reduceEq, Nat.reduceLT, Nat.reduceLeDiff, Nat.reduceEqDiff, Int.reduceNeg, eitherK, hx, hy, ho, h1, fdiv_pos, wrap_u32]
    · obtain ⟨c', o', q1, q2⟩ := key 0 (by decide) (by rw [List.take_of_length_le (by omega), List.take_of_length_le (by omega)]; simp)
      refine ⟨c', o', ?_, q2⟩
      rw [← q1]
      unfold W at hxb
      simp (config := { implicitDefEqProofs := false, maxSteps := 2000000 }) (disch := omega) only [ps, ↓reduceIte, reduceCtorEq, Int.reduceLT, Int.reduceLE, Int.reduceEq, Nat.reduceLT, Nat.reduceLeDiff, Nat.reduceEqDiff, Int.reduceNeg, eitherK, hx, ho, h1, fdiv_pos, wrap_u32, Int.add_zero]
end Go.Proofs.YtlnailgfialgnaaGreatDoor.Am

/- Plain reckoning: the program's own whole numbers: signed sums, differences, comparing; what a layer's caller gives and takes. -/
set_option linter.unusedVariables false
set_option linter.unusedSimpArgs false
set_option maxRecDepth 10000
namespace Go.Proofs.YtlnailgfialgnaaGreatDoor.Am
open Go

theorem add_ev (a b : List Int) (hla : a.length ≤ 1000000000) (hlb : b.length ≤ 1000000000) (ha : Dg W a) (hb : Dg W b) :
    ∃ l, Rn (fun k => Fbig_add k a b) l ∧ Dg W l ∧ V W l = V W a + V W b ∧ l.length = max a.length b.length + 1 := by
  have main : ∀ a b : List Int, a.length ≤ 1000000000 → b.length ≤ a.length → Dg W a → Dg W b → ∃ l, Dg W l ∧ V W l = V W a + V W b ∧ l.length = a.length + 1 ∧ ∀ k, a.length < k →
      ∃ r5 : List Int × Nat × Int × List Int, Lbig_add_0 k k a b (a.length + 1) 0 a.length (0 : Int) (List.replicate (a.length + 1) 0) = some r5 ∧ r5.1 = a ∧ r5.2.1 = a.length + 1 ∧ r5.2.2.2.length = a.length + 1 ∧ (0 ≤ r5.2.2.1 ∧ r5.2.2.1 ≤ 1) ∧ l = r5.2.2.2.set a.length r5.2.2.1 := by
    intro a b hla hba ha hb
    obtain ⟨c0, o0, h1, h2, h3, h4, h5⟩ := add_loop (a.length + 1) a b hba (by omega) ha hb a.length 0 (a.length + 1) 0 (List.replicate (a.length + 1) 0) (by omega) (by omega) (by decide) (by simp) (Dg.rep _ (by decide)) (by simp [V])
    refine ⟨o0.set a.length c0, h4.set _ (by unfold W; omega), ?_, by simpa using h3, ?_⟩
    · have : o0.set a.length c0 = o0.take a.length ++ [c0] := by
        rw [← set_take_succ o0 a.length c0 (by omega), List.take_of_length_le (by simp; omega)]
      rw [this, V_snoc, List.length_take, Nat.min_eq_left (by omega), ← h5, Int.mul_comm]
    · intro k hk
      obtain ⟨c, o, q1, q2, q3, q4, q5⟩ := add_loop k a b hba (by omega) ha hb a.length 0 k 0 (List.replicate (a.length + 1) 0) (by omega) (by omega) (by decide) (by simp) (Dg.rep _ (by decide)) (by simp [V])
      refine ⟨_, q1, rfl, rfl, q3, q2, ?_⟩
      have e0 : o0.set a.length c0 = o0.take a.length ++ [c0] := by
        rw [← set_take_succ o0 a.length c0 (by omega), List.take_of_length_le (by simp; omega)]
      have e1 : o.set a.length c = o.take a.length ++ [c] := by
        rw [← set_take_succ o a.length c (by omega), List.take_of_length_le (by simp; omega)]
      -- the same digits: the same worth, the same length
      have same : ∀ l m : List Int, Dg W l → Dg W m → l.length = m.length → V W l = V W m → l = m := by
        intro l
        induction l with
        | nil => intro m _ _ hl _; cases m with
          | nil => rfl
          | cons y m => simp at hl
        | cons x l ih =>
          intro m d1 d2 hl e
          cases m with
          | nil => simp at hl
          | cons y m =>
            have hx := d1.head
            have hy := d2.head
            simp only [V] at e
            have a1 : (x + W * V W l) % W = x := by rw [Int.add_mul_emod_self_left]; exact Int.emod_eq_of_lt hx.1 hx.2
            have a2 : (y + W * V W m) % W = y := by rw [Int.add_mul_emod_self_left]; exact Int.emod_eq_of_lt hy.1 hy.2
            have e1 : x = y := by rw [← a1, ← a2, e]
            subst e1
            have e2 : W * V W l = W * V W m := by omega
            have e3 : V W l = V W m := Int.eq_of_mul_eq_mul_left (by decide) e2
            rw [ih m d1.tail d2.tail (by simpa using hl) e3]
      refine same _ _ (h4.set _ (by unfold W; omega)) (q4.set _ (show 0 ≤ c ∧ c < W by unfold W; omega)) (by simp [h3, q3]) ?_
      rw [e0, e1, V_snoc, V_snoc, List.length_take, List.length_take, Nat.min_eq_left (by omega), Nat.min_eq_left (by omega), Int.mul_comm, h5, ← q5, Int.mul_comm]
  by_cases h : a.length < b.length
  · obtain ⟨l, h1, h2, h3, h4⟩ := main b a hlb (by omega) hb ha
    refine ⟨l, Rn.eq (b.length + 2) fun k hk => ?_, h1, by rw [h2]; omega, by rw [h3]; omega⟩
    obtain ⟨k, rfl⟩ : ∃ m, k = m + 1 := ⟨k - 1, by omega⟩
    show bbig_add k a b = _
    unfold bbig_add
    obtain ⟨r5, q1, q2, q3, q4, q5, q6⟩ := h4 k (by omega)
    have e1 : ((b.length : Int) + 1) = ((b.length + 1 : Nat) : Int) := rfl
    obtain ⟨o, ho⟩ := get_of (show b.length < r5.2.2.2.length by omega)
    simp (config := { implicitDefEqProofs := false, maxSteps := 2000000 }) (disch := omega) only [ps, ↓reduceIte, reduceCtorEq, Int.reduceLT, Int.reduceLE, Int.reduceEq, Nat.reduceLT, Nat.reduceLeDiff, Nat.reduceEqDiff, Int.reduceNeg, eitherK, h, e1, q1, q2, q3, ho, List.length_set, q4]
    rw [q6, List.take_of_length_le (by simp; omega)]
  · obtain ⟨l, h1, h2, h3, h4⟩ := main a b hla (by omega) ha hb
    refine ⟨l, Rn.eq (a.length + 2) fun k hk => ?_, h1, h2, by rw [h3]; omega⟩
    obtain ⟨k, rfl⟩ : ∃ m, k = m + 1 := ⟨k - 1, by omega⟩
    show bbig_add k a b = _
    unfold bbig_add
    obtain ⟨r5, q1, q2, q3, q4, q5, q6⟩ := h4 k (by omega)
    have e1 : ((a.length : Int) + 1) = ((a.length + 1 : Nat) : Int) := rfl
    obtain ⟨o, ho⟩ := get_of (show a.length < r5.2.2.2.length by omega)
    simp (config := { implicitDefEqProofs := false, maxSteps := 2000000 }) (disch := omega) only [ps, ↓reduceIte, reduceCtorEq, Int.reduceLT, Int.reduceLE, Int.reduceEq, Nat.reduceLT, Nat.reduceLeDiff, Nat.reduceEqDiff, Int.reduceNeg, eitherK, h, e1, q1, q2, q3, ho, List.length_set, q4]
    rw [q6, List.take_of_length_le (by simp; omega)]

/-- Digits of one length are told by their worth. -/
theorem Dg.ext : ∀ {l m : List Int}, Dg W l → Dg W m → l.length = m.length → V W l = V W m → l = m := by
  intro l
  induction l with
  | nil => intro m _ _ hl _; cases m with
    | nil => rfl
    | cons y m => simp at hl
  | cons x l ih =>
    intro m d1 d2 hl e
    cases m with
    | nil => simp at hl
    | cons y m =>
      have hx := d1.head
      have hy := d2.head
      simp only [V] at e
      have a1 : (x + W * V W l) % W = x := by rw [Int.add_mul_emod_self_left]; exact Int.emod_eq_of_lt hx.1 hx.2
      have a2 : (y + W * V W m) % W = y := by rw [Int.add_mul_emod_self_left]; exact Int.emod_eq_of_lt hy.1 hy.2
      have e1 : x = y := by rw [← a1, ← a2, e]
      subst e1
      have e2 : W * V W l = W * V W m := by omega
      have e3 : V W l = V W m := Int.eq_of_mul_eq_mul_left (by decide) e2
      rw [ih d1.tail d2.tail (by simpa using hl) e3]

theorem sub_loop (k : Nat) (a b : List Int) (hba : b.length ≤ a.length) (hla : a.length ≤ 1000000000) (ha : Dg W a) (hb : Dg W b) : ∀ (d i n : Nat) (borrow : Int) (outs : List Int), i + d = a.length → d < n → 0 ≤ borrow ∧ borrow ≤ 1 → outs.length = a.length → Dg W outs →
    V W (outs.take i) = V W (a.take i) - V W (b.take i) + borrow * W ^ i →
    ∃ borrow' outs', Lbig_sub_0 k n a b a.length borrow a.length i outs = some (a.length, outs') ∧ (0 ≤ borrow' ∧ borrow' ≤ 1) ∧ outs'.length = a.length ∧ Dg W outs' ∧ V W outs' = V W a - V W b + borrow' * W ^ a.length := by
  intro d
  induction d with
  | zero =>
    intro i n borrow outs hi hn hc hl hd e
    obtain ⟨n, rfl⟩ : ∃ m, n = m + 1 := ⟨n - 1, by omega⟩
    have hia : i = a.length := by omega
    subst hia
    refine ⟨borrow, outs, ?_, hc, hl, hd, ?_⟩
    · show Lbig_sub_0s k (Lbig_sub_0 k n) a b _ _ _ _ _ = _
      unfold Lbig_sub_0s
      simp (config := { implicitDefEqProofs := false, maxSteps := 2000000 }) (disch := omega) only [ps, ↓reduceIte, reduceCtorEq, Int.reduceLT, Int.reduceLE, Int.reduceEq, Nat.reduceLT, Nat.reduceLeDiff, Nat.reduceEqDiff, Int.reduceNeg, eitherK]
    · rw [List.take_of_length_le (by omega), List.take_length, List.take_of_length_le hba] at e
      exact e
  | succ d ih =>
    intro i n borrow outs hi hn hc hl hd e
    obtain ⟨n, rfl⟩ : ∃ m, n = m + 1 := ⟨n - 1, by omega⟩
    obtain ⟨x, hx⟩ := get_of (show i < a.length by omega)
    obtain ⟨o, ho⟩ := get_of (show i < outs.length by omega)
    have hxb := ha.get hx
    have h1 : ((i : Int) + 1) = ((i + 1 : Nat) : Int) := rfl
    have ta := V_take_succ (B := W) hx
    have key : ∀ (y z b' : Int), V W (b.take (i + 1)) = V W (b.take i) + W ^ i * y → 0 ≤ z ∧ z < W → z = x - y - borrow + b' * W → 0 ≤ b' ∧ b' ≤ 1 → ∃ borrow' outs', Lbig_sub_0 k n a b a.length b' a.length ((i + 1 : Nat) : Int) (outs.set i z) = some (a.length, outs') ∧ (0 ≤ borrow' ∧ borrow' ≤ 1) ∧ outs'.length = a.length ∧ Dg W outs' ∧ V W outs' = V W a - V W b + borrow' * W ^ a.length := by
      intro y z b' tb hz hzz hb'
      refine ih (i + 1) n _ _ (by omega) (by omega) hb' (by simpa using hl) (hd.set i hz) ?_
      rw [set_take_succ _ _ _ (by omega), V_snoc, List.length_take, Nat.min_eq_left (by omega), ta, tb, Int.pow_succ]
      grind
    show ∃ borrow' outs', Lbig_sub_0s k (Lbig_sub_0 k n) a b _ _ _ _ _ = _ ∧ _
    unfold Lbig_sub_0s
    have fin : ∀ y : Int, 0 ≤ y ∧ y < W → V W (b.take (i + 1)) = V W (b.take i) + W ^ i * y → ∃ borrow' outs', (if x < borrow + y then Lbig_sub_0 k n a b a.length 1 a.length ((i + 1 : Nat) : Int) (outs.set i ((x - (borrow + y)) % 18446744073709551616 % 4294967296)) else Lbig_sub_0 k n a b a.length 0 a.length ((i + 1 : Nat) : Int) (outs.set i ((x - (borrow + y)) % 18446744073709551616 % 4294967296))) = some (a.length, outs') ∧ (0 ≤ borrow' ∧ borrow' ≤ 1) ∧ outs'.length = a.length ∧ Dg W outs' ∧ V W outs' = V W a - V W b + borrow' * W ^ a.length := by
      intro y hy tb
      unfold W at hy hxb
      by_cases h : x < borrow + y
      · rw [if_pos h]
        exact key y _ 1 tb (by unfold W; omega) (by unfold W; omega) (by decide)
      · rw [if_neg h]
        exact key y _ 0 tb (by unfold W; omega) (by unfold W; omega) (by decide)
    by_cases hb2 : i < b.length
    · obtain ⟨y, hy⟩ := get_of hb2
      have hyb := hb.get hy
      obtain ⟨c', o', q1, q2⟩ := fin y hyb (V_take_succ hy)
      refine ⟨c', o', ?_, q2⟩
      rw [← q1]
      unfold W at hxb hyb
      simp (config := { implicitDefEqProofs := false, maxSteps := 2000000 }) (disch := omega) only [ps, ↓reduceIte, reduceCtorEq, Int.reduceLT, Int.reduceLE, Int.reduceEq, Nat.reduceLT, Nat.reduceLeDiff, Nat.reduceEqDiff, Int.reduceNeg, eitherK, hx, hy, ho, h1, wrap_u32, wrap_u64 (x - (borrow + y))]
    · obtain ⟨c', o', q1, q2⟩ := fin 0 (by decide) (by rw [List.take_of_length_le (by omega), List.take_of_length_le (by omega)]; simp)
      refine ⟨c', o', ?_, q2⟩
      rw [← q1]
      unfold W at hxb
      simp (config := { implicitDefEqProofs := false, maxSteps := 2000000 }) (disch := omega) only [ps, ↓reduceIte, reduceCtorEq, Int.reduceLT, Int.reduceLE, Int.reduceEq, Nat.reduceLT, Nat.reduceLeDiff, Nat.reduceEqDiff, Int.reduceNeg, eitherK, hx, ho, h1, wrap_u32, wrap_u64 (x - borrow), Int.add_zero]
theorem sub_ev (a b : List Int) (hla : a.length ≤ 1000000000) (ha : Dg W a) (hb : Cn W b) (h : V W b ≤ V W a) :
    ∃ l, Rn (fun k => Fbig_sub k a b) l ∧ Dg W l ∧ V W l = V W a - V W b ∧ l.length = a.length := by
  have hba : b.length ≤ a.length := by
    refine (hb.len_le (by decide) _).2 ?_
    have := V_lt (B := W) (by decide) ha
    omega
  have hB := V_nonneg (B := W) (by decide) hb.1
  have main : ∀ k, a.length < k → ∃ o, Lbig_sub_0 k k a b a.length 0 a.length (0 : Int) (List.replicate a.length 0) = some (a.length, o) ∧ o.length = a.length ∧ Dg W o ∧ V W o = V W a - V W b := by
    intro k hk
    obtain ⟨c, o, q1, q2, q3, q4, q5⟩ := sub_loop k a b hba hla ha hb.1 a.length 0 k 0 (List.replicate a.length 0) (by omega) (by omega) (by decide) (by simp) (Dg.rep _ (by decide)) (by simp [V])
    refine ⟨o, q1, q3, q4, ?_⟩
    have p1 := V_lt (B := W) (by decide) q4
    rw [q3] at p1
    have p2 : c = 0 := by
      rcases (by omega : c = 0 ∨ c = 1) with h | h
      · exact h
      · subst h; omega
    rw [q5, p2]; simp
  obtain ⟨o, q1, q2, q3, q4⟩ := main (a.length + 1) (by omega)
  refine ⟨o, Rn.eq (a.length + 2) fun k hk => ?_, q3, q4, q2⟩
  obtain ⟨k, rfl⟩ : ∃ m, k = m + 1 := ⟨k - 1, by omega⟩
  show bbig_sub k a b = _
  unfold bbig_sub
  obtain ⟨o', r1, r2, r3, r4⟩ := main k (by omega)
  simp (config := { implicitDefEqProofs := false, maxSteps := 2000000 }) (disch := omega) only [ps, ↓reduceIte, reduceCtorEq, Int.reduceLT, Int.reduceLE, Int.reduceEq, Nat.reduceLT, Nat.reduceLeDiff, Nat.reduceEqDiff, Int.reduceNeg, eitherK, r1, r2]
  rw [List.take_of_length_le (by omega), Dg.ext q3 r3 (by omega) (by omega)]

/-- What set says of a sign and words. -/
def sgn (neg : Bool) (w : List Int) : Bool := if neg then decide (0 < (tl w).length) else false
theorem sgn_nm {neg : Bool} {w : List Int} {v : Int} (h : Dg W w) (e : V W w = v) : Nm W (sgn neg w) (tl w) (if neg then -v else v) := by
  refine ⟨Cn.of h, fun hs h0 => ?_, ?_⟩
  · unfold sgn at hs; split at hs
    · rw [h0] at hs; simp at hs
    · cases hs
  · rw [V_tl, e]
    unfold sgn
    cases neg
    · simp
    · by_cases h0 : tl w = []
      · have := V_tl (B := W) w
        rw [h0, e] at this
        simp [h0, ← this, V]
      · have : 0 < (tl w).length := by cases hq : tl w with
          | nil => exact absurd hq h0
          | cons _ _ => simp
        simp [this]
theorem set1_ev (neg z : Bool) (w : List Int) (hl : w.length ≤ 1000000001) : Rn (fun k => Fbig_Int_set_cvg k neg w z) (sgn neg w, tl w) := by
  refine Rn.up (f := fun k => Fbig_Int_set_cvg k neg w z) ?_
  show Rn (fun k => bbig_Int_set_cvg k neg w z) _
  unfold bbig_Int_set_cvg
  refine Rn.bind (trim_ev w (by omega)) ?_
  unfold sgn
  cases neg
  · simp (config := { implicitDefEqProofs := false, maxSteps := 2000000 }) (disch := omega) only [ps, ↓reduceIte, reduceCtorEq, Int.reduceLT, Int.reduceLE, Int.reduceEq, Nat.reduceLT, Nat.reduceLeDiff, Nat.reduceEqDiff, Int.reduceNeg, eitherK]; exact Rn.pure _
  · simp (config := { implicitDefEqProofs := false, maxSteps := 2000000 }) (disch := omega) only [ps, ↓reduceIte, reduceCtorEq, Int.reduceLT, Int.reduceLE, Int.reduceEq, Nat.reduceLT, Nat.reduceLeDiff, Nat.reduceEqDiff, Int.reduceNeg, eitherK]
    have : (decide ((0 : Int) < ((tl w).length : Int))) = decide (0 < (tl w).length) := by congr 1; simp
    rw [this]; exact Rn.pure _
theorem set2_ev (neg z : Bool) (w zs : List Int) (hl : w.length ≤ 1000000001) : Rn (fun k => Fbig_Int_set_paj k neg w z zs) (sgn neg w, tl w) := by
  refine Rn.up (f := fun k => Fbig_Int_set_paj k neg w z zs) ?_
  show Rn (fun k => bbig_Int_set_paj k neg w z zs) _
  unfold bbig_Int_set_paj
  refine Rn.bind (trim_ev w (by omega)) ?_
  unfold sgn
  cases neg
  · simp (config := { implicitDefEqProofs := false, maxSteps := 2000000 }) (disch := omega) only [ps, ↓reduceIte, reduceCtorEq, Int.reduceLT, Int.reduceLE, Int.reduceEq, Nat.reduceLT, Nat.reduceLeDiff, Nat.reduceEqDiff, Int.reduceNeg, eitherK]; exact Rn.pure _
  · simp (config := { implicitDefEqProofs := false, maxSteps := 2000000 }) (disch := omega) only [ps, ↓reduceIte, reduceCtorEq, Int.reduceLT, Int.reduceLE, Int.reduceEq, Nat.reduceLT, Nat.reduceLeDiff, Nat.reduceEqDiff, Int.reduceNeg, eitherK]
    have : (decide ((0 : Int) < ((tl w).length : Int))) = decide (0 < (tl w).length) := by congr 1; simp
    rw [this]; exact Rn.pure _

/-- The magnitudes' sum or difference, and its sign. -/
theorem sum_any {R : Type} (x0 yneg : Bool) (x1 y : List Int) (hx : x1.length ≤ 1000000000) (hy : y.length ≤ 1000000000) (cx : Cn W x1) (cy : Cn W y) (S : Nat → Bool → List Int → Option (Bool × List Int)) (hS : ∀ neg w, w.length ≤ 1000000001 → Rn (fun k => S k neg w) (sgn neg w, tl w)) (fin : Bool × List Int → R) :
    ∃ s l, Rn (fun k => if ((x0 == yneg) = true) then
      Option.bind (Fbig_add k x1 y) fun r5 =>
      Option.bind (S k x0 r5) fun r6 =>
      some (fin r6)
    else
    Option.bind (Fbig_cmp k x1 y) fun r5 =>
    if ((decide (r5 ≥ (0 : Int))) = true) then
      Option.bind (Fbig_sub k x1 y) fun r6 =>
      Option.bind (S k x0 r6) fun r7 =>
      some (fin r7)
    else
    Option.bind (Fbig_sub k y x1) fun r6 =>
    Option.bind (S k yneg r6) fun r7 =>
    some (fin r7)) (fin (s, l)) ∧ Nm W s l ((if x0 then -(V W x1) else V W x1) + (if yneg then -(V W y) else V W y)) ∧ l.length ≤ max x1.length y.length + 1 := by
  by_cases h : x0 = yneg
  · subst h
    obtain ⟨l, h1, h2, h3, h4⟩ := add_ev x1 y hx hy cx.1 cy.1
    refine ⟨sgn x0 l, tl l, ?_, ?_, by have := tl_len l; omega⟩
    · simp (config := { implicitDefEqProofs := false, maxSteps := 2000000 }) (disch := omega) only [ps, ↓reduceIte, reduceCtorEq, Int.reduceLT, Int.reduceLE, Int.reduceEq, Nat.reduceLT, Nat.reduceLeDiff, Nat.reduceEqDiff, Int.reduceNeg, eitherK]
      exact Rn.bind h1 (Rn.bind (hS x0 l (by omega)) (Rn.pure _))
    · have := sgn_nm (neg := x0) h2 h3
      cases x0
      · simpa using this
      · simp only [if_true] at this ⊢
        rw [show -V W x1 + -V W y = -(V W x1 + V W y) by omega]
        exact this
  · have h' : (x0 == yneg) = false := by simpa using h
    have hc := cmp_ev x1 y (by omega) (by omega) cx cy
    by_cases h2 : V W x1 < V W y
    · rw [if_pos h2] at hc
      obtain ⟨l, q1, q2, q3, q4⟩ := sub_ev y x1 hy cy.1 cx (by omega)
      refine ⟨sgn yneg l, tl l, ?_, ?_, by have := tl_len l; omega⟩
      · simp (config := { implicitDefEqProofs := false, maxSteps := 2000000 }) (disch := omega) only [ps, ↓reduceIte, reduceCtorEq, Int.reduceLT, Int.reduceLE, Int.reduceEq, Nat.reduceLT, Nat.reduceLeDiff, Nat.reduceEqDiff, Int.reduceNeg, eitherK, h']
        refine Rn.bind hc ?_
        simp (config := { implicitDefEqProofs := false, maxSteps := 2000000 }) (disch := omega) only [ps, ↓reduceIte, reduceCtorEq, Int.reduceLT, Int.reduceLE, Int.reduceEq, Nat.reduceLT, Nat.reduceLeDiff, Nat.reduceEqDiff, Int.reduceNeg, eitherK]
        exact Rn.bind q1 (Rn.bind (hS _ l (by omega)) (Rn.pure _))
      · refine (sgn_nm (neg := yneg) q2 q3).cast ?_
        cases x0 <;> cases yneg <;> simp at h ⊢ <;> omega
    · obtain ⟨cc, hcc, hc0⟩ : ∃ cc : Int, (if V W x1 < V W y then -1 else if V W x1 = V W y then 0 else 1) = cc ∧ 0 ≤ cc := by
        rw [if_neg h2]; split
        · exact ⟨0, rfl, by decide⟩
        · exact ⟨1, rfl, by decide⟩
      rw [hcc] at hc
      obtain ⟨l, q1, q2, q3, q4⟩ := sub_ev x1 y hx cx.1 cy (by omega)
      refine ⟨sgn x0 l, tl l, ?_, ?_, by have := tl_len l; omega⟩
      · simp (config := { implicitDefEqProofs := false, maxSteps := 2000000 }) (disch := omega) only [ps, ↓reduceIte, reduceCtorEq, Int.reduceLT, Int.reduceLE, Int.reduceEq, Nat.reduceLT, Nat.reduceLeDiff, Nat.reduceEqDiff, Int.reduceNeg, eitherK, h']
        refine Rn.bind hc ?_
        simp (config := { implicitDefEqProofs := false, maxSteps := 2000000 }) (disch := omega) only [ps, ↓reduceIte, reduceCtorEq, Int.reduceLT, Int.reduceLE, Int.reduceEq, Nat.reduceLT, Nat.reduceLeDiff, Nat.reduceEqDiff, Int.reduceNeg, eitherK]
        exact Rn.bind q1 (Rn.bind (hS _ l (by omega)) (Rn.pure _))
      · refine (sgn_nm (neg := x0) q2 q3).cast ?_
        cases x0 <;> cases yneg <;> simp at h ⊢ <;> omega
end Go.Proofs.YtlnailgfialgnaaGreatDoor.Am

/- Plain reckoning: Add, Sub, Cmp of the program's own whole numbers and of the layer; what is right, what is told. -/
set_option linter.unusedVariables false
set_option linter.unusedSimpArgs false
set_option maxRecDepth 10000
namespace Go.Proofs.YtlnailgfialgnaaGreatDoor.Am
open Go

theorem sum2_ev (yneg x0 : Bool) (x1 y : List Int) (hx : x1.length ≤ 1000000000) (hy : y.length ≤ 1000000000) (cx : Cn W x1) (cy : Cn W y) :
    ∃ s l, Rn (fun k => Fbig_Int_sum_ahd k yneg y x0 x1) (s, l) ∧ Nm W s l ((if x0 then -(V W x1) else V W x1) + (if yneg then -(V W y) else V W y)) ∧ l.length ≤ max x1.length y.length + 1 := by
  obtain ⟨s, l, h1, h2⟩ := sum_any x0 yneg x1 y hx hy cx cy (fun k neg w => Fbig_Int_set_paj k neg w x0 x1) (fun neg w hw => set2_ev neg x0 w x1 hw) (fun r => (r.1, r.2))
  exact ⟨s, l, Rn.up (f := fun k => Fbig_Int_sum_ahd k yneg y x0 x1) h1, h2⟩
theorem Add2_ev (x0 y0 : Bool) (x1 y1 : List Int) {x y : Int} (nx : Nm W x0 x1 x) (ny : Nm W y0 y1 y) (hx : x1.length ≤ 1000000000) (hy : y1.length ≤ 1000000000) :
    ∃ s l, Rn (fun k => Fbig_Int_Add_jod k x0 x1 y0 y1) (s, l, y0, y1) ∧ Nm W s l (x + y) ∧ l.length ≤ max x1.length y1.length + 1 := by
  obtain ⟨s, l, h1, h2, h3⟩ := sum2_ev y0 x0 x1 y1 hx hy nx.c ny.c
  rw [nx.z, ny.z] at h2
  exact ⟨s, l, Rn.up (f := fun k => Fbig_Int_Add_jod k x0 x1 y0 y1) (Rn.bind h1 (Rn.pure _)), h2, h3⟩
/-- -1, 0 or 1. -/
def cmpZ (x y : Int) : Int := if x < y then -1 else if x = y then 0 else 1
theorem Cmp_ev (x0 y0 : Bool) (x1 y1 : List Int) {x y : Int} (nx : Nm W x0 x1 x) (ny : Nm W y0 y1 y) (hx : x1.length ≤ 1000000000) (hy : y1.length ≤ 1000000000) :
    Rn (fun k => Fbig_Int_Cmp_ddu k x0 x1 y0 y1) (cmpZ x y, x0, x1, y0, y1) := by
  refine Rn.up (f := fun k => Fbig_Int_Cmp_ddu k x0 x1 y0 y1) ?_
  show Rn (fun k => bbig_Int_Cmp_ddu k x0 x1 y0 y1) _
  unfold bbig_Int_Cmp_ddu
  have px := V_nonneg (B := W) (by decide) nx.c.1
  have py := V_nonneg (B := W) (by decide) ny.c.1
  have qx := nx.c.nil_iff (B := W) (by decide)
  have qy := ny.c.nil_iff (B := W) (by decide)
  have zx := nx.z
  have zy := ny.z
  have sx := nx.sg
  have sy := ny.sg
  have hc := cmp_ev x1 y1 (by omega) (by omega) nx.c ny.c
  unfold cmpZ
  cases x0 <;> cases y0 <;> simp only [Bool.false_eq_true, if_false, if_true] at zx zy
  · simp (config := { implicitDefEqProofs := false, maxSteps := 2000000 }) (disch := omega) only [ps, ↓reduceIte, reduceCtorEq, Int.reduceLT, Int.reduceLE, Int.reduceEq, Nat.reduceLT, Nat.reduceLeDiff, Nat.reduceEqDiff, Int.reduceNeg, eitherK]
    refine Rn.bind hc ?_
    rw [zx, zy]; exact Rn.pure _
  · have := mt qy.2 (sy rfl)
    simp (config := { implicitDefEqProofs := false, maxSteps := 2000000 }) (disch := omega) only [ps, ↓reduceIte, reduceCtorEq, Int.reduceLT, Int.reduceLE, Int.reduceEq, Nat.reduceLT, Nat.reduceLeDiff, Nat.reduceEqDiff, Int.reduceNeg, eitherK]
    exact Rn.pure _
  · have := mt qx.2 (sx rfl)
    simp (config := { implicitDefEqProofs := false, maxSteps := 2000000 }) (disch := omega) only [ps, ↓reduceIte, reduceCtorEq, Int.reduceLT, Int.reduceLE, Int.reduceEq, Nat.reduceLT, Nat.reduceLeDiff, Nat.reduceEqDiff, Int.reduceNeg, eitherK]
    exact Rn.pure _
  · simp (config := { implicitDefEqProofs := false, maxSteps := 2000000 }) (disch := omega) only [ps, ↓reduceIte, reduceCtorEq, Int.reduceLT, Int.reduceLE, Int.reduceEq, Nat.reduceLT, Nat.reduceLeDiff, Nat.reduceEqDiff, Int.reduceNeg, eitherK]
    refine Rn.bind hc ?_
    have : IntKind.i64.wrap (0 - (if V W x1 < V W y1 then -1 else if V W x1 = V W y1 then 0 else 1)) = (if x < y then -1 else if x = y then 0 else 1) := by
      by_cases a : V W x1 < V W y1
      · simp (config := { implicitDefEqProofs := false, maxSteps := 2000000 }) (disch := omega) only [ps, ↓reduceIte, reduceCtorEq, Int.reduceLT, Int.reduceLE, Int.reduceEq, Nat.reduceLT, Nat.reduceLeDiff, Nat.reduceEqDiff, Int.reduceNeg, eitherK]
      · by_cases b : V W x1 = V W y1
        · simp (config := { implicitDefEqProofs := false, maxSteps := 2000000 }) (disch := omega) only [ps, ↓reduceIte, reduceCtorEq, Int.reduceLT, Int.reduceLE, Int.reduceEq, Nat.reduceLT, Nat.reduceLeDiff, Nat.reduceEqDiff, Int.reduceNeg, eitherK]
        · simp (config := { implicitDefEqProofs := false, maxSteps := 2000000 }) (disch := omega) only [ps, ↓reduceIte, reduceCtorEq, Int.reduceLT, Int.reduceLE, Int.reduceEq, Nat.reduceLT, Nat.reduceLeDiff, Nat.reduceEqDiff, Int.reduceNeg, eitherK]
    rw [this]; exact Rn.pure _

/-- A right whole number. -/
def Ri (a0 : Bool) (a1 : List Int) : Prop := a1.length ≤ 72 ∧ tl a1 = a1 ∧ (a0 = true → a1 ≠ [])
instance (a0 : Bool) (a1 : List Int) : Decidable (Ri a0 a1) := by unfold Ri; infer_instance
/-- What the words say, signed. -/
def Zv (B : Int) (a0 : Bool) (a1 : List Int) : Int := if a0 then -(V B a1) else V B a1
theorem Ri.nm {a0 : Bool} {a1 : List Int} (h : Ri a0 a1) (hd : Dg W a1) : Nm W a0 a1 (Zv W a0 a1) := ⟨⟨hd, h.2.1⟩, h.2.2, rfl⟩
theorem Nm.ri {a0 : Bool} {a1 : List Int} {z : Int} (h : Nm W a0 a1 z) (hl : a1.length ≤ 72) : Ri a0 a1 := ⟨hl, h.c.2, h.sg⟩
theorem check_ev (a0 : Bool) (a1 : List Int) (hl : a1.length ≤ 9223372036854775807) (hd : Dg W a1) : Rn (fun k => Flimb_Check k a0 a1) (if Ri a0 a1 then 0 else 10) := by
  refine Rn.up (f := fun k => Flimb_Check k a0 a1) ?_
  show Rn (fun k => blimb_Check k a0 a1) _
  unfold blimb_Check
  have hlast := Cn.last hd
  rcases List.eq_nil_or_concat a1 with rfl | ⟨m, x, rfl⟩
  · cases a0
    · rw [if_pos (show Ri false [] from ⟨by simp, rfl, by simp⟩)]
      simp (config := { implicitDefEqProofs := false, maxSteps := 2000000 }) (disch := omega) only [ps, ↓reduceIte, reduceCtorEq, Int.reduceLT, Int.reduceLE, Int.reduceEq, Nat.reduceLT, Nat.reduceLeDiff, Nat.reduceEqDiff, Int.reduceNeg, eitherK]
      exact Rn.pure _
    · rw [if_neg (show ¬ Ri true [] from fun h => h.2.2 rfl rfl)]
      simp (config := { implicitDefEqProofs := false, maxSteps := 2000000 }) (disch := omega) only [ps, ↓reduceIte, reduceCtorEq, Int.reduceLT, Int.reduceLE, Int.reduceEq, Nat.reduceLT, Nat.reduceLeDiff, Nat.reduceEqDiff, Int.reduceNeg, eitherK]
      exact Rn.pure _
  · rw [List.concat_eq_append] at *
    have hget : (m ++ [x])[m.length]? = some x := by simp
    have hlen : (m ++ [x]).length = m.length + 1 := by simp
    have h1 : (((m.length + 1 : Nat) : Int) - 1) = (m.length : Int) := by omega
    have hlast' : tl (m ++ [x]) = m ++ [x] ↔ x ≠ 0 := by
      rw [hlast]
      constructor
      · rintro (e | ⟨m', x', e, h0⟩)
        · simp at e
        · obtain ⟨_, e2⟩ := List.append_inj' e rfl
          simp only [List.cons.injEq, and_true] at e2
          rwa [e2]
      · intro h0; exact .inr ⟨m, x, rfl, h0⟩
    by_cases h72 : m.length + 1 ≤ 72
    · by_cases hx : x = 0
      · subst hx
        rw [if_neg (show ¬ Ri a0 (m ++ [0]) from fun h => hlast'.1 h.2.1 rfl)]
        simp (config := { implicitDefEqProofs := false, maxSteps := 2000000 }) (disch := omega) only [ps, ↓reduceIte, reduceCtorEq, Int.reduceLT, Int.reduceLE, Int.reduceEq, Nat.reduceLT, Nat.reduceLeDiff, Nat.reduceEqDiff, Int.reduceNeg, eitherK, hlen, h1, hget]
        exact Rn.pure _
      · rw [if_pos (show Ri a0 (m ++ [x]) from ⟨by omega, hlast'.2 hx, by simp⟩)]
        simp (config := { implicitDefEqProofs := false, maxSteps := 2000000 }) (disch := omega) only [ps, ↓reduceIte, reduceCtorEq, Int.reduceLT, Int.reduceLE, Int.reduceEq, Nat.reduceLT, Nat.reduceLeDiff, Nat.reduceEqDiff, Int.reduceNeg, eitherK, hlen, h1, hget, hx]
        exact Rn.pure _
    · rw [if_neg (show ¬ Ri a0 (m ++ [x]) from fun h => by have := h.1; omega)]
      simp (config := { implicitDefEqProofs := false, maxSteps := 2000000 }) (disch := omega) only [ps, ↓reduceIte, reduceCtorEq, Int.reduceLT, Int.reduceLE, Int.reduceEq, Nat.reduceLT, Nat.reduceLeDiff, Nat.reduceEqDiff, Int.reduceNeg, eitherK, hlen]
      exact Rn.pure _
theorem both_ev (a0 b0 : Bool) (a1 b1 : List Int) (ha : a1.length ≤ 9223372036854775807) (hb : b1.length ≤ 9223372036854775807) (da : Dg W a1) (db : Dg W b1) :
    Rn (fun k => Flimb_both k a0 a1 b0 b1) (if Ri a0 a1 ∧ Ri b0 b1 then 0 else 10) := by
  refine Rn.up (f := fun k => Flimb_both k a0 a1 b0 b1) ?_
  show Rn (fun k => blimb_both k a0 a1 b0 b1) _
  unfold blimb_both
  refine Rn.bind (check_ev a0 a1 ha da) ?_
  by_cases h1 : Ri a0 a1
  · simp only [h1, true_and, if_true]
    simp (config := { implicitDefEqProofs := false, maxSteps := 2000000 }) (disch := omega) only [ps, ↓reduceIte, reduceCtorEq, Int.reduceLT, Int.reduceLE, Int.reduceEq, Nat.reduceLT, Nat.reduceLeDiff, Nat.reduceEqDiff, Int.reduceNeg, eitherK]
    exact Rn.bind (check_ev b0 b1 hb db) (Rn.pure _)
  · simp only [h1, false_and, if_false]
    simp (config := { implicitDefEqProofs := false, maxSteps := 2000000 }) (disch := omega) only [ps, ↓reduceIte, reduceCtorEq, Int.reduceLT, Int.reduceLE, Int.reduceEq, Nat.reduceLT, Nat.reduceLeDiff, Nat.reduceEqDiff, Int.reduceNeg, eitherK]
    exact Rn.pure _
theorem Of_ev (neg : Bool) (w : List Int) (hl : w.length ≤ 1000000000) : Rn (fun k => Fbig_Of k neg w) (sgn neg w, tl w) := by
  refine Rn.up (f := fun k => Fbig_Of k neg w) ?_
  show Rn (fun k => bbig_Of k neg w) _
  unfold bbig_Of
  simp (config := { implicitDefEqProofs := false, maxSteps := 2000000 }) (disch := omega) only [ps, ↓reduceIte, reduceCtorEq, Int.reduceLT, Int.reduceLE, Int.reduceEq, Nat.reduceLT, Nat.reduceLeDiff, Nat.reduceEqDiff, Int.reduceNeg, eitherK, List.take_length]
  refine Rn.bind (trim_ev w (by omega)) ?_
  unfold sgn
  cases neg
  · simp (config := { implicitDefEqProofs := false, maxSteps := 2000000 }) (disch := omega) only [ps, ↓reduceIte, reduceCtorEq, Int.reduceLT, Int.reduceLE, Int.reduceEq, Nat.reduceLT, Nat.reduceLeDiff, Nat.reduceEqDiff, Int.reduceNeg, eitherK]; exact Rn.pure _
  · simp (config := { implicitDefEqProofs := false, maxSteps := 2000000 }) (disch := omega) only [ps, ↓reduceIte, reduceCtorEq, Int.reduceLT, Int.reduceLE, Int.reduceEq, Nat.reduceLT, Nat.reduceLeDiff, Nat.reduceEqDiff, Int.reduceNeg, eitherK]
    have : (decide ((0 : Int) < ((tl w).length : Int))) = decide (0 < (tl w).length) := by congr 1; simp
    rw [this]; exact Rn.pure _
theorem sgn_id {a0 : Bool} {a1 : List Int} (h : Ri a0 a1) : sgn a0 a1 = a0 := by
  unfold sgn
  rw [h.2.1]
  cases a0
  · rfl
  · have := h.2.2 rfl
    cases a1 with
    | nil => exact absurd rfl this
    | cons _ _ => rfl
theorem Take_ev (a0 : Bool) (a1 : List Int) (hl : a1.length ≤ 1000000000) : Rn (fun k => Fwide_Take k a0 a1) (sgn a0 a1, tl a1) :=
  Rn.up (f := fun k => Fwide_Take k a0 a1) (Rn.bind (Of_ev a0 a1 hl) (Rn.pure _))
theorem Take_ri {a0 : Bool} {a1 : List Int} (h : Ri a0 a1) : Rn (fun k => Fwide_Take k a0 a1) (a0, a1) := by
  have := Take_ev a0 a1 (by have := h.1; omega)
  rwa [sgn_id h, h.2.1] at this
theorem Give1_ev {z0 : Bool} {z1 : List Int} {z : Int} (hn : Nm W z0 z1 z) (hl : z1.length ≤ 1000000000) : Rn (fun k => Fwide_Give_awf k z0 z1) (z0, z1.length, z0, z1, z1) := by
  refine Rn.up (f := fun k => Fwide_Give_awf k z0 z1) ?_
  show Rn (fun k => bwide_Give_awf k z0 z1) _
  unfold bwide_Give_awf
  have h1 : Rn (fun k => Fbig_Int_Sign_awf k z0 z1) ((if z1 = [] then 0 else if z0 then -1 else 1 : Int), z0, z1) := by
    refine Rn.up (f := fun k => Fbig_Int_Sign_awf k z0 z1) ?_
    show Rn (fun k => bbig_Int_Sign_awf k z0 z1) _
    unfold bbig_Int_Sign_awf
    cases z1 with
    | nil => simp (config := { implicitDefEqProofs := false, maxSteps := 2000000 }) (disch := omega) only [ps, ↓reduceIte, reduceCtorEq, Int.reduceLT, Int.reduceLE, Int.reduceEq, Nat.reduceLT, Nat.reduceLeDiff, Nat.reduceEqDiff, Int.reduceNeg, eitherK]; exact Rn.pure _
    | cons y r =>
      have : (y :: r).length = r.length + 1 := rfl
      cases z0 <;> simp (config := { implicitDefEqProofs := false, maxSteps := 2000000 }) (disch := omega) only [ps, ↓reduceIte, reduceCtorEq, Int.reduceLT, Int.reduceLE, Int.reduceEq, Nat.reduceLT, Nat.reduceLeDiff, Nat.reduceEqDiff, Int.reduceNeg, eitherK, this] <;> exact Rn.pure _
  have h2 : Rn (fun k => Fbig_Int_Words_awf k z0 z1) (z1.length, z0, z1, z1) := by
    refine Rn.up (f := fun k => Fbig_Int_Words_awf k z0 z1) ?_
    show Rn (fun k => bbig_Int_Words_awf k z0 z1) _
    unfold bbig_Int_Words_awf
    simp (config := { implicitDefEqProofs := false, maxSteps := 2000000 }) (disch := omega) only [ps, ↓reduceIte, reduceCtorEq, Int.reduceLT, Int.reduceLE, Int.reduceEq, Nat.reduceLT, Nat.reduceLeDiff, Nat.reduceEqDiff, Int.reduceNeg, eitherK]; exact Rn.pure _
  refine Rn.bind h1 (Rn.bind h2 ?_)
  have hs := hn.sg
  have : (decide ((if z1 = [] then 0 else if z0 then -1 else 1 : Int) < 0)) = z0 := by
    cases z0
    · split <;> simp
    · rw [if_neg (hs rfl)]; rfl
  simp only [this]
  exact Rn.pure _
end Go.Proofs.YtlnailgfialgnaaGreatDoor.Am

/- Plain reckoning: products. -/
set_option linter.unusedVariables false
set_option linter.unusedSimpArgs false
set_option maxRecDepth 10000
namespace Go.Proofs.YtlnailgfialgnaaGreatDoor.Am
open Go

theorem V_set {B : Int} : ∀ {l : List Int} {p : Nat} {o : Int} (v : Int), l[p]? = some o → V B (l.set p v) = V B l + B ^ p * (v - o) := by
  intro l
  induction l with
  | nil => intro p o v h; simp at h
  | cons x l ih =>
    intro p o v h
    cases p with
    | zero => simp at h; subst h; simp [V]; omega
    | succ p =>
      simp only [List.getElem?_cons_succ] at h
      simp only [List.set_cons_succ, V, ih v h, Int.pow_succ]
      grind
theorem mul_bd {x y : Int} (hx : 0 ≤ x ∧ x < 4294967296) (hy : 0 ≤ y ∧ y < 4294967296) : 0 ≤ x * y ∧ x * y ≤ 18446744065119617025 := by
  refine ⟨Int.mul_nonneg hx.1 hy.1, ?_⟩
  have h1 : x * y ≤ 4294967295 * y := Int.mul_le_mul_of_nonneg_right (by omega) hy.1
  omega

theorem mul_inner (k : Nat) (x y1 x11 : List Int) (x1 x2 : Int) (z x0 y0 : Bool) (hy : Dg W y1) (i : Nat) (a : Int) (ha : 0 ≤ a ∧ a < W) (n12 : Nat) (hn12 : n12 ≤ 2000000000) (hi : i + y1.length < n12) :
    ∀ (d j n : Nat) (carry : Int) (outs : List Int), j + d = y1.length → d < n → 0 ≤ carry ∧ carry < W → outs.length = n12 → Dg W outs →
    ∃ carry' outs', Lbig_Int_Mul_gsh_2 k n n12 i a carry x x1 x2 y1 y1.length j z x0 x11 y0 y1 outs = some (n12, (i : Int), carry', x, x1, x2, z, x0, x11, y0, y1, outs') ∧ (0 ≤ carry' ∧ carry' < W) ∧ outs'.length = n12 ∧ Dg W outs' ∧
      V W outs' + carry' * W ^ (i + y1.length) = V W outs + carry * W ^ (i + j) + a * W ^ (i + j) * V W (y1.drop j) ∧ ∀ p, i + y1.length ≤ p → outs'[p]? = outs[p]? := by
  intro d
  induction d with
  | zero =>
    intro j n carry outs hj hn hc hl hd
    obtain ⟨n, rfl⟩ : ∃ m, n = m + 1 := ⟨n - 1, by omega⟩
    have : j = y1.length := by omega
    subst this
    refine ⟨carry, outs, ?_, hc, hl, hd, ?_, fun p _ => rfl⟩
    · show Lbig_Int_Mul_gsh_2s k (Lbig_Int_Mul_gsh_2 k n) _ _ _ _ _ _ _ _ _ _ _ _ _ _ _ _ = _
      unfold Lbig_Int_Mul_gsh_2s
      simp (config := { implicitDefEqProofs := false, maxSteps := 2000000 }) (disch := omega) only [ps, ↓reduceIte, reduceCtorEq, Int.reduceLT, Int.reduceLE, Int.reduceEq, Nat.reduceLT, Nat.reduceLeDiff, Nat.reduceEqDiff, Int.reduceNeg, eitherK]
    · rw [List.drop_length]; simp [V]
  | succ d ih =>
    intro j n carry outs hj hn hc hl hd
    obtain ⟨n, rfl⟩ : ∃ m, n = m + 1 := ⟨n - 1, by omega⟩
    obtain ⟨b, hb⟩ := get_of (show j < y1.length by omega)
    obtain ⟨o, ho⟩ := get_of (show i + j < outs.length by omega)
    have hbb := hy.get hb
    have hob := hd.get ho
    have h1 : ((j : Int) + 1) = ((j + 1 : Nat) : Int) := rfl
    have h2 : ((i : Int) + (j : Int)) = ((i + j : Nat) : Int) := rfl
    unfold W at ha hbb hob hc
    have hm := mul_bd ha hbb
    have hdm := Int.emod_add_mul_ediv (a * b + o + carry) W
    obtain ⟨c', o', q1, q2, q3, q4, q5, q6⟩ := ih (j + 1) n ((a * b + o + carry) / W) (outs.set (i + j) ((a * b + o + carry) % W)) (by omega) (by omega) (by unfold W; omega) (by simpa using hl) (hd.set _ (by unfold W; omega))
    refine ⟨c', o', ?_, q2, q3, q4, ?_, fun p hp => ?_⟩
    · rw [← q1]
      show Lbig_Int_Mul_gsh_2s k (Lbig_Int_Mul_gsh_2 k n) _ _ _ _ _ _ _ _ _ _ _ _ _ _ _ _ = _
      unfold Lbig_Int_Mul_gsh_2s
      simp (config := { implicitDefEqProofs := false, maxSteps := 2000000 }) (disch := omega) only [ps, ↓reduceIte, reduceCtorEq, Int.reduceLT, Int.reduceLE, Int.reduceEq, Nat.reduceLT, Nat.reduceLeDiff, Nat.reduceEqDiff, Int.reduceNeg, eitherK, hb, h1, h2, ho, fdiv_pos, wrap_u32]
    · rw [q5, V_set _ ho, V_drop hb, ← Nat.add_assoc, Int.pow_succ]
      grind
    · rw [q6 p hp, List.getElem?_set_ne (by omega)]
theorem mul_outer (k : Nat) (x1 y1 : List Int) (z x0 y0 : Bool) (hx : Dg W x1) (hy : Dg W y1) (hlx : x1.length ≤ 1000000000) (hly : y1.length ≤ 1000000000) (hk : y1.length < k) :
    ∀ (d i n : Nat) (outs : List Int), i + d = x1.length → d < n → outs.length = x1.length + y1.length → Dg W outs → V W outs = V W (x1.take i) * V W y1 → (∀ p, i + y1.length ≤ p → p < outs.length → outs[p]? = some 0) →
    ∃ outs', Lbig_Int_Mul_gsh_0 k n (x1.length + y1.length) x1 x1.length i z x0 x1 y0 y1 outs = some (x1.length + y1.length, z, x0, x1, y0, y1, outs') ∧ outs'.length = x1.length + y1.length ∧ Dg W outs' ∧ V W outs' = V W x1 * V W y1 := by
  intro d
  induction d with
  | zero =>
    intro i n outs hi hn hl hd e h0
    obtain ⟨n, rfl⟩ : ∃ m, n = m + 1 := ⟨n - 1, by omega⟩
    have : i = x1.length := by omega
    subst this
    refine ⟨outs, ?_, hl, hd, by rw [e, List.take_length]⟩
    show Lbig_Int_Mul_gsh_0s k (Lbig_Int_Mul_gsh_0 k n) _ _ _ _ _ _ _ _ _ _ = _
    unfold Lbig_Int_Mul_gsh_0s
    simp (config := { implicitDefEqProofs := false, maxSteps := 2000000 }) (disch := omega) only [ps, ↓reduceIte, reduceCtorEq, Int.reduceLT, Int.reduceLE, Int.reduceEq, Nat.reduceLT, Nat.reduceLeDiff, Nat.reduceEqDiff, Int.reduceNeg, eitherK]
  | succ d ih =>
    intro i n outs hi hn hl hd e h0
    obtain ⟨n, rfl⟩ : ∃ m, n = m + 1 := ⟨n - 1, by omega⟩
    obtain ⟨a, ha⟩ := get_of (show i < x1.length by omega)
    have hab := hx.get ha
    obtain ⟨c', o', q1, q2, q3, q4, q5, q6⟩ := mul_inner k x1 y1 x1 x1.length i z x0 y0 hy i a hab (x1.length + y1.length) (by omega) (by omega) y1.length 0 k 0 outs (by omega) (by omega) (by decide) hl hd
    have hz : o'[i + y1.length]? = some 0 := by rw [q6 _ (Nat.le_refl _)]; exact h0 _ (Nat.le_refl _) (by omega)
    have h1 : ((i : Int) + 1) = ((i + 1 : Nat) : Int) := rfl
    have h2 : ((i : Int) + (y1.length : Int)) = ((i + y1.length : Nat) : Int) := rfl
    have e2 : V W (o'.set (i + y1.length) c') = V W (x1.take (i + 1)) * V W y1 := by
      rw [V_set _ hz, V_take_succ ha, Int.sub_zero]
      simp only [Nat.add_zero, List.drop_zero, Int.zero_mul, Int.add_zero] at q5
      rw [e] at q5
      rw [Int.add_mul, Int.mul_comm (W ^ i) a, ← q5, Int.mul_comm c']
    have e3 : ∀ p, (i + 1) + y1.length ≤ p → p < (o'.set (i + y1.length) c').length → (o'.set (i + y1.length) c')[p]? = some 0 := by
      intro p hp hpl
      rw [List.getElem?_set_ne (by omega), q6 p (by omega)]
      exact h0 p (by omega) (by simp at hpl; omega)
    obtain ⟨o2, r1, r2⟩ := ih (i + 1) n (o'.set (i + y1.length) c') (by omega) (by omega) (by simpa using q3) (q4.set _ q2) e2 e3
    refine ⟨o2, ?_, r2⟩
    rw [← r1]
    show Lbig_Int_Mul_gsh_0s k (Lbig_Int_Mul_gsh_0 k n) _ _ _ _ _ _ _ _ _ _ = _
    unfold Lbig_Int_Mul_gsh_0s
    have q1' : Lbig_Int_Mul_gsh_2 k k (x1.length + y1.length) i a 0 x1 x1.length i y1 y1.length 0 z x0 x1 y0 y1 outs = _ := q1
    unfold W at q2
    simp (config := { implicitDefEqProofs := false, maxSteps := 2000000 }) (disch := omega) only [ps, ↓reduceIte, reduceCtorEq, Int.reduceLT, Int.reduceLE, Int.reduceEq, Nat.reduceLT, Nat.reduceLeDiff, Nat.reduceEqDiff, Int.reduceNeg, eitherK, ha, q1', h1, h2, hz]
theorem Mul1_ev (z x0 y0 : Bool) (x1 y1 : List Int) {x y : Int} (nx : Nm W x0 x1 x) (ny : Nm W y0 y1 y) (hx : x1.length ≤ 1000000) (hy : y1.length ≤ 1000000) :
    ∃ s l, Rn (fun k => Fbig_Int_Mul_gsh k z x0 x1 y0 y1) (s, l, x0, x1, y0, y1) ∧ Nm W s l (x * y) ∧ l.length ≤ x1.length + y1.length := by
  have hW : (0 : Int) < W := by decide
  have main : ∀ k, x1.length + y1.length < k → ∃ outs', Lbig_Int_Mul_gsh_0 k k (x1.length + y1.length) x1 x1.length (0 : Int) z x0 x1 y0 y1 (List.replicate (x1.length + y1.length) 0) = some (x1.length + y1.length, z, x0, x1, y0, y1, outs') ∧ outs'.length = x1.length + y1.length ∧ Dg W outs' ∧ V W outs' = V W x1 * V W y1 := by
    intro k hk
    refine mul_outer k x1 y1 z x0 y0 nx.c.1 ny.c.1 (by omega) (by omega) (by omega) x1.length 0 k _ (by omega) (by omega) (by simp) (Dg.rep _ hW) (by rw [V_rep]; simp [V]) ?_
    intro p _ hp
    rw [List.getElem?_replicate_of_lt (by simpa using hp)]
  obtain ⟨o, q1, q2, q3, q4⟩ := main (x1.length + y1.length + 1) (by omega)
  refine ⟨sgn (!(x0 == y0)) o, tl o, ?_, ?_, by have := tl_len o; omega⟩
  · obtain ⟨K, hK⟩ := set1_ev (!(x0 == y0)) z o (by omega)
    refine Rn.up (f := fun k => Fbig_Int_Mul_gsh k z x0 x1 y0 y1) (Rn.eq (max K (x1.length + y1.length + 1)) fun k hk => ?_)
    show bbig_Int_Mul_gsh k z x0 x1 y0 y1 = _
    unfold bbig_Int_Mul_gsh
    obtain ⟨o', r1, r2, r3, r4⟩ := main k (by omega)
    have ho : o' = o := Dg.ext r3 q3 (by omega) (by omega)
    subst ho
    have h2 : ((x1.length : Int) + (y1.length : Int)) = ((x1.length + y1.length : Nat) : Int) := rfl
    have hs := hK k (by omega)
    have ht : List.take (x1.length + y1.length) o' = o' := List.take_of_length_le (by omega)
    simp (config := { implicitDefEqProofs := false, maxSteps := 2000000 }) (disch := omega) only [ps, ↓reduceIte, reduceCtorEq, Int.reduceLT, Int.reduceLE, Int.reduceEq, Nat.reduceLT, Nat.reduceLeDiff, Nat.reduceEqDiff, Int.reduceNeg, eitherK, h2, r1, r2, ht, hs]
  · refine (sgn_nm (neg := !(x0 == y0)) q3 q4).cast ?_
    rw [← nx.z, ← ny.z]
    cases x0 <;> cases y0 <;> simp [Int.neg_mul, Int.mul_neg]
end Go.Proofs.YtlnailgfialgnaaGreatDoor.Am

/- Plain reckoning: products whose factors lie in other memory say the same. -/
set_option linter.unusedVariables false
set_option linter.unusedSimpArgs false
set_option maxRecDepth 10000
namespace Go.Proofs.YtlnailgfialgnaaGreatDoor.Am
open Go

section
variable {α β γ : Type}
theorem mapI {c : Prop} [Decidable c] (f : α → β) (a b : Option α) : Option.map f (if c then a else b) = if c then Option.map f a else Option.map f b := by split <;> rfl
theorem mapB (f : β → γ) (o : Option α) (g : α → Option β) : Option.map f (Option.bind o g) = Option.bind o fun x => Option.map f (g x) := by cases o <;> rfl
theorem bindM (f : α → β) (o : Option α) (g : β → Option γ) : Option.bind (Option.map f o) g = Option.bind o fun x => g (f x) := by cases o <;> rfl
theorem Rn.map {f : Nat → Option α} {r : α} (h : Rn f r) (g : α → β) : Rn (fun k => Option.map g (f k)) (g r) := by
  obtain ⟨K, h⟩ := h
  exact ⟨K, fun k hk => by show Option.map g (f k) = _; rw [h k hk]; rfl⟩
theorem Rn.congr {f g : Nat → Option α} {r : α} (h : ∀ k, f k = g k) (hg : Rn g r) : Rn f r := by
  obtain ⟨K, hg⟩ := hg
  exact ⟨K, fun k hk => by rw [h k]; exact hg k hk⟩
end
abbrev T12 := Nat × Int × Int × List Int × Int × Int × Bool × Bool × List Int × Bool × List Int × List Int
abbrev T7 := Nat × Bool × Bool × List Int × Bool × List Int × List Int
abbrev T6 := Bool × List Int × Bool × List Int × Bool × List Int

/- Both words in one block with another: the first factor. -/
def uo2 (a : Bool) (b : List Int) (r : T12) : Nat × Int × Int × List Int × Int × Int × Bool × Bool × List Int × Bool × List Int × Bool × List Int × List Int :=
  (r.1, r.2.1, r.2.2.1, r.2.2.2.1, r.2.2.2.2.1, r.2.2.2.2.2.1, r.2.2.2.2.2.2.1, r.2.2.2.2.2.2.2.1, r.2.2.2.2.2.2.2.2.1, a, b, r.2.2.2.2.2.2.2.2.2)
theorem uoe_2 (k : Nat) : ∀ (n o : Nat) (i a c : Int) (x : List Int) (x1 x2 : Int) (x3 : List Int) (x4 x5 : Int) (z x0 : Bool) (x11 : List Int) (p : Bool) (q : List Int) (y0 : Bool) (y1 outs : List Int),
    Lbig_Int_Mul_uoe_2 k n o i a c x x1 x2 x3 x4 x5 z x0 x11 p q y0 y1 outs = Option.map (uo2 p q) (Lbig_Int_Mul_gsh_2 k n o i a c x x1 x2 x3 x4 x5 z x0 x11 y0 y1 outs)
  | 0 => fun o i a c x x1 x2 x3 x4 x5 z x0 x11 p q y0 y1 outs => rfl
  | n + 1 => fun o i a c x x1 x2 x3 x4 x5 z x0 x11 p q y0 y1 outs => by
    show Lbig_Int_Mul_uoe_2s k (Lbig_Int_Mul_uoe_2 k n) _ _ _ _ _ _ _ _ _ _ _ _ _ _ _ _ _ _ = Option.map (uo2 p q) (Lbig_Int_Mul_gsh_2s k (Lbig_Int_Mul_gsh_2 k n) _ _ _ _ _ _ _ _ _ _ _ _ _ _ _ _)
    unfold Lbig_Int_Mul_uoe_2s Lbig_Int_Mul_gsh_2s
    simp only [mapI, mapB, Option.map_some, Option.map_none, uoe_2 k n, uo2]
def uo0 (a : Bool) (b : List Int) (r : T7) : Nat × Bool × Bool × List Int × Bool × List Int × Bool × List Int × List Int :=
  (r.1, r.2.1, r.2.2.1, r.2.2.2.1, a, b, r.2.2.2.2)
theorem uoe_0 (k : Nat) : ∀ (n o : Nat) (x : List Int) (x1 x2 : Int) (z x0 : Bool) (x11 : List Int) (p : Bool) (q : List Int) (y0 : Bool) (y1 outs : List Int),
    Lbig_Int_Mul_uoe_0 k n o x x1 x2 z x0 x11 p q y0 y1 outs = Option.map (uo0 p q) (Lbig_Int_Mul_gsh_0 k n o x x1 x2 z x0 x11 y0 y1 outs)
  | 0 => fun o x x1 x2 z x0 x11 p q y0 y1 outs => rfl
  | n + 1 => fun o x x1 x2 z x0 x11 p q y0 y1 outs => by
    show Lbig_Int_Mul_uoe_0s k (Lbig_Int_Mul_uoe_0 k n) _ _ _ _ _ _ _ _ _ _ _ _ = Option.map (uo0 p q) (Lbig_Int_Mul_gsh_0s k (Lbig_Int_Mul_gsh_0 k n) _ _ _ _ _ _ _ _ _ _)
    unfold Lbig_Int_Mul_uoe_0s Lbig_Int_Mul_gsh_0s
    simp only [mapI, mapB, bindM, Option.map_some, Option.map_none, uoe_2 k k, uoe_0 k n, uo2, uo0]
    rfl
theorem uoe_b (k : Nat) (z x0 : Bool) (x1 : List Int) (p : Bool) (q : List Int) (y0 : Bool) (y1 : List Int) :
    Fbig_Int_Mul_uoe k z x0 x1 p q y0 y1 = Option.map (fun r : T6 => (r.1, r.2.1, r.2.2.1, r.2.2.2.1, p, q, r.2.2.2.2)) (Fbig_Int_Mul_gsh k z x0 x1 y0 y1) := by
  cases k with
  | zero => rfl
  | succ k =>
    show bbig_Int_Mul_uoe k z x0 x1 p q y0 y1 = Option.map _ (bbig_Int_Mul_gsh k z x0 x1 y0 y1)
    unfold bbig_Int_Mul_uoe bbig_Int_Mul_gsh
    simp only [mapI, mapB, bindM, Option.map_some, Option.map_none, uoe_0 k k, uo0]
    rfl
theorem Mulo_ev (z x0 y0 p : Bool) (x1 y1 q : List Int) {x y : Int} (nx : Nm W x0 x1 x) (ny : Nm W y0 y1 y) (hx : x1.length ≤ 1000000) (hy : y1.length ≤ 1000000) :
    ∃ s l, Rn (fun k => Fbig_Int_Mul_uoe k z x0 x1 p q y0 y1) (s, l, x0, x1, p, q, y0, y1) ∧ Nm W s l (x * y) ∧ l.length ≤ x1.length + y1.length := by
  obtain ⟨s, l, h1, h2, h3⟩ := Mul1_ev z x0 y0 x1 y1 nx ny hx hy
  exact ⟨s, l, Rn.congr (fun k => uoe_b k z x0 x1 p q y0 y1) (h1.map _), h2, h3⟩

/- Both factors in blocks with another. -/
/- The second factor in a block with another. -/
/- The product laid where the first factor lay. -/
end Go.Proofs.YtlnailgfialgnaaGreatDoor.Am

/- Plain reckoning: division by one word; numbers in decimal digits; machine numbers. -/
set_option linter.unusedVariables false
set_option linter.unusedSimpArgs false
set_option maxRecDepth 10000
namespace Go.Proofs.YtlnailgfialgnaaGreatDoor.Am
open Go

theorem short_loop (k : Nat) (a : List Int) (dd : Int) (hla : a.length ≤ 1000000000) (ha : Dg W a) (hd : 0 < dd ∧ dd < W) :
    ∀ (m n : Nat) (r : Int) (qs : List Int), m ≤ a.length → m < n → 0 ≤ r ∧ r < dd → qs.length = a.length → Dg W qs → V W (a.drop m) = dd * V W (qs.drop m) + r →
    ∃ r' qs', Lbig_short_0 k n a dd a.length r ((m : Int) - 1) qs = some (a.length, r', qs') ∧ (0 ≤ r' ∧ r' < dd) ∧ qs'.length = a.length ∧ Dg W qs' ∧ V W a = dd * V W qs' + r' := by
  intro m
  induction m with
  | zero =>
    intro n r qs hm hn hr hl hq e
    obtain ⟨n, rfl⟩ : ∃ m, n = m + 1 := ⟨n - 1, by omega⟩
    refine ⟨r, qs, ?_, hr, hl, hq, e⟩
    show Lbig_short_0s k (Lbig_short_0 k n) _ _ _ _ _ _ = _
    unfold Lbig_short_0s
    simp (config := { implicitDefEqProofs := false, maxSteps := 2000000 }) (disch := omega) only [ps, ↓reduceIte, reduceCtorEq, Int.reduceLT, Int.reduceLE, Int.reduceEq, Nat.reduceLT, Nat.reduceLeDiff, Nat.reduceEqDiff, Int.reduceNeg, eitherK]
  | succ i ih =>
    intro n r qs hm hn hr hl hq e
    obtain ⟨n, rfl⟩ : ∃ m, n = m + 1 := ⟨n - 1, by omega⟩
    obtain ⟨x, hx⟩ := get_of (show i < a.length by omega)
    obtain ⟨o, ho⟩ := get_of (show i < qs.length by omega)
    have hxb := ha.get hx
    have h1 : (((i + 1 : Nat) : Int) - 1) = (i : Int) := by omega
    unfold W at hxb hd
    have hdm := Int.emod_add_mul_ediv (r * 4294967296 + x) dd
    have hr1 : 0 ≤ (r * 4294967296 + x) % dd ∧ (r * 4294967296 + x) % dd < dd := ⟨Int.emod_nonneg _ (by omega), Int.emod_lt_of_pos _ (by omega)⟩
    have hq1 : 0 ≤ (r * 4294967296 + x) / dd := Int.ediv_nonneg (by omega) (by omega)
    have hq2 : (r * 4294967296 + x) / dd < 4294967296 := by
      refine Int.ediv_lt_of_lt_mul (by omega) ?_
      have : r * 4294967296 + 4294967296 ≤ dd * 4294967296 := by omega
      rw [Int.mul_comm]; omega
    have hdrop : (qs.set i ((r * 4294967296 + x) / dd)).drop i = ((r * 4294967296 + x) / dd) :: qs.drop (i + 1) := by
      rw [List.drop_eq_getElem_cons (by simp; omega), List.getElem_set_self, List.drop_set_of_lt (by omega)]
    obtain ⟨r', qs', q1, q2⟩ := ih n ((r * 4294967296 + x) % dd) (qs.set i ((r * 4294967296 + x) / dd)) (by omega) (by omega) hr1 (by simpa using hl) (hq.set _ (by unfold W; omega)) (by
      rw [V_drop hx, e, hdrop]
      simp only [V]
      unfold W
      grind)
    refine ⟨r', qs', ?_, q2⟩
    rw [← q1]
    show Lbig_short_0s k (Lbig_short_0 k n) _ _ _ _ _ _ = _
    unfold Lbig_short_0s
    have e0 : IntKind.u64.wrap (r * 4294967296) = r * 4294967296 := wrap_u64_id (by omega)
    have e2 : IntKind.u64.wrap x = x := wrap_u64_id (by omega)
    have e1 := or_add (x := r) (y := x) (by omega) (by omega)
    have e3 : IntKind.u64.wrap (r * 4294967296 + x) = r * 4294967296 + x := wrap_u64_id (by omega)
    have e4 : IntKind.u64.wrap dd = dd := wrap_u64_id (by omega)
    have e5 : Int.tdiv (r * 4294967296 + x) dd = (r * 4294967296 + x) / dd := tdiv_pos (by omega)
    have e6 : Int.tmod (r * 4294967296 + x) dd = (r * 4294967296 + x) % dd := tmod_pos (by omega)
    simp (config := { implicitDefEqProofs := false, maxSteps := 2000000 }) (disch := omega) only [ps, ↓reduceIte, reduceCtorEq, Int.reduceLT, Int.reduceLE, Int.reduceEq, Nat.reduceLT, Nat.reduceLeDiff, Nat.reduceEqDiff, Int.reduceNeg, eitherK, hx, ho, h1, e0, e2, e1, e3, e4, e5, e6]
theorem short_ev (a : List Int) (dd : Int) (hla : a.length ≤ 1000000000) (ha : Dg W a) (hd : 0 < dd ∧ dd < W) :
    ∃ q r, (∀ k, a.length + 2 ≤ k → Fbig_short k a dd = some (q, r)) ∧ (0 ≤ r ∧ r < dd) ∧ q.length = a.length ∧ Dg W q ∧ V W a = dd * V W q + r := by
  have main : ∀ k, a.length < k → ∃ r' qs', Lbig_short_0 k k a dd a.length 0 ((a.length : Int) - 1) (List.replicate a.length 0) = some (a.length, r', qs') ∧ (0 ≤ r' ∧ r' < dd) ∧ qs'.length = a.length ∧ Dg W qs' ∧ V W a = dd * V W qs' + r' := by
    intro k hk
    exact short_loop k a dd hla ha hd a.length k 0 _ (Nat.le_refl _) hk (by omega) (by simp) (Dg.rep _ (by decide)) (by rw [List.drop_length, List.drop_of_length_le (by simp)]; simp [V])
  obtain ⟨r, q, h1, h2, h3, h4, h5⟩ := main (a.length + 1) (by omega)
  refine ⟨q, r, fun k hk => ?_, h2, h3, h4, h5⟩
  obtain ⟨k, rfl⟩ : ∃ m, k = m + 1 := ⟨k - 1, by omega⟩
  obtain ⟨r', q', g1, g2, g3, g4, g5⟩ := main k (by omega)
  have hq : V W q' = V W q ∧ r' = r := by
    have a1 : (dd * V W q' + r') % dd = r' := by rw [Int.add_comm, Int.add_mul_emod_self_left]; exact Int.emod_eq_of_lt g2.1 g2.2
    have a2 : (dd * V W q + r) % dd = r := by rw [Int.add_comm, Int.add_mul_emod_self_left]; exact Int.emod_eq_of_lt h2.1 h2.2
    have er : r' = r := by rw [← a1, ← a2, ← g5, ← h5]
    subst er
    have : dd * V W q' = dd * V W q := by omega
    exact ⟨Int.eq_of_mul_eq_mul_left (by omega) this, rfl⟩
  have hqq : q' = q := Dg.ext g4 h4 (by omega) hq.1
  show bbig_short k a dd = _
  unfold bbig_short
  unfold W at hd
  rw [← hqq, ← hq.2]
  simp (config := { implicitDefEqProofs := false, maxSteps := 2000000 }) (disch := omega) only [ps, ↓reduceIte, reduceCtorEq, Int.reduceLT, Int.reduceLE, Int.reduceEq, Nat.reduceLT, Nat.reduceLeDiff, Nat.reduceEqDiff, Int.reduceNeg, eitherK, g1, g3]
  rw [List.take_of_length_le (by omega)]

/-- The magnitude's digits, as bytes, the highest first; ahead of them the sign. -/
def bytesOf (l : List Int) : ByteArray := ByteArray.mk (List.toArray (List.map (fun n : Int => n.toNat.toUInt8) l))
def dec (neg : Bool) (l : List Int) : List Int := (if neg then [45] else []) ++ (l.map fun x => 48 + x).reverse
theorem NewInt_ev (v : Int) (hv : -9223372036854775808 ≤ v ∧ v ≤ 9223372036854775807) : ∃ l, Rn (fun k => Fbig_NewInt k v) (decide (v < 0), l) ∧ Nm W (decide (v < 0)) l v ∧ l.length ≤ 2 := by
  have main : ∀ u : Int, 0 ≤ u ∧ u < 18446744073709551616 → u = v.natAbs → ∃ l, Rn (fun k => Fbig_trim k (List.take 2 [u % 4294967296, u / 4294967296])) l ∧ Cn W l ∧ V W l = v.natAbs ∧ l.length ≤ 2 := by
    intro u hu e
    have hdm := Int.emod_add_mul_ediv u 4294967296
    have hdg : Dg W [u % 4294967296, u / 4294967296] := Dg.cons (by unfold W; omega) (Dg.cons (by unfold W; omega) Dg.nil)
    have := tl_len [u % 4294967296, u / 4294967296]
    refine ⟨tl [u % 4294967296, u / 4294967296], trim_ev _ (by simp), Cn.of hdg, ?_, by simpa using this⟩
    rw [V_tl]
    simp only [V]
    unfold W
    omega
  by_cases h : v < 0
  · obtain ⟨l, h1, h2, h3, h4⟩ := main (-v) (by omega) (by omega)
    refine ⟨l, ?_, Nm.of (by decide) h2 h3, h4⟩
    refine Rn.up (f := fun k => Fbig_NewInt k v) ?_
    show Rn (fun k => bbig_NewInt k v) _
    unfold bbig_NewInt
    have e1 : IntKind.u64.wrap (0 - IntKind.u64.wrap v) = -v := by rw [wrap_u64, wrap_u64]; omega
    have e2 : IntKind.u32.wrap (-v) = (-v) % 4294967296 := wrap_u32 _
    have e3 : IntKind.u32.wrap ((-v) / 4294967296) = (-v) / 4294967296 := wrap_u32_id (by omega)
    (first | (refine Rn.t ?hc ?_; case hc => simp (config := { implicitDefEqProofs := false, maxSteps := 2000000 }) (disch := omega) only [ps, ↓reduceIte, reduceCtorEq, Int.reduceLT, Int.reduceLE, Int.reduceEq, Nat.reduceLT, Nat.reduceLeDiff, Nat.reduceEqDiff, Int.reduceNeg, eitherK]) | (refine Rn.f ?hc ?_; case hc => simp (config := { implicitDefEqProofs := false, maxSteps := 2000000 }) (disch := omega) only [ps, ↓reduceIte, reduceCtorEq, Int.reduceLT, Int.reduceLE, Int.reduceEq, Nat.reduceLT, Nat.reduceLeDiff, Nat.reduceEqDiff, Int.reduceNeg, eitherK]))
    simp only [e1, e2, fdiv_pos (-v) (show (0 : Int) ≤ 4294967296 by decide), e3]
    exact Rn.bind h1 (Rn.pure _)
  · obtain ⟨l, h1, h2, h3, h4⟩ := main v (by omega) (by omega)
    refine ⟨l, ?_, Nm.of (by decide) h2 h3, h4⟩
    refine Rn.up (f := fun k => Fbig_NewInt k v) ?_
    show Rn (fun k => bbig_NewInt k v) _
    unfold bbig_NewInt
    have e1 : IntKind.u64.wrap v = v := wrap_u64_id (by omega)
    have e2 : IntKind.u32.wrap v = v % 4294967296 := wrap_u32 _
    have e3 : IntKind.u32.wrap (v / 4294967296) = v / 4294967296 := wrap_u32_id (by omega)
    (first | (refine Rn.t ?hc ?_; case hc => simp (config := { implicitDefEqProofs := false, maxSteps := 2000000 }) (disch := omega) only [ps, ↓reduceIte, reduceCtorEq, Int.reduceLT, Int.reduceLE, Int.reduceEq, Nat.reduceLT, Nat.reduceLeDiff, Nat.reduceEqDiff, Int.reduceNeg, eitherK]) | (refine Rn.f ?hc ?_; case hc => simp (config := { implicitDefEqProofs := false, maxSteps := 2000000 }) (disch := omega) only [ps, ↓reduceIte, reduceCtorEq, Int.reduceLT, Int.reduceLE, Int.reduceEq, Nat.reduceLT, Nat.reduceLeDiff, Nat.reduceEqDiff, Int.reduceNeg, eitherK]))
    simp only [e1, e2, fdiv_pos v (show (0 : Int) ≤ 4294967296 by decide), e3]
    exact Rn.bind h1 (Rn.pure _)
theorem limbOf_ev (v : Int) (hv : -9223372036854775808 ≤ v ∧ v ≤ 9223372036854775807) : ∃ l, Rn (fun k => Flimb_Of k v) (decide (v < 0), l) ∧ Nm W (decide (v < 0)) l v ∧ l.length ≤ 2 := by
  obtain ⟨l, h1, h2, h3⟩ := NewInt_ev v hv
  refine ⟨l, ?_, h2, h3⟩
  refine Rn.up (f := fun k => Flimb_Of k v) ?_
  show Rn (fun k => blimb_Of k v) _
  unfold blimb_Of
  refine Rn.bind h1 (Rn.bind (Give1_ev h2 (show l.length ≤ 1000000000 by omega)) ?_)
  (first | (refine Rn.t ?hc ?_; case hc => simp (config := { implicitDefEqProofs := false, maxSteps := 2000000 }) (disch := omega) only [ps, ↓reduceIte, reduceCtorEq, Int.reduceLT, Int.reduceLE, Int.reduceEq, Nat.reduceLT, Nat.reduceLeDiff, Nat.reduceEqDiff, Int.reduceNeg, eitherK]) | (refine Rn.f ?hc ?_; case hc => simp (config := { implicitDefEqProofs := false, maxSteps := 2000000 }) (disch := omega) only [ps, ↓reduceIte, reduceCtorEq, Int.reduceLT, Int.reduceLE, Int.reduceEq, Nat.reduceLT, Nat.reduceLeDiff, Nat.reduceEqDiff, Int.reduceNeg, eitherK]))
  rw [List.take_length]
  exact Rn.pure _

/-- Digits as signs. -/
def sg (l : List Int) : List Int := l.map fun x => 48 + x
end Go.Proofs.YtlnailgfialgnaaGreatDoor.Am

/- Plain reckoning: long division, the shifts. -/
set_option linter.unusedVariables false
set_option linter.unusedSimpArgs false
set_option maxRecDepth 10000
namespace Go.Proofs.YtlnailgfialgnaaGreatDoor.Am
open Go

theorem or32 {x y : Int} (b : Nat) (hb : b ≤ 32) (hx : 0 ≤ x ∧ x < 2 ^ b) (hy : 0 ≤ y ∧ y < 4294967296) (m : Int) (hm : y = 2 ^ b * m) :
    ((BitVec.toNat ((BitVec.ofInt 32 x) ||| (BitVec.ofInt 32 y)) : Nat) : Int) = x + y := by
  have hp : (0 : Int) < 2 ^ b := Int.pow_pos (by decide)
  have hm0 : 0 ≤ m := by
    rcases Int.lt_or_le m 0 with h | h
    · have := Int.mul_neg_of_pos_of_neg hp h
      omega
    · exact h
  obtain ⟨c, rfl⟩ := Int.eq_ofNat_of_zero_le hx.1
  obtain ⟨e, rfl⟩ := Int.eq_ofNat_of_zero_le hy.1
  obtain ⟨m, rfl⟩ := Int.eq_ofNat_of_zero_le hm0
  have hc : c < 2 ^ b := by
    have := hx.2
    exact_mod_cast this
  have he : e = 2 ^ b * m := by exact_mod_cast hm
  have hb2 : (2 : Nat) ^ b ≤ 2 ^ 32 := Nat.pow_le_pow_right (by decide) hb
  have h1 : (BitVec.ofInt 32 (c : Int)).toNat = c := by
    rw [BitVec.toNat_ofInt]
    omega
  have h2 : (BitVec.ofInt 32 (e : Int)).toNat = e := by
    rw [BitVec.toNat_ofInt]
    omega
  rw [BitVec.toNat_or, h1, h2, he, Nat.or_comm, ← Nat.two_pow_add_eq_or_of_lt hc]
  omega
theorem shift_loop (k : Nat) (a : List Int) (s : Nat) (hs : s ≤ 31) (ha : Dg W a) (hla : a.length ≤ 1000000000) : ∀ (d i n : Nat) (outs : List Int), i + d = a.length → d < n → outs.length = a.length + 1 → Dg W outs →
    (∀ o, outs[i]? = some o → o < 2 ^ s) → V W outs = V W (a.take i) * 2 ^ s → (∀ p, i < p → p < outs.length → outs[p]? = some 0) →
    ∃ outs', Lbig_shift_0 k n s (a.length + 1) a a.length i outs = some (a.length + 1, outs') ∧ outs'.length = a.length + 1 ∧ Dg W outs' ∧ V W outs' = V W a * 2 ^ s := by
  intro d
  induction d with
  | zero =>
    intro i n outs hi hn hl hd ho e h0
    obtain ⟨n, rfl⟩ : ∃ m, n = m + 1 := ⟨n - 1, by omega⟩
    have : i = a.length := by omega
    subst this
    refine ⟨outs, ?_, hl, hd, by rw [e, List.take_length]⟩
    show Lbig_shift_0s k (Lbig_shift_0 k n) _ _ _ _ _ _ = _
    unfold Lbig_shift_0s
    simp (config := { implicitDefEqProofs := false, maxSteps := 2000000 }) (disch := omega) only [ps, ↓reduceIte, reduceCtorEq, Int.reduceLT, Int.reduceLE, Int.reduceEq, Nat.reduceLT, Nat.reduceLeDiff, Nat.reduceEqDiff, Int.reduceNeg, eitherK]
  | succ d ih =>
    intro i n outs hi hn hl hd ho e h0
    obtain ⟨n, rfl⟩ : ∃ m, n = m + 1 := ⟨n - 1, by omega⟩
    obtain ⟨x, hx⟩ := get_of (show i < a.length by omega)
    obtain ⟨o, hoo⟩ := get_of (show i < outs.length by omega)
    have hxb := ha.get hx
    have hob := hd.get hoo
    have ho2 := ho o hoo
    have hz := h0 (i + 1) (by omega) (by omega)
    have hp : (0 : Int) < 2 ^ s := Int.pow_pos (by decide)
    have hq : (0 : Int) < 2 ^ (32 - s) := Int.pow_pos (by decide)
    have hpq : (2 : Int) ^ s * 2 ^ (32 - s) = 4294967296 := by rw [← Int.pow_add, show s + (32 - s) = 32 by omega]; rfl
    have hp31 : (2 : Int) ^ s ≤ 2147483648 := by
      have : (2 : Int) ^ s ≤ 2 ^ 31 := by exact_mod_cast Nat.pow_le_pow_right (by decide : 0 < 2) hs
      have e : (2 : Int) ^ 31 = 2147483648 := by decide
      omega
    unfold W at hxb hob
    have hw : 0 ≤ x * 2 ^ s ∧ x * 2 ^ s < 4294967296 * 2 ^ s := ⟨Int.mul_nonneg hxb.1 (by omega), Int.mul_lt_mul_of_pos_right hxb.2 hp⟩
    have hmod : (x * 2 ^ s) % 4294967296 = 2 ^ s * (x % 2 ^ (32 - s)) := by
      rw [← hpq, Int.mul_comm x, Int.mul_emod_mul_of_pos _ _ hp]
    have hdiv : (x * 2 ^ s) / 4294967296 < 2 ^ s := by
      have h1 := Int.emod_add_mul_ediv (x * 2 ^ s) 4294967296
      have h2 := Int.emod_nonneg (x * 2 ^ s) (show (4294967296 : Int) ≠ 0 by decide)
      omega
    have hdm := Int.emod_add_mul_ediv (x * 2 ^ s) 4294967296
    have hmb : (x * 2 ^ s) % 4294967296 ≤ 4294967296 - 2 ^ s := by
      have h1 := Int.emod_lt_of_pos x hq
      have h2 : 2 ^ s * (x % 2 ^ (32 - s)) ≤ 2 ^ s * (2 ^ (32 - s) - 1) := Int.mul_le_mul_of_nonneg_left (by omega) (by omega)
      rw [Int.mul_sub, hpq] at h2
      omega
    have hmn := Int.emod_nonneg (x * 2 ^ s) (show (4294967296 : Int) ≠ 0 by decide)
    have hor := or32 s (by omega) ⟨hob.1, ho2⟩ (y := (x * 2 ^ s) % 4294967296) ⟨hmn, by omega⟩ _ hmod
    have hdd : (x * 2 ^ s) / 4294967296 % 4294967296 = (x * 2 ^ s) / 4294967296 := Int.emod_eq_of_lt (by omega) (by omega)
    have hz2 : (outs.set i (o + (x * 2 ^ s) % 4294967296))[i + 1]? = some 0 := by rw [List.getElem?_set_ne (by omega)]; exact hz
    have dg1 : Dg W (outs.set i (o + (x * 2 ^ s) % 4294967296)) := hd.set _ (by unfold W; omega)
    obtain ⟨o', q1, q2⟩ := ih (i + 1) n ((outs.set i (o + (x * 2 ^ s) % 4294967296)).set (i + 1) ((x * 2 ^ s) / 4294967296)) (by omega) (by omega) (by simpa using hl) (dg1.set _ (by unfold W; omega)) (by
      intro o2 h2
      rw [List.getElem?_set_self (by simp; omega)] at h2
      cases h2
      exact hdiv) (by
      rw [V_set _ hz2, V_set _ hoo, e, V_take_succ hx, Int.pow_succ]
      have hWW : W = 4294967296 := rfl
      rw [hWW]
      grind) (by
      intro p h1 h2
      rw [List.getElem?_set_ne (by omega), List.getElem?_set_ne (by omega)]
      exact h0 p (by omega) (by simpa using h2))
    refine ⟨o', ?_, q2⟩
    have h1 : ((i : Int) + 1) = ((i + 1 : Nat) : Int) := rfl
    have hmin : min s 64 = s := by omega
    rw [← q1]
    show Lbig_shift_0s k (Lbig_shift_0 k n) _ _ _ _ _ _ = _
    unfold Lbig_shift_0s
    simp (config := { implicitDefEqProofs := false, maxSteps := 2000000 }) (disch := omega) only [ps, ↓reduceIte, reduceCtorEq, Int.reduceLT, Int.reduceLE, Int.reduceEq, Nat.reduceLT, Nat.reduceLeDiff, Nat.reduceEqDiff, Int.reduceNeg, eitherK, hx, hoo, h1, hmin, hor, hz2, fdiv_pos, wrap_u32, hdd]
theorem shift_ev (a : List Int) (s : Nat) (hs : s ≤ 31) (ha : Dg W a) (hla : a.length ≤ 1000000000) :
    ∃ outs, Rn (fun k => Fbig_shift k a s) (a.length + 1, outs) ∧ outs.length = a.length + 1 ∧ Dg W outs ∧ V W outs = V W a * 2 ^ s := by
  have hp : (0 : Int) < 2 ^ s := Int.pow_pos (by decide)
  have main : ∀ k, a.length < k → ∃ outs', Lbig_shift_0 k k s (a.length + 1) a a.length (0 : Int) (List.replicate (a.length + 1) 0) = some (a.length + 1, outs') ∧ outs'.length = a.length + 1 ∧ Dg W outs' ∧ V W outs' = V W a * 2 ^ s := by
    intro k hk
    refine shift_loop k a s hs ha hla a.length 0 k _ (by omega) hk (by simp) (Dg.rep _ (by decide)) ?_ (by rw [V_rep]; simp [V]) ?_
    · intro o h
      rw [List.getElem?_replicate_of_lt (by omega)] at h
      cases h
      exact hp
    · intro p _ h
      rw [List.getElem?_replicate_of_lt (by simpa using h)]
  obtain ⟨o, q1, q2, q3, q4⟩ := main (a.length + 1) (by omega)
  refine ⟨o, ?_, q2, q3, q4⟩
  refine Rn.up (f := fun k => Fbig_shift k a s) (Rn.eq (a.length + 1) fun k hk => ?_)
  show bbig_shift k a s = _
  unfold bbig_shift
  obtain ⟨o', r1, r2, r3, r4⟩ := main k (by omega)
  have ho : o' = o := Dg.ext r3 q3 (by omega) (by omega)
  subst ho
  have h1 : ((a.length : Int) + 1) = ((a.length + 1 : Nat) : Int) := rfl
  simp (config := { implicitDefEqProofs := false, maxSteps := 2000000 }) (disch := omega) only [ps, ↓reduceIte, reduceCtorEq, Int.reduceLT, Int.reduceLE, Int.reduceEq, Nat.reduceLT, Nat.reduceLeDiff, Nat.reduceEqDiff, Int.reduceNeg, eitherK, h1, r1]
end Go.Proofs.YtlnailgfialgnaaGreatDoor.Am

/- Plain reckoning: long division, one digit's multiple taken away. -/
set_option linter.unusedVariables false
set_option linter.unusedSimpArgs false
set_option maxRecDepth 10000
namespace Go.Proofs.YtlnailgfialgnaaGreatDoor.Am
open Go

theorem wrap_32_64 (z : Int) : IntKind.u32.wrap (IntKind.u64.wrap z) = z % 4294967296 := by rw [wrap_u32, wrap_u64]; omega
theorem msub_loop (k : Nat) (vs : List Int) (hvs : Dg W vs) (u0 n : Nat) (hnv : n ≤ vs.length) (dd : Int) (hdd : 0 ≤ dd ∧ dd < W) :
    ∀ (e i m : Nat) (carry borrow : Int) (us : List Int), i + e = n + 1 → e < m → (0 ≤ carry ∧ carry < W) → (0 ≤ borrow ∧ borrow ≤ 1) → (i = n + 1 → carry = 0) → u0 + n + 1 ≤ us.length → us.length ≤ 1000000000 → Dg W us →
    ∃ us' b', Lbig_take_zvq_0 k m u0 (n + 1) n dd carry borrow ((n + 1 : Nat) : Int) i us vs = some (u0, n + 1, n, dd, b', us', vs) ∧ (0 ≤ b' ∧ b' ≤ 1) ∧ us'.length = us.length ∧ Dg W us' ∧
      V W us' + dd * W ^ (u0 + i) * V W ((vs.take n).drop i) + (carry + borrow) * W ^ (u0 + i) = V W us + b' * W ^ (u0 + n + 1) ∧ ∀ p, p < u0 + i ∨ u0 + n + 1 ≤ p → us'[p]? = us[p]? := by
  intro e
  induction e with
  | zero =>
    intro i m carry borrow us hi hm hc hb hc0 hl hlb hd
    obtain ⟨m, rfl⟩ : ∃ q, m = q + 1 := ⟨m - 1, by omega⟩
    have : i = n + 1 := by omega
    subst this
    have hcz := hc0 rfl
    subst hcz
    refine ⟨us, borrow, ?_, hb, rfl, hd, ?_, fun _ _ => rfl⟩
    · show Lbig_take_zvq_0s k (Lbig_take_zvq_0 k m) _ _ _ _ _ _ _ _ _ _ = _
      unfold Lbig_take_zvq_0s
      simp (config := { implicitDefEqProofs := false, maxSteps := 2000000 }) (disch := omega) only [ps, ↓reduceIte, reduceCtorEq, Int.reduceLT, Int.reduceLE, Int.reduceEq, Nat.reduceLT, Nat.reduceLeDiff, Nat.reduceEqDiff, Int.reduceNeg, eitherK]
    · rw [List.drop_of_length_le (by rw [List.length_take]; omega), ← Nat.add_assoc]
      simp [V]
  | succ e ih =>
    intro i m carry borrow us hi hm hc hb hc0 hl hlb hd
    obtain ⟨m, rfl⟩ : ∃ q, m = q + 1 := ⟨m - 1, by omega⟩
    obtain ⟨u, hu⟩ := get_of (show u0 + i < us.length by omega)
    have hub := hd.get hu
    have h1 : ((i : Int) + 1) = ((i + 1 : Nat) : Int) := rfl
    unfold W at hub hc hdd
    -- what one round does, whatever is taken away
    have step : ∀ cur : Int, 0 ≤ cur → cur < 18446744073709551616 → (i = n → cur = carry) → ∀ (b1 w : Int), (0 ≤ b1 ∧ b1 ≤ 1) → (0 ≤ w ∧ w < 4294967296) → w = u - cur % 4294967296 - borrow + b1 * 4294967296 →
        (W ^ (u0 + i) * cur = carry * W ^ (u0 + i) + dd * W ^ (u0 + i) * (V W ((vs.take n).drop i) - W * V W ((vs.take n).drop (i + 1)))) →
        ∃ us' b', Lbig_take_zvq_0 k m u0 (n + 1) n dd (cur / 4294967296) b1 ((n + 1 : Nat) : Int) ((i + 1 : Nat) : Int) (us.set (u0 + i) w) vs = some (u0, n + 1, n, dd, b', us', vs) ∧ (0 ≤ b' ∧ b' ≤ 1) ∧ us'.length = us.length ∧ Dg W us' ∧
          V W us' + dd * W ^ (u0 + i) * V W ((vs.take n).drop i) + (carry + borrow) * W ^ (u0 + i) = V W us + b' * W ^ (u0 + n + 1) ∧ ∀ p, p < u0 + i ∨ u0 + n + 1 ≤ p → us'[p]? = us[p]? := by
      intro cur c0 c1 cn b1 w hb1 hw ew ecur
      have hdm := Int.emod_add_mul_ediv cur 4294967296
      obtain ⟨us', b', q1, q2, q3, q4, q5, q6⟩ := ih (i + 1) m (cur / 4294967296) b1 (us.set (u0 + i) w) (by omega) (by omega) (by unfold W; omega) hb1 (fun h => by
        have := cn (by omega)
        omega) (by simpa using hl) (by simpa using hlb) (hd.set _ (by unfold W; exact hw))
      refine ⟨us', b', q1, q2, by simpa using q3, q4, ?_, fun p hp => ?_⟩
      · rw [V_set _ hu, ← Nat.add_assoc u0 i 1, Int.pow_succ] at q5
        have hWW : W = 4294967296 := rfl
        generalize V W (List.drop i (List.take n vs)) = v0 at *
        generalize V W (List.drop (i + 1) (List.take n vs)) = v1 at *
        generalize W ^ (u0 + i) = P at *
        rw [hWW] at q5 ecur
        grind
      · rw [q6 p (by omega), List.getElem?_set_ne (by omega)]
    by_cases hin : i < n
    · obtain ⟨x, hx⟩ := get_of (show i < vs.length by omega)
      have hxb := hvs.get hx
      unfold W at hxb
      have hm2 := mul_bd hdd hxb
      have hx2 : (vs.take n)[i]? = some x := by rw [List.getElem?_take_of_lt hin]; exact hx
      have hal := and_low (x := carry + dd * x) (by omega)
      have hml := Int.emod_lt_of_pos (carry + dd * x) (show (0 : Int) < 4294967296 by decide)
      have hmn := Int.emod_nonneg (carry + dd * x) (show (4294967296 : Int) ≠ 0 by decide)
      have ec : W ^ (u0 + i) * (carry + dd * x) = carry * W ^ (u0 + i) + dd * W ^ (u0 + i) * (V W ((vs.take n).drop i) - W * V W ((vs.take n).drop (i + 1))) := by
        rw [V_drop hx2]
        grind
      by_cases hlt : u < (carry + dd * x) % 4294967296 + borrow
      · obtain ⟨us', b', q1, q2⟩ := step (carry + dd * x) (by omega) (by omega) (fun h => by omega) 1 ((u - ((carry + dd * x) % 4294967296 + borrow)) % 4294967296) (by omega) (by omega) (by omega) ec
        refine ⟨us', b', ?_, q2⟩
        rw [← q1]
        show Lbig_take_zvq_0s k (Lbig_take_zvq_0 k m) _ _ _ _ _ _ _ _ _ _ = _
        unfold Lbig_take_zvq_0s
        simp (config := { implicitDefEqProofs := false, maxSteps := 2000000 }) (disch := omega) only [ps, ↓reduceIte, reduceCtorEq, Int.reduceLT, Int.reduceLE, Int.reduceEq, Nat.reduceLT, Nat.reduceLeDiff, Nat.reduceEqDiff, Int.reduceNeg, eitherK, hx, hu, h1, hal, fdiv_pos, wrap_32_64]
      · obtain ⟨us', b', q1, q2⟩ := step (carry + dd * x) (by omega) (by omega) (fun h => by omega) 0 (u - ((carry + dd * x) % 4294967296 + borrow)) (by omega) (by omega) (by omega) ec
        refine ⟨us', b', ?_, q2⟩
        rw [← q1]
        show Lbig_take_zvq_0s k (Lbig_take_zvq_0 k m) _ _ _ _ _ _ _ _ _ _ = _
        unfold Lbig_take_zvq_0s
        simp (config := { implicitDefEqProofs := false, maxSteps := 2000000 }) (disch := omega) only [ps, ↓reduceIte, reduceCtorEq, Int.reduceLT, Int.reduceLE, Int.reduceEq, Nat.reduceLT, Nat.reduceLeDiff, Nat.reduceEqDiff, Int.reduceNeg, eitherK, hx, hu, h1, hal, fdiv_pos]
    · have hi2 : i = n := by omega
      have hal := and_low (x := carry) (by omega)
      have hml := Int.emod_lt_of_pos carry (show (0 : Int) < 4294967296 by decide)
      have hmn := Int.emod_nonneg carry (show (4294967296 : Int) ≠ 0 by decide)
      have ec : W ^ (u0 + i) * carry = carry * W ^ (u0 + i) + dd * W ^ (u0 + i) * (V W ((vs.take n).drop i) - W * V W ((vs.take n).drop (i + 1))) := by
        rw [List.drop_of_length_le (by rw [List.length_take]; omega), List.drop_of_length_le (by rw [List.length_take]; omega)]
        simp only [V]
        grind
      by_cases hlt : u < carry % 4294967296 + borrow
      · obtain ⟨us', b', q1, q2⟩ := step carry (by omega) (by omega) (fun h => rfl) 1 ((u - (carry % 4294967296 + borrow)) % 4294967296) (by omega) (by omega) (by omega) ec
        refine ⟨us', b', ?_, q2⟩
        rw [← q1]
        show Lbig_take_zvq_0s k (Lbig_take_zvq_0 k m) _ _ _ _ _ _ _ _ _ _ = _
        unfold Lbig_take_zvq_0s
        simp (config := { implicitDefEqProofs := false, maxSteps := 2000000 }) (disch := omega) only [ps, ↓reduceIte, reduceCtorEq, Int.reduceLT, Int.reduceLE, Int.reduceEq, Nat.reduceLT, Nat.reduceLeDiff, Nat.reduceEqDiff, Int.reduceNeg, eitherK, hu, h1, hal, fdiv_pos, wrap_32_64]
      · obtain ⟨us', b', q1, q2⟩ := step carry (by omega) (by omega) (fun h => rfl) 0 (u - (carry % 4294967296 + borrow)) (by omega) (by omega) (by omega) ec
        refine ⟨us', b', ?_, q2⟩
        rw [← q1]
        show Lbig_take_zvq_0s k (Lbig_take_zvq_0 k m) _ _ _ _ _ _ _ _ _ _ = _
        unfold Lbig_take_zvq_0s
        simp (config := { implicitDefEqProofs := false, maxSteps := 2000000 }) (disch := omega) only [ps, ↓reduceIte, reduceCtorEq, Int.reduceLT, Int.reduceLE, Int.reduceEq, Nat.reduceLT, Nat.reduceLeDiff, Nat.reduceEqDiff, Int.reduceNeg, eitherK, hu, h1, hal, fdiv_pos]
end Go.Proofs.YtlnailgfialgnaaGreatDoor.Am

/- Plain reckoning: long division, one digit's multiple taken away and given back. -/
set_option linter.unusedVariables false
set_option linter.unusedSimpArgs false
set_option maxRecDepth 10000
namespace Go.Proofs.YtlnailgfialgnaaGreatDoor.Am
open Go

theorem back_alg (P B a b s u carry v0 v1 Vu : Int) (hdm : a + B * b = s) (ecur : P * s = P * (u + carry) + P * (v0 - B * v1)) :
    Vu + P * (a - u) + P * B * v1 + b * (P * B) = Vu + P * v0 + carry * P := by
  subst hdm
  rw [Int.mul_add, Int.mul_add, Int.mul_sub] at ecur
  rw [Int.mul_sub]
  grind
theorem back_loop (k : Nat) (vs : List Int) (hvs : Dg W vs) (u0 n : Nat) (hnv : n ≤ vs.length) (dd : Int) :
    ∀ (e i m : Nat) (carry : Int) (us : List Int), i + e = n + 1 → e < m → (0 ≤ carry ∧ carry ≤ 1) → u0 + n + 1 ≤ us.length → us.length ≤ 1000000000 → Dg W us →
    ∃ us' c', Lbig_take_zvq_2 k m u0 (n + 1) n dd carry ((n + 1 : Nat) : Int) i us vs = some (dd, us', vs) ∧ (0 ≤ c' ∧ c' ≤ 1) ∧ us'.length = us.length ∧ Dg W us' ∧
      V W us' + c' * W ^ (u0 + n + 1) = V W us + W ^ (u0 + i) * V W ((vs.take n).drop i) + carry * W ^ (u0 + i) ∧ ∀ p, p < u0 + i ∨ u0 + n + 1 ≤ p → us'[p]? = us[p]? := by
  intro e
  induction e with
  | zero =>
    intro i m carry us hi hm hc hl hlb hd
    obtain ⟨m, rfl⟩ : ∃ q, m = q + 1 := ⟨m - 1, by omega⟩
    have : i = n + 1 := by omega
    subst this
    refine ⟨us, carry, ?_, hc, rfl, hd, ?_, fun _ _ => rfl⟩
    · show Lbig_take_zvq_2s k (Lbig_take_zvq_2 k m) _ _ _ _ _ _ _ _ _ = _
      unfold Lbig_take_zvq_2s
      simp (config := { implicitDefEqProofs := false, maxSteps := 2000000 }) (disch := omega) only [ps, ↓reduceIte, reduceCtorEq, Int.reduceLT, Int.reduceLE, Int.reduceEq, Nat.reduceLT, Nat.reduceLeDiff, Nat.reduceEqDiff, Int.reduceNeg, eitherK]
    · rw [List.drop_of_length_le (by rw [List.length_take]; omega), ← Nat.add_assoc]
      simp [V]
  | succ e ih =>
    intro i m carry us hi hm hc hl hlb hd
    obtain ⟨m, rfl⟩ : ∃ q, m = q + 1 := ⟨m - 1, by omega⟩
    obtain ⟨u, hu⟩ := get_of (show u0 + i < us.length by omega)
    have hub := hd.get hu
    have h1 : ((i : Int) + 1) = ((i + 1 : Nat) : Int) := rfl
    unfold W at hub
    have step : ∀ s : Int, 0 ≤ s → s < 8589934592 → (W ^ (u0 + i) * s = W ^ (u0 + i) * (u + carry) + W ^ (u0 + i) * (V W ((vs.take n).drop i) - W * V W ((vs.take n).drop (i + 1)))) →
        ∃ us' c', Lbig_take_zvq_2 k m u0 (n + 1) n dd (s / 4294967296) ((n + 1 : Nat) : Int) ((i + 1 : Nat) : Int) (us.set (u0 + i) (s % 4294967296)) vs = some (dd, us', vs) ∧ (0 ≤ c' ∧ c' ≤ 1) ∧ us'.length = us.length ∧ Dg W us' ∧
          V W us' + c' * W ^ (u0 + n + 1) = V W us + W ^ (u0 + i) * V W ((vs.take n).drop i) + carry * W ^ (u0 + i) ∧ ∀ p, p < u0 + i ∨ u0 + n + 1 ≤ p → us'[p]? = us[p]? := by
      intro s c0 c1 ecur
      have hdm := Int.emod_add_mul_ediv s 4294967296
      obtain ⟨us', b', q1, q2, q3, q4, q5, q6⟩ := ih (i + 1) m (s / 4294967296) (us.set (u0 + i) (s % 4294967296)) (by omega) (by omega) (by omega) (by simpa using hl) (by simpa using hlb) (hd.set _ (by unfold W; omega))
      refine ⟨us', b', q1, q2, by simpa using q3, q4, ?_, fun p hp => ?_⟩
      · rw [V_set _ hu, ← Nat.add_assoc u0 i 1, show W ^ (u0 + i + 1) = W ^ (u0 + i) * W from Int.pow_succ ..] at q5
        rw [q5]
        exact back_alg _ _ _ _ _ _ _ _ _ _ hdm ecur
      · rw [q6 p (by omega), List.getElem?_set_ne (by omega)]
    by_cases hin : i < n
    · obtain ⟨x, hx⟩ := get_of (show i < vs.length by omega)
      have hxb := hvs.get hx
      unfold W at hxb
      have hx2 : (vs.take n)[i]? = some x := by rw [List.getElem?_take_of_lt hin]; exact hx
      have ec : W ^ (u0 + i) * (u + carry + x) = W ^ (u0 + i) * (u + carry) + W ^ (u0 + i) * (V W ((vs.take n).drop i) - W * V W ((vs.take n).drop (i + 1))) := by
        rw [V_drop hx2, Int.add_sub_cancel, Int.mul_add]
      obtain ⟨us', b', q1, q2⟩ := step (u + carry + x) (by omega) (by omega) ec
      refine ⟨us', b', ?_, q2⟩
      rw [← q1]
      show Lbig_take_zvq_2s k (Lbig_take_zvq_2 k m) _ _ _ _ _ _ _ _ _ = _
      unfold Lbig_take_zvq_2s
      have ew : IntKind.u32.wrap (u + carry + x) = (u + carry + x) % 4294967296 := wrap_u32 _
      simp (config := { implicitDefEqProofs := false, maxSteps := 2000000 }) (disch := omega) only [↓ew, ps, ↓reduceIte, reduceCtorEq, Int.reduceLT, Int.reduceLE, Int.reduceEq, Nat.reduceLT, Nat.reduceLeDiff, Nat.reduceEqDiff, Int.reduceNeg, eitherK, hx, hu, h1, fdiv_pos, ew, wrap_32_64]
    · have ec : W ^ (u0 + i) * (u + carry) = W ^ (u0 + i) * (u + carry) + W ^ (u0 + i) * (V W ((vs.take n).drop i) - W * V W ((vs.take n).drop (i + 1))) := by
        rw [List.drop_of_length_le (by rw [List.length_take]; omega), List.drop_of_length_le (by rw [List.length_take]; omega)]
        simp [V]
      obtain ⟨us', b', q1, q2⟩ := step (u + carry) (by omega) (by omega) ec
      refine ⟨us', b', ?_, q2⟩
      rw [← q1]
      show Lbig_take_zvq_2s k (Lbig_take_zvq_2 k m) _ _ _ _ _ _ _ _ _ = _
      unfold Lbig_take_zvq_2s
      have ew : IntKind.u32.wrap (u + carry) = (u + carry) % 4294967296 := wrap_u32 _
      simp (config := { implicitDefEqProofs := false, maxSteps := 2000000 }) (disch := omega) only [ps, ↓reduceIte, reduceCtorEq, Int.reduceLT, Int.reduceLE, Int.reduceEq, Nat.reduceLT, Nat.reduceLeDiff, Nat.reduceEqDiff, Int.reduceNeg, eitherK, hu, h1, fdiv_pos, ew, wrap_32_64]
/-- A number with a window of its digits shown. -/
theorem V_win (l : List Int) (u0 n : Nat) (h : u0 + n ≤ l.length) : V W l = V W (l.take u0) + W ^ u0 * (V W ((l.drop u0).take n) + W ^ n * V W (l.drop (u0 + n))) := by
  rw [V_split l u0 (by omega), V_split (l.drop u0) n (by rw [List.length_drop]; omega), List.drop_drop]
theorem same_out {l m : List Int} {u0 n : Nat} (h : ∀ p, p < u0 ∨ u0 + n ≤ p → l[p]? = m[p]?) : l.take u0 = m.take u0 ∧ l.drop (u0 + n) = m.drop (u0 + n) := by
  constructor
  · refine List.ext_getElem? fun p => ?_
    by_cases hp : p < u0
    · rw [List.getElem?_take_of_lt hp, List.getElem?_take_of_lt hp]; exact h p (.inl hp)
    · rw [List.getElem?_eq_none (by rw [List.length_take]; omega), List.getElem?_eq_none (by rw [List.length_take]; omega)]
  · refine List.ext_getElem? fun p => ?_
    rw [List.getElem?_drop, List.getElem?_drop]
    exact h _ (.inr (by omega))
theorem win_eq {l m : List Int} {u0 n : Nat} (hl : u0 + n ≤ l.length) (hm : u0 + n ≤ m.length) (h : ∀ p, p < u0 ∨ u0 + n ≤ p → l[p]? = m[p]?) {x y : Int} (e : V W l + W ^ u0 * x = V W m + W ^ u0 * y) :
    V W ((l.drop u0).take n) + x = V W ((m.drop u0).take n) + y := by
  obtain ⟨h1, h2⟩ := same_out h
  rw [V_win l u0 n hl, V_win m u0 n hm, h1, h2] at e
  have hp : (0 : Int) < W ^ u0 := Int.pow_pos (by decide)
  generalize V W ((l.drop u0).take n) = a at *
  generalize V W ((m.drop u0).take n) = b at *
  generalize W ^ u0 = P at *
  have e2 : P * (a + x) = P * (b + y) := by grind
  exact Int.eq_of_mul_eq_mul_left (by omega) e2
end Go.Proofs.YtlnailgfialgnaaGreatDoor.Am

/- Plain reckoning: long division, one digit of the answer. -/
set_option linter.unusedVariables false
set_option linter.unusedSimpArgs false
set_option maxRecDepth 10000
namespace Go.Proofs.YtlnailgfialgnaaGreatDoor.Am
open Go

theorem alg1 {a b P Y d c X : Int} (h : a + d * P * Y + (0 + 0) * P = b + c * (P * X)) : a + P * (d * Y) = b + P * (c * X) := by
  have h1 : d * P * Y = P * (d * Y) := by rw [Int.mul_comm d P, Int.mul_assoc]
  have h2 : c * (P * X) = P * (c * X) := Int.mul_left_comm ..
  rw [h1, h2, Int.add_zero, Int.zero_mul] at h
  omega
theorem alg2 {a b P Y c X : Int} (h : a + c * (P * X) = b + P * Y + 0 * P) : a + P * (c * X) = b + P * Y := by
  have h2 : c * (P * X) = P * (c * X) := Int.mul_left_comm ..
  rw [h2, Int.zero_mul] at h
  omega
theorem alg3 {a b c P Y q X : Int} (h1 : a + P * ((q + 1) * Y) = b + P * (1 * X)) (h2 : c + P * (1 * X) = a + P * Y) : c + P * (q * Y) = b := by
  rw [Int.add_mul, Int.one_mul, Int.mul_add] at h1
  omega
theorem take_ev (us vs : List Int) (u0 n : Nat) (dd q : Int) (hvs : Dg W vs) (hd : Dg W us) (hnv : n ≤ vs.length) (hl : u0 + n + 1 ≤ us.length) (hlb : us.length ≤ 1000000000) (hdd : 0 ≤ dd ∧ dd < W) (hq0 : 0 ≤ q)
    (hq1 : q * V W (vs.take n) ≤ V W ((us.drop u0).take (n + 1))) (hq2 : V W ((us.drop u0).take (n + 1)) < (q + 1) * V W (vs.take n)) (hdq : dd = q ∨ dd = q + 1) :
    ∃ us', Rn (fun k => Fbig_take_zvq k u0 (n + 1) n dd us vs) (q, us', vs) ∧ us'.length = us.length ∧ Dg W us' ∧ V W us' + W ^ u0 * (q * V W (vs.take n)) = V W us ∧ ∀ p, p < u0 ∨ u0 + (n + 1) ≤ p → us'[p]? = us[p]? := by
  have hY := V_lt (B := W) (by decide) (hvs.take n)
  have hY0 := V_nonneg (B := W) (by decide) (hvs.take n)
  have hYl : (vs.take n).length = n := by rw [List.length_take]; omega
  rw [hYl] at hY
  have hP : (0 : Int) < W ^ u0 := Int.pow_pos (by decide)
  have hWn : (0 : Int) < W ^ n := Int.pow_pos (by decide)
  have hWn1 : W ^ (n + 1) = W ^ n * 4294967296 := Int.pow_succ ..
  have hpw : W ^ (u0 + n + 1) = W ^ u0 * W ^ (n + 1) := by rw [Nat.add_assoc, Int.pow_add]
  have main : ∀ k, n + 2 ≤ k → ∃ us', bbig_take_zvq k u0 (n + 1) n dd us vs = some (q, us', vs) ∧ us'.length = us.length ∧ Dg W us' ∧ V W us' + W ^ u0 * (q * V W (vs.take n)) = V W us ∧ ∀ p, p < u0 ∨ u0 + (n + 1) ≤ p → us'[p]? = us[p]? := by
    intro k hk
    obtain ⟨us1, b1, q1, hb1, l1, d1, e1, o1⟩ := msub_loop k vs hvs u0 n hnv dd hdd (n + 1) 0 k 0 0 us (by omega) (by omega) (by decide) (by decide) (by omega) hl hlb hd
    have q1' : Lbig_take_zvq_0 k k u0 (n + 1) n dd 0 0 ((n + 1 : Nat) : Int) 0 us vs = _ := q1
    have w1 := win_eq (l := us1) (m := us) (u0 := u0) (n := n + 1) (by omega) (by omega) (fun p hp => o1 p (by omega)) (x := dd * V W (vs.take n)) (y := b1 * W ^ (n + 1)) (by
      rw [hpw, Nat.add_zero, List.drop_zero] at e1
      exact alg1 e1)
    have t1 := V_nonneg (B := W) (by decide) ((d1.drop u0).take (n + 1))
    have t2 := V_lt (B := W) (by decide) ((d1.drop u0).take (n + 1))
    have t3 : ((us1.drop u0).take (n + 1)).length = n + 1 := by rw [List.length_take, List.length_drop]; omega
    rw [t3] at t2
    rw [Int.add_mul, Int.one_mul] at hq2
    rcases hdq with rfl | rfl
    · have hb0 : b1 = 0 := by
        rcases (by omega : b1 = 0 ∨ b1 = 1) with h | h
        · exact h
        · subst h
          rw [Int.one_mul] at w1
          omega
      subst hb0
      refine ⟨us1, ?_, l1, d1, ?_, fun p hp => o1 p (by omega)⟩
      · unfold bbig_take_zvq
        unfold W at hdd
        simp (config := { implicitDefEqProofs := false, maxSteps := 2000000 }) (disch := omega) only [ps, ↓reduceIte, reduceCtorEq, Int.reduceLT, Int.reduceLE, Int.reduceEq, Nat.reduceLT, Nat.reduceLeDiff, Nat.reduceEqDiff, Int.reduceNeg, eitherK, q1']
      · rw [hpw, Nat.add_zero, List.drop_zero] at e1
        have := alg1 e1
        rw [Int.zero_mul, Int.mul_zero, Int.add_zero] at this
        exact this
    · have hb0 : b1 = 1 := by
        rcases (by omega : b1 = 0 ∨ b1 = 1) with h | h
        · subst h
          rw [Int.zero_mul, Int.add_mul, Int.one_mul] at w1
          omega
        · exact h
      subst hb0
      obtain ⟨us2, c2, q2, hc2, l2, d2, e2, o2⟩ := back_loop k vs hvs u0 n hnv (q + 1) (n + 1) 0 k 0 us1 (by omega) (by omega) (by decide) (by omega) (by omega) d1
      have q2' : Lbig_take_zvq_2 k k u0 (n + 1) n (q + 1) 0 ((n + 1 : Nat) : Int) 0 us1 vs = _ := q2
      have w2 := win_eq (l := us2) (m := us1) (u0 := u0) (n := n + 1) (by omega) (by omega) (fun p hp => o2 p (by omega)) (x := c2 * W ^ (n + 1)) (y := V W (vs.take n)) (by
        rw [hpw, Nat.add_zero, List.drop_zero] at e2
        exact alg2 e2)
      have s1 := V_nonneg (B := W) (by decide) ((d2.drop u0).take (n + 1))
      have s2 := V_lt (B := W) (by decide) ((d2.drop u0).take (n + 1))
      have s3 : ((us2.drop u0).take (n + 1)).length = n + 1 := by rw [List.length_take, List.length_drop]; omega
      rw [s3] at s2
      rw [Int.add_mul, Int.one_mul, Int.one_mul] at w1
      have hc1 : c2 = 1 := by
        rcases (by omega : c2 = 0 ∨ c2 = 1) with h | h
        · subst h
          rw [Int.zero_mul] at w2
          omega
        · exact h
      subst hc1
      refine ⟨us2, ?_, by omega, d2, ?_, fun p hp => (o2 p (by omega)).trans (o1 p (by omega))⟩
      · unfold bbig_take_zvq
        unfold W at hdd
        have e0 : q + 1 - 1 = q := by omega
        simp (config := { implicitDefEqProofs := false, maxSteps := 2000000 }) (disch := omega) only [ps, ↓reduceIte, reduceCtorEq, Int.reduceLT, Int.reduceLE, Int.reduceEq, Nat.reduceLT, Nat.reduceLeDiff, Nat.reduceEqDiff, Int.reduceNeg, eitherK, q1', q2', e0]
      · rw [hpw, Nat.add_zero, List.drop_zero] at e1 e2
        exact alg3 (alg1 e1) (alg2 e2)
  obtain ⟨us', q1, q2, q3, q4, q5⟩ := main (n + 2) (by omega)
  refine ⟨us', ?_, q2, q3, q4, q5⟩
  refine Rn.up (f := fun k => Fbig_take_zvq k u0 (n + 1) n dd us vs) (Rn.eq (n + 2) fun k hk => ?_)
  obtain ⟨us2, r1, r2, r3, r4, r5⟩ := main k hk
  have : us2 = us' := Dg.ext r3 q3 (by omega) (by omega)
  subst this
  exact r1
end Go.Proofs.YtlnailgfialgnaaGreatDoor.Am

/- Plain reckoning: long division, the guess of a digit (the law alone). -/
set_option linter.unusedVariables false
set_option linter.unusedSimpArgs false
set_option maxRecDepth 10000
namespace Go.Proofs.YtlnailgfialgnaaGreatDoor.Am
open Go

/-- The guess is too big: one less is still enough. -/
theorem guess_down {T Y P v1 v2 y top u2 t d rest : Int} (hP : 0 < P) (hY : Y = (v1 * W + v2) * P + y) (hT : T = (top * W + u2) * P + t) (hy : 0 ≤ y) (ht : t < P)
    (hd : 0 ≤ d) (htop : d * v1 + rest = top) (h : rest * W + u2 < d * v2) : T < d * Y := by
  have h1 : (rest * W + u2 + 1) * P ≤ d * v2 * P := Int.mul_le_mul_of_nonneg_right (by omega) (by omega)
  have h2 : 0 ≤ d * y := Int.mul_nonneg hd hy
  have e1 : d * Y = d * v1 * W * P + d * v2 * P + d * y := by rw [hY]; grind
  have e2 : T = d * v1 * W * P + (rest * W + u2) * P + t := by rw [hT, ← htop]; grind
  rw [Int.add_mul, Int.one_mul] at h1
  omega
theorem guess_over {T Y P v1 v2 y top u2 t d rest : Int} (hP : 0 < P) (hY : Y = (v1 * W + v2) * P + y) (hT : T = (top * W + u2) * P + t) (hy : 0 ≤ y) (hyP : y < P) (ht : 0 ≤ t) (hv : 0 ≤ v2 ∧ v2 < W) (hu : 0 ≤ u2)
    (hd : 0 ≤ d ∧ d ≤ W) (htop : d * v1 + rest = top) (h : W ≤ rest) : d * Y ≤ T := by
  have e1 : d * Y = d * v1 * W * P + d * (v2 * P + y) := by rw [hY]; grind
  have e2 : T = d * v1 * W * P + rest * (W * P) + u2 * P + t := by rw [hT, ← htop]; grind
  have h0 : (v2 + 1) * P ≤ W * P := Int.mul_le_mul_of_nonneg_right (by omega) (by omega)
  rw [Int.add_mul, Int.one_mul] at h0
  have hWP : 0 ≤ W * P := Int.mul_nonneg (by decide) (by omega)
  have h1 : d * (v2 * P + y) ≤ d * (W * P) := Int.mul_le_mul_of_nonneg_left (by omega) hd.1
  have h2 : d * (W * P) ≤ rest * (W * P) := Int.mul_le_mul_of_nonneg_right (by omega) hWP
  have h3 : 0 ≤ u2 * P := Int.mul_nonneg hu (by omega)
  omega
theorem guess_stop {T Y P v1 v2 y top u2 t d rest : Int} (hP : 0 < P) (hY : Y = (v1 * W + v2) * P + y) (hT : T = (top * W + u2) * P + t) (hy : 0 ≤ y) (hyP : y < P) (ht : 0 ≤ t) (hv : 0 ≤ v2) (hv1 : 1 ≤ v1)
    (hd : 0 ≤ d ∧ d ≤ W) (htop : d * v1 + rest = top) (h : d * v2 ≤ rest * W + u2) : (d - 1) * Y ≤ T := by
  have e1 : d * Y = d * v1 * W * P + d * v2 * P + d * y := by rw [hY]; grind
  have e2 : T = d * v1 * W * P + (rest * W + u2) * P + t := by rw [hT, ← htop]; grind
  have h1 : d * v2 * P ≤ (rest * W + u2) * P := Int.mul_le_mul_of_nonneg_right h (by omega)
  have h2 : d * y ≤ W * y := Int.mul_le_mul_of_nonneg_right hd.2 hy
  have h3 : W * y ≤ W * P := Int.mul_le_mul_of_nonneg_left (by omega) (by decide)
  have h4 : 1 * (W * P) ≤ v1 * (W * P) := Int.mul_le_mul_of_nonneg_right hv1 (Int.mul_nonneg (by decide) (by omega))
  have h5 : 0 ≤ v2 * P := Int.mul_nonneg hv (by omega)
  have e3 : Y = v1 * (W * P) + v2 * P + y := by rw [hY]; grind
  rw [Int.sub_mul, Int.one_mul]
  omega
end Go.Proofs.YtlnailgfialgnaaGreatDoor.Am

/- Plain reckoning: long division, the guess of a digit. -/
set_option linter.unusedVariables false
set_option linter.unusedSimpArgs false
set_option maxRecDepth 10000
namespace Go.Proofs.YtlnailgfialgnaaGreatDoor.Am
open Go

theorem guess_loop (q u v j n : Nat) (bits : Int) (qs us vs : List Int) {T Y P v1 v2 y top u2 t : Int} (hP : 0 < P) (hY : Y = (v1 * W + v2) * P + y) (hT : T = (top * W + u2) * P + t) (hy : 0 ≤ y ∧ y < P) (ht : 0 ≤ t ∧ t < P)
    (hv1 : 2147483648 ≤ v1 ∧ v1 < W) (hv2 : 0 ≤ v2 ∧ v2 < W) (hu2 : 0 ≤ u2 ∧ u2 < W) (hTY : T < W * Y) (htb : top < v1 * W + W) (hn : 2 ≤ n) (hnv : n ≤ v) (hju : j + n ≤ u) (hub : u ≤ 1000000000)
    (g1 : vs[n - 1]? = some v1) (g2 : vs[n - 2]? = some v2) (g3 : us[j + n - 2]? = some u2) :
    ∀ (r : Nat) (d rest : Int), W ≤ rest + r * 2147483648 → (0 ≤ d ∧ d ≤ W + 1) → (0 ≤ rest ∧ rest < W) → d * v1 + rest = top → T < (d + 1) * Y →
    ∃ d', (∀ k m, r < m → Lbig_long_4 k m q bits (n : Int) u v (j : Int) d rest qs us vs = some (q, bits, (n : Int), u, v, (j : Int), d', qs, us, vs)) ∧ (0 ≤ d' ∧ d' < W) ∧ T < (d' + 1) * Y ∧ (d' - 1) * Y ≤ T := by
  have i1 : ((n : Int) - 1) = ((n - 1 : Nat) : Int) := by omega
  have i2 : ((n : Int) - 2) = ((n - 2 : Nat) : Int) := by omega
  have i3 : ((j : Int) + (n : Int) - 2) = ((j + n - 2 : Nat) : Int) := by omega
  have hWW : W = 4294967296 := rfl
  intro r
  induction r with
  | zero => intro d rest hr hd hrest; omega
  | succ r ih =>
    intro d rest hr hd hrest htop hq
    have down : T < d * Y → (∃ d', (∀ k m, r < m → Lbig_long_4 k m q bits (n : Int) u v (j : Int) (d - 1) (rest + v1) qs us vs = some (q, bits, (n : Int), u, v, (j : Int), d', qs, us, vs)) ∧ ((0 ≤ d' ∧ d' < W) ∧ T < (d' + 1) * Y ∧ (d' - 1) * Y ≤ T)) ∧ rest + v1 < W ∨ W ≤ rest + v1 := by
      intro h
      by_cases hw : W ≤ rest + v1
      · exact .inr hw
      · have hd0 : d ≠ 0 := by
          rintro rfl
          have h1 : 0 ≤ (top * W + u2) * P := Int.mul_nonneg (Int.add_nonneg (Int.mul_nonneg (by omega) (by omega)) hu2.1) (by omega)
          omega
        exact .inl ⟨ih (d - 1) (rest + v1) (by omega) (by omega) (by omega) (by rw [Int.sub_mul]; omega) (by rw [Int.sub_add_cancel]; exact h), by omega⟩
    have hPW : 0 ≤ W * P := Int.mul_nonneg (by decide) (by omega)
    have hY0 : 0 ≤ Y := by
      have : 0 ≤ (v1 * W + v2) * P := Int.mul_nonneg (Int.add_nonneg (Int.mul_nonneg (by omega) (by decide)) hv2.1) (by omega)
      omega
    have out : T < d * Y → W ≤ rest + v1 → d ≤ W + 1 → (0 ≤ d - 1 ∧ d - 1 < W) ∧ T < (d - 1 + 1) * Y ∧ (d - 1 - 1) * Y ≤ T := by
      intro h1 h2 _
      have hd0 : d ≠ 0 := by
        rintro rfl
        have h1 : 0 ≤ (top * W + u2) * P := Int.mul_nonneg (Int.add_nonneg (Int.mul_nonneg (by omega) (by omega)) hu2.1) (by omega)
        omega
      have hdl : d ≠ W + 1 := by
        rintro rfl
        rw [Int.add_mul, Int.one_mul, Int.mul_comm W v1] at htop
        omega
      have := guess_over hP hY hT hy.1 hy.2 ht.1 hv2 hu2.1 (d := d - 1) (rest := rest + v1) (by omega) (by rw [Int.sub_mul]; omega) h2
      refine ⟨by omega, by rw [Int.sub_add_cancel]; exact h1, ?_⟩
      rw [Int.sub_mul (d - 1)]
      omega
    unfold W at hv1 hv2 hu2 hd hrest
    by_cases hdW : d ≤ 4294967295
    · have hm2 := mul_bd (x := d) (y := v2) (by omega) hv2
      have hor := or_add (x := rest) (y := u2) hrest hu2
      by_cases ht2 : rest * 4294967296 + u2 < d * v2
      · have hdn := guess_down hP hY hT hy.1 ht.2 hd.1 htop ht2
        rcases down hdn with ⟨⟨d', q1, q2⟩, hw⟩ | hw
        · refine ⟨d', fun k m hm => ?_, q2⟩
          have hd0 : d ≠ 0 := by
            rintro rfl
            rw [Int.zero_mul] at ht2
            omega
          unfold W at hw
          obtain ⟨m, rfl⟩ : ∃ q, m = q + 1 := ⟨m - 1, by omega⟩
          rw [← q1 k m (by omega)]
          show Lbig_long_4s k (Lbig_long_4 k m) _ _ _ _ _ _ _ _ _ _ _ = _
          unfold Lbig_long_4s
          simp (config := { implicitDefEqProofs := false, maxSteps := 2000000 }) (disch := omega) only [ps, ↓reduceIte, reduceCtorEq, Int.reduceLT, Int.reduceLE, Int.reduceEq, Nat.reduceLT, Nat.reduceLeDiff, Nat.reduceEqDiff, Int.reduceNeg, eitherK, i1, i2, i3, g1, g2, g3, hor]
        · refine ⟨d - 1, fun k m hm => ?_, out hdn hw (by unfold W; omega)⟩
          unfold W at hw
          have hd0 : d ≠ 0 := by
            rintro rfl
            rw [Int.zero_mul] at ht2
            omega
          obtain ⟨m, rfl⟩ : ∃ q, m = q + 1 := ⟨m - 1, by omega⟩
          show Lbig_long_4s k (Lbig_long_4 k m) _ _ _ _ _ _ _ _ _ _ _ = _
          unfold Lbig_long_4s
          simp (config := { implicitDefEqProofs := false, maxSteps := 2000000 }) (disch := omega) only [ps, ↓reduceIte, reduceCtorEq, Int.reduceLT, Int.reduceLE, Int.reduceEq, Nat.reduceLT, Nat.reduceLeDiff, Nat.reduceEqDiff, Int.reduceNeg, eitherK, i1, i2, i3, g1, g2, g3, hor]
      · refine ⟨d, fun k m hm => ?_, ⟨hd.1, by unfold W; omega⟩, hq, guess_stop hP hY hT hy.1 hy.2 ht.1 hv2.1 (by omega) ⟨hd.1, by unfold W; omega⟩ htop (by rw [hWW]; omega)⟩
        obtain ⟨m, rfl⟩ : ∃ q, m = q + 1 := ⟨m - 1, by omega⟩
        show Lbig_long_4s k (Lbig_long_4 k m) _ _ _ _ _ _ _ _ _ _ _ = _
        unfold Lbig_long_4s
        simp (config := { implicitDefEqProofs := false, maxSteps := 2000000 }) (disch := omega) only [ps, ↓reduceIte, reduceCtorEq, Int.reduceLT, Int.reduceLE, Int.reduceEq, Nat.reduceLT, Nat.reduceLeDiff, Nat.reduceEqDiff, Int.reduceNeg, eitherK, i1, i2, i3, g1, g2, g3, hor]
    · have hdn : T < d * Y := by
        have := Int.mul_le_mul_of_nonneg_right (show W ≤ d by unfold W; omega) hY0
        omega
      rcases down hdn with ⟨⟨d', q1, q2⟩, hw⟩ | hw
      · refine ⟨d', fun k m hm => ?_, q2⟩
        unfold W at hw
        obtain ⟨m, rfl⟩ : ∃ q, m = q + 1 := ⟨m - 1, by omega⟩
        rw [← q1 k m (by omega)]
        show Lbig_long_4s k (Lbig_long_4 k m) _ _ _ _ _ _ _ _ _ _ _ = _
        unfold Lbig_long_4s
        simp (config := { implicitDefEqProofs := false, maxSteps := 2000000 }) (disch := omega) only [ps, ↓reduceIte, reduceCtorEq, Int.reduceLT, Int.reduceLE, Int.reduceEq, Nat.reduceLT, Nat.reduceLeDiff, Nat.reduceEqDiff, Int.reduceNeg, eitherK, i1, i2, i3, g1, g2, g3]
      · refine ⟨d - 1, fun k m hm => ?_, out hdn hw (by unfold W; omega)⟩
        unfold W at hw
        obtain ⟨m, rfl⟩ : ∃ q, m = q + 1 := ⟨m - 1, by omega⟩
        show Lbig_long_4s k (Lbig_long_4 k m) _ _ _ _ _ _ _ _ _ _ _ = _
        unfold Lbig_long_4s
        simp (config := { implicitDefEqProofs := false, maxSteps := 2000000 }) (disch := omega) only [ps, ↓reduceIte, reduceCtorEq, Int.reduceLT, Int.reduceLE, Int.reduceEq, Nat.reduceLT, Nat.reduceLeDiff, Nat.reduceEqDiff, Int.reduceNeg, eitherK, i1, i2, i3, g1, g2, g3]
end Go.Proofs.YtlnailgfialgnaaGreatDoor.Am

/- Plain reckoning: long division, the main loop. -/
set_option linter.unusedVariables false
set_option linter.unusedSimpArgs false
set_option maxRecDepth 10000
namespace Go.Proofs.YtlnailgfialgnaaGreatDoor.Am
open Go

/-- The last two digits of a row of digits, shown. -/
theorem V_top2 {l : List Int} {n : Nat} {a b : Int} (hl : l.length = n + 2) (ha : l[n]? = some a) (hb : l[n + 1]? = some b) : V W l = (b * W + a) * W ^ n + V W (l.take n) := by
  rw [V_split l n (by omega), V_drop ha, V_drop hb, List.drop_of_length_le (by omega)]
  simp only [V]
  grind
/-- A quotient's digit lies between. -/
theorem digit_of {T Y d : Int} (hY : 0 < Y) (h1 : T < (d + 1) * Y) (h2 : (d - 1) * Y ≤ T) : d = T / Y ∨ d = T / Y + 1 := by
  have a := Int.emod_add_mul_ediv T Y
  have b := Int.emod_nonneg T (show Y ≠ 0 by omega)
  have c := Int.emod_lt_of_pos T hY
  have h3 : T / Y < d + 1 := by
    rcases Int.lt_or_le (T / Y) (d + 1) with h | h
    · exact h
    · have := Int.mul_le_mul_of_nonneg_right h (show 0 ≤ Y by omega)
      rw [Int.mul_comm (T / Y)] at this
      omega
  have h4 : d - 1 < T / Y + 1 := by
    rcases Int.lt_or_le (d - 1) (T / Y + 1) with h | h
    · exact h
    · have := Int.mul_le_mul_of_nonneg_right h (show 0 ≤ Y by omega)
      rw [Int.add_mul, Int.mul_comm (T / Y), Int.one_mul] at this
      omega
  omega
end Go.Proofs.YtlnailgfialgnaaGreatDoor.Am

/- Plain reckoning: long division, the main loop. -/
set_option linter.unusedVariables false
set_option linter.unusedSimpArgs false
set_option maxRecDepth 10000
namespace Go.Proofs.YtlnailgfialgnaaGreatDoor.Am
open Go

/-- The facts of one round: the window's worth, the guess's grounds, and what is left after it. -/
theorem round_law (us vs : List Int) (n i : Nat) (hn : 2 ≤ n) (hnv : n ≤ vs.length) (dv : Dg W vs) (du : Dg W us) (hi : i + n + 1 ≤ us.length) (hlt : V W us < V W (vs.take n) * W ^ (i + 1))
    {v1 v2 u2 x1 x0 : Int} (g1 : vs[n - 1]? = some v1) (g2 : vs[n - 2]? = some v2) (g3 : us[i + n - 2]? = some u2) (g4 : us[i + n - 1]? = some x1) (g5 : us[i + n]? = some x0) :
    ∃ P y t, 0 < P ∧ V W (vs.take n) = (v1 * W + v2) * P + y ∧ V W ((us.drop i).take (n + 1)) = ((x0 * W + x1) * W + u2) * P + t ∧ (0 ≤ y ∧ y < P) ∧ (0 ≤ t ∧ t < P) ∧
      V W ((us.drop i).take (n + 1)) < W * V W (vs.take n) ∧ x0 * W + x1 < v1 * W + W ∧
      (∀ us' q, us'.length = us.length → Dg W us' → V W us' + W ^ i * (q * V W (vs.take n)) = V W us → (∀ p, p < i ∨ i + (n + 1) ≤ p → us'[p]? = us[p]?) → V W ((us.drop i).take (n + 1)) < (q + 1) * V W (vs.take n) → V W us' < V W (vs.take n) * W ^ i) := by
  have hP : (0 : Int) < W ^ (n - 2) := Int.pow_pos (by decide)
  have hPi : (0 : Int) < W ^ i := Int.pow_pos (by decide)
  have lv : (vs.take n).length = n := by rw [List.length_take]; omega
  have lw : ((us.drop i).take (n + 1)).length = n + 1 := by rw [List.length_take, List.length_drop]; omega
  have gv2 : (vs.take n)[n - 2]? = some v2 := by rw [List.getElem?_take_of_lt (by omega)]; exact g2
  have gv1 : (vs.take n)[n - 2 + 1]? = some v1 := by rw [List.getElem?_take_of_lt (by omega), show n - 2 + 1 = n - 1 by omega]; exact g1
  have hY := V_top2 (l := vs.take n) (n := n - 2) (by omega) gv2 gv1
  have gw : ∀ p, p < n + 1 → ((us.drop i).take (n + 1))[p]? = us[i + p]? := fun p hp => by rw [List.getElem?_take_of_lt hp, List.getElem?_drop]
  have w2 : ((us.drop i).take (n + 1))[n - 2]? = some u2 := by rw [gw _ (by omega), show i + (n - 2) = i + n - 2 by omega]; exact g3
  have w1 : ((us.drop i).take (n + 1))[n - 2 + 1]? = some x1 := by rw [gw _ (by omega), show i + (n - 2 + 1) = i + n - 1 by omega]; exact g4
  have w0 : ((us.drop i).take (n + 1))[n - 2 + 1 + 1]? = some x0 := by rw [gw _ (by omega), show i + (n - 2 + 1 + 1) = i + n by omega]; exact g5
  have hT : V W ((us.drop i).take (n + 1)) = ((x0 * W + x1) * W + u2) * W ^ (n - 2) + V W (((us.drop i).take (n + 1)).take (n - 2)) := by
    rw [V_split ((us.drop i).take (n + 1)) (n - 2) (by omega), V_drop w2, V_drop w1, V_drop w0, List.drop_of_length_le (show ((us.drop i).take (n + 1)).length ≤ n - 2 + 1 + 1 + 1 by omega)]
    simp only [V]
    grind
  have dw : Dg W ((us.drop i).take (n + 1)) := (du.drop i).take _
  have y0 := V_nonneg (B := W) (by decide) ((dv.take n).take (n - 2))
  have y1 := V_lt (B := W) (by decide) ((dv.take n).take (n - 2))
  have t0 := V_nonneg (B := W) (by decide) (dw.take (n - 2))
  have t1 := V_lt (B := W) (by decide) (dw.take (n - 2))
  rw [List.length_take, lv, Nat.min_eq_left (by omega)] at y1
  rw [List.length_take, lw, Nat.min_eq_left (by omega)] at t1
  have hY1 := V_lt (B := W) (by decide) (dv.take n)
  rw [lv] at hY1
  have hY0 := V_nonneg (B := W) (by decide) (dv.take n)
  have T0 := V_nonneg (B := W) (by decide) dw
  have hwin := V_win us i (n + 1) (by omega)
  have lo0 := V_nonneg (B := W) (by decide) (du.take i)
  have lo1 := V_lt (B := W) (by decide) (du.take i)
  rw [List.length_take, Nat.min_eq_left (by omega)] at lo1
  have hi0 := V_nonneg (B := W) (by decide) (du.drop (i + (n + 1)))
  have hpi : W ^ (i + 1) = W ^ i * W := Int.pow_succ ..
  have hpn : W ^ (n + 1) = W ^ n * W := Int.pow_succ ..
  have hPn : (0 : Int) < W ^ n := Int.pow_pos (by decide)
  generalize hYY : V W (vs.take n) = Y at *
  generalize hTT : V W ((us.drop i).take (n + 1)) = T at *
  generalize hhi : V W (us.drop (i + (n + 1))) = hi at *
  have hin : T + W ^ (n + 1) * hi < W * Y := by
    have h1 : W ^ i * (T + W ^ (n + 1) * hi) < W ^ i * (W * Y) := by
      rw [hpi, Int.mul_comm Y, Int.mul_assoc] at hlt
      omega
    exact Int.lt_of_mul_lt_mul_left h1 (by omega)
  have hh0 : hi = 0 := by
    rcases (by omega : hi = 0 ∨ 1 ≤ hi) with h | h
    · exact h
    · have h1 : W ^ (n + 1) * 1 ≤ W ^ (n + 1) * hi := Int.mul_le_mul_of_nonneg_left h (by rw [hpn]; exact Int.mul_nonneg (by omega) (by decide))
      have h2 : Y * W < W ^ n * W := Int.mul_lt_mul_of_pos_right hY1 (by decide)
      rw [Int.mul_comm Y] at h2
      omega
  subst hh0
  rw [Int.mul_zero, Int.add_zero] at hin hwin
  refine ⟨W ^ (n - 2), _, _, hP, hY, hT, ⟨y0, y1⟩, ⟨t0, t1⟩, hin, ?_, ?_⟩
  · have b2 := dv.get g2
    have b3 := du.get g3
    have h1 : (v1 * W + v2 + 1) * W ^ (n - 2) = (v1 * W + v2) * W ^ (n - 2) + W ^ (n - 2) := by rw [Int.add_mul, Int.one_mul]
    have h2 : Y ≤ (v1 * W + v2 + 1) * W ^ (n - 2) := by omega
    have h3 : W * Y ≤ W * ((v1 * W + v2 + 1) * W ^ (n - 2)) := Int.mul_le_mul_of_nonneg_left h2 (by decide)
    have h4 : 0 ≤ u2 * W ^ (n - 2) := Int.mul_nonneg b3.1 (by omega)
    have h5 : (W * W ^ (n - 2)) * (x0 * W + x1) < (W * W ^ (n - 2)) * (v1 * W + v2 + 1) := by
      have e1 : ((x0 * W + x1) * W + u2) * W ^ (n - 2) = (W * W ^ (n - 2)) * (x0 * W + x1) + u2 * W ^ (n - 2) := by grind
      have e2 : W * ((v1 * W + v2 + 1) * W ^ (n - 2)) = (W * W ^ (n - 2)) * (v1 * W + v2 + 1) := by grind
      omega
    have := Int.lt_of_mul_lt_mul_left h5 (Int.mul_nonneg (by decide) (by omega))
    omega
  · intro us' q hl' d' e' ho hq
    have hw := win_eq (l := us') (m := us) (u0 := i) (n := n + 1) (by omega) (by omega) ho (x := q * Y) (y := 0) (by rw [Int.mul_zero, Int.add_zero]; exact e')
    rw [hTT, Int.add_zero] at hw
    have hwin' := V_win us' i (n + 1) (by omega)
    obtain ⟨s1, s2⟩ := same_out ho
    rw [s1, s2, hhi, Int.mul_zero, Int.add_zero] at hwin'
    rw [Int.add_mul, Int.one_mul] at hq
    have h1 : W ^ i * (V W ((us'.drop i).take (n + 1)) + 1) ≤ W ^ i * Y := Int.mul_le_mul_of_nonneg_left (by omega) (by omega)
    rw [Int.mul_add, Int.mul_one] at h1
    rw [Int.mul_comm Y]
    omega
end Go.Proofs.YtlnailgfialgnaaGreatDoor.Am

/- Plain reckoning: long division, the main loop. -/
set_option linter.unusedVariables false
set_option linter.unusedSimpArgs false
set_option maxRecDepth 10000
namespace Go.Proofs.YtlnailgfialgnaaGreatDoor.Am
open Go

theorem main_alg {a b Pj Y d q0 Vq A : Int} (h : a + Pj * (d * Y) = b) (e : b + Y * (Pj * W) * Vq = A) : a + Y * Pj * (d + W * Vq) = A := by
  subst e; rw [← h]; grind
set_option maxHeartbeats 1000000 in
theorem main_loop (vs : List Int) (n : Nat) (bits : Int) (hn : 2 ≤ n) (hvl : n ≤ vs.length) (dv : Dg W vs) {v1 v2 : Int} (g1 : vs[n - 1]? = some v1) (g2 : vs[n - 2]? = some v2) (hv1 : 2147483648 ≤ v1) (q u : Nat) (hub : u ≤ 1000000000) (A : Int) :
    ∀ (e : Nat) (qs us : List Int), e + n ≤ u → us.length = u → qs.length = q → e ≤ q → Dg W us → Dg W qs → V W us < V W (vs.take n) * W ^ e → V W us + V W (vs.take n) * W ^ e * V W (qs.drop e) = A →
    ∃ qs' us', (∃ K, ∀ k m, K ≤ k → e < m → Lbig_long_2 k m q bits (n : Int) u n ((e : Int) - 1) qs us vs = some (q, bits, (n : Int), u, qs', us', vs)) ∧ qs'.length = q ∧ us'.length = u ∧ Dg W qs' ∧ Dg W us' ∧
      V W us' < V W (vs.take n) ∧ V W us' + V W (vs.take n) * V W qs' = A := by
  intro e
  induction e with
  | zero =>
    intro qs us he hul hql heq du dq hlt hA
    refine ⟨qs, us, ⟨0, fun k m hk hm => ?_⟩, hql, hul, dq, du, by simpa using hlt, by simpa using hA⟩
    obtain ⟨m, rfl⟩ : ∃ q, m = q + 1 := ⟨m - 1, by omega⟩
    show Lbig_long_2s k (Lbig_long_2 k m) _ _ _ _ _ _ _ _ _ = _
    unfold Lbig_long_2s
    simp (config := { implicitDefEqProofs := false, maxSteps := 2000000 }) (disch := omega) only [ps, ↓reduceIte, reduceCtorEq, Int.reduceLT, Int.reduceLE, Int.reduceEq, Nat.reduceLT, Nat.reduceLeDiff, Nat.reduceEqDiff, Int.reduceNeg, eitherK, Int.zero_sub, Int.natCast_zero]
  | succ j ih =>
    intro qs us he hul hql heq du dq hlt hA
    obtain ⟨u2, g3⟩ := get_of (show j + n - 2 < us.length by omega)
    obtain ⟨x1, g4⟩ := get_of (show j + n - 1 < us.length by omega)
    obtain ⟨x0, g5⟩ := get_of (show j + n < us.length by omega)
    obtain ⟨P, y, t, hP, hY, hT, hy, ht, hTY, htb, hend⟩ := round_law us vs n j hn hvl dv du (by omega) hlt g1 g2 g3 g4 g5
    have b1 := dv.get g1
    have b2 := dv.get g2
    have b3 := du.get g3
    have b4 := du.get g4
    have b5 := du.get g5
    have hY0 : 0 < V W (vs.take n) := by
      rw [hY]
      have : 0 < (v1 * W + v2) * P := Int.mul_pos (by unfold W; omega) hP
      omega
    have hT0 := V_nonneg (B := W) (by decide) ((du.drop j).take (n + 1))
    obtain ⟨d0, hd0⟩ : ∃ d0, (x0 * W + x1) / v1 = d0 := ⟨_, rfl⟩
    obtain ⟨r0, hr0⟩ : ∃ r0, (x0 * W + x1) % v1 = r0 := ⟨_, rfl⟩
    have hdm := Int.emod_add_mul_ediv (x0 * W + x1) v1
    have hm0 := Int.emod_nonneg (x0 * W + x1) (show v1 ≠ 0 by omega)
    have hm1 := Int.emod_lt_of_pos (x0 * W + x1) (show 0 < v1 by omega)
    rw [hr0, hd0] at hdm
    rw [hr0] at hm0 hm1
    have htop0 : 0 ≤ x0 * W + x1 := by unfold W at *; omega
    have hd00 : 0 ≤ d0 := by rw [← hd0]; exact Int.ediv_nonneg htop0 (by omega)
    have hd01 : d0 ≤ W + 1 := by
      have h1 : d0 < W + 2 := by
        rw [← hd0]
        refine Int.ediv_lt_of_lt_mul (by omega) ?_
        rw [Int.add_mul, Int.mul_comm W v1]
        unfold W at *
        omega
      omega
    have hTd : V W ((us.drop j).take (n + 1)) < (d0 + 1) * V W (vs.take n) := by
      have h1 : (x0 * W + x1 + 1) ≤ (d0 + 1) * v1 := by rw [Int.add_mul, Int.one_mul, Int.mul_comm d0]; omega
      have h2 : (x0 * W + x1 + 1) * (W * P) ≤ (d0 + 1) * v1 * (W * P) := Int.mul_le_mul_of_nonneg_right h1 (Int.mul_nonneg (by decide) (by omega))
      have h3 : (u2 + 1) * P ≤ W * P := Int.mul_le_mul_of_nonneg_right (by omega) (by omega)
      have h4 : 0 ≤ (d0 + 1) * (v2 * P + y) := Int.mul_nonneg (by omega) (Int.add_nonneg (Int.mul_nonneg (by omega) (by omega)) hy.1)
      rw [hY, hT]
      have e1 : (d0 + 1) * ((v1 * W + v2) * P + y) = (d0 + 1) * v1 * (W * P) + (d0 + 1) * (v2 * P + y) := by grind
      have e2 : ((x0 * W + x1) * W + u2) * P + t = (x0 * W + x1 + 1) * (W * P) - W * P + u2 * P + t := by grind
      have e3 : (u2 + 1) * P = u2 * P + P := by grind
      omega
    obtain ⟨d', hg, hd', hq1, hq2⟩ := guess_loop q u n j n bits qs us vs hP hY hT hy ht ⟨hv1, b1.2⟩ b2 b3 hTY htb hn (Nat.le_refl n) (by omega) hub g1 g2 g3 2 d0 r0 (by unfold W; omega) ⟨hd00, hd01⟩ ⟨hm0, by omega⟩ (by rw [Int.mul_comm]; omega) hTd
    have hdig := digit_of hY0 hq1 hq2
    have q0 : 0 ≤ V W ((us.drop j).take (n + 1)) / V W (vs.take n) := Int.ediv_nonneg hT0 (by omega)
    have qm := Int.emod_add_mul_ediv (V W ((us.drop j).take (n + 1))) (V W (vs.take n))
    have qa := Int.emod_nonneg (V W ((us.drop j).take (n + 1))) (show V W (vs.take n) ≠ 0 by omega)
    have qb := Int.emod_lt_of_pos (V W ((us.drop j).take (n + 1))) hY0
    have ql : V W ((us.drop j).take (n + 1)) / V W (vs.take n) < W := Int.ediv_lt_of_lt_mul hY0 hTY
    obtain ⟨dq0, hdq0⟩ : ∃ x, V W ((us.drop j).take (n + 1)) / V W (vs.take n) = x := ⟨_, rfl⟩
    rw [hdq0] at hdig q0 qm ql
    rw [Int.mul_comm] at qm
    have hq4 : V W ((us.drop j).take (n + 1)) < (dq0 + 1) * V W (vs.take n) := by rw [Int.add_mul, Int.one_mul]; omega
    obtain ⟨us', ⟨K, ht'⟩, l', du', e', o'⟩ := take_ev us vs j n d' dq0 dv du hvl (by omega) (by omega) hd' q0 (by omega) hq4 hdig
    have hfin := hend us' dq0 l' du' e' o' hq4
    obtain ⟨xq, gq⟩ := get_of (show j < qs.length by omega)
    have hdrop : (qs.set j dq0).drop j = dq0 :: qs.drop (j + 1) := by
      rw [List.drop_eq_getElem_cons (by simp; omega)]
      simp [List.drop_set_of_lt]
    obtain ⟨qs'', us'', ⟨K2, hr⟩, r1, r2, r3, r4, r5, r6⟩ := ih (qs.set j dq0) us' (by omega) (by omega) (by simpa using hql) (by omega) du' (dq.set j ⟨q0, ql⟩) hfin (by
      rw [hdrop]
      simp only [V]
      rw [show W ^ (j + 1) = W ^ j * W from Int.pow_succ ..] at hA
      exact main_alg (q0 := 0) e' hA)
    refine ⟨qs'', us'', ⟨max K K2 + 3, fun k m hk hm => ?_⟩, r1, r2, r3, r4, r5, r6⟩
    obtain ⟨m, rfl⟩ : ∃ q, m = q + 1 := ⟨m - 1, by omega⟩
    rw [← hr k m (by omega) (by omega)]
    have hg' := hg k k (by omega)
    have ht2 := ht' k (by omega)
    unfold W at b1 b2 b3 b4 b5 hd'
    have hor := or_add (x := x0) (y := x1) b5 b4
    have hjj : ((j + 1 : Nat) : Int) - 1 = (j : Int) := by omega
    have i1 : ((n : Int) - 1) = ((n - 1 : Nat) : Int) := by omega
    have i4 : ((j : Int) + (n : Int)) = ((j + n : Nat) : Int) := by omega
    have i5 : (((j + n : Nat) : Int) - 1) = ((j + n - 1 : Nat) : Int) := by omega
    have i6 : (((j + n : Nat) : Int) + 1) = ((j + n + 1 : Nat) : Int) := by omega
    have i7 : j + n + 1 - j = n + 1 := by omega
    have dd : (x0 * 4294967296 + x1).tdiv v1 = d0 := by rw [tdiv_pos htop0]; exact hd0
    have rr : (x0 * 4294967296 + x1).tmod v1 = r0 := by rw [tmod_pos htop0]; exact hr0
    unfold W at hd01
    show Lbig_long_2s k (Lbig_long_2 k m) _ _ _ _ _ _ _ _ _ = _
    unfold Lbig_long_2s
    simp (config := { implicitDefEqProofs := false, maxSteps := 2000000 }) (disch := omega) only [ps, ↓reduceIte, reduceCtorEq, Int.reduceLT, Int.reduceLE, Int.reduceEq, Nat.reduceLT, Nat.reduceLeDiff, Nat.reduceEqDiff, Int.reduceNeg, eitherK, hjj, i1, i4, i5, i6, i7, g1, g4, g5, hor, dd, rr, hg', ht2, gq]
end Go.Proofs.YtlnailgfialgnaaGreatDoor.Am

/- Plain reckoning: long division, the shift's bits and the rest shifted back. -/
set_option linter.unusedVariables false
set_option linter.unusedSimpArgs false
set_option maxRecDepth 10000
namespace Go.Proofs.YtlnailgfialgnaaGreatDoor.Am
open Go

theorem bits_loop (a b : List Int) (hb : b.length ≤ 1000000000) {x : Int} (g : b[b.length - 1]? = some x) (hx : 1 ≤ x) :
    ∀ (e s : Nat), s + e = 32 → x * 2 ^ s < 4294967296 → ∃ s' : Nat, (∀ k m, e < m → Lbig_long_0 k m a b (s : Int) = some (a, b, (s' : Int))) ∧ s' ≤ 31 ∧ x * 2 ^ s' < 4294967296 ∧ 2147483648 ≤ x * 2 ^ s' := by
  have hb1 : 0 < b.length := by have := (List.getElem?_eq_some_iff.1 g).1; omega
  intro e
  induction e with
  | zero =>
    intro s hs hlt
    have : s = 32 := by omega
    subst this
    omega
  | succ e ih =>
    intro s hs hlt
    have hp : (0 : Int) < 2 ^ s := Int.pow_pos (by decide)
    have h0 : 0 ≤ x * 2 ^ s := Int.mul_nonneg (by omega) (by omega)
    have hmin : min s 32 = s := by omega
    have i1 : ((b.length : Int) - 1) = ((b.length - 1 : Nat) : Int) := by omega
    have i2 : ((s : Int) + 1) = ((s + 1 : Nat) : Int) := rfl
    by_cases h : x * 2 ^ s < 2147483648
    · obtain ⟨s', q1, q2⟩ := ih (s + 1) (by omega) (by rw [Int.pow_succ, ← Int.mul_assoc]; omega)
      refine ⟨s', fun k m hm => ?_, q2⟩
      obtain ⟨m, rfl⟩ : ∃ q, m = q + 1 := ⟨m - 1, by omega⟩
      rw [← q1 k m (by omega)]
      have hz : (x * 2 ^ s).fdiv 2147483648 = 0 := by rw [fdiv_pos _ (by decide)]; omega
      show Lbig_long_0s k (Lbig_long_0 k m) _ _ _ = _
      unfold Lbig_long_0s
      simp (config := { implicitDefEqProofs := false, maxSteps := 2000000 }) (disch := omega) only [ps, ↓reduceIte, reduceCtorEq, Int.reduceLT, Int.reduceLE, Int.reduceEq, Nat.reduceLT, Nat.reduceLeDiff, Nat.reduceEqDiff, Int.reduceNeg, eitherK, i1, i2, g, hmin, hz]
    · refine ⟨s, fun k m hm => ?_, by omega, hlt, by omega⟩
      obtain ⟨m, rfl⟩ : ∃ q, m = q + 1 := ⟨m - 1, by omega⟩
      have hz : ¬ ((x * 2 ^ s).fdiv 2147483648 = 0) := by rw [fdiv_pos _ (by decide)]; omega
      show Lbig_long_0s k (Lbig_long_0 k m) _ _ _ = _
      unfold Lbig_long_0s
      simp (config := { implicitDefEqProofs := false, maxSteps := 2000000 }) (disch := omega) only [ps, ↓reduceIte, reduceCtorEq, Int.reduceLT, Int.reduceLE, Int.reduceEq, Nat.reduceLT, Nat.reduceLeDiff, Nat.reduceEqDiff, Int.reduceNeg, eitherK, i1, i2, g, hmin, hz]
theorem unshift_alg {S T W' u u1 d m d1 m1 Pj Vr Vu m0 : Int} (hu : u = m + S * d) (hST : S * T = W') (e : S * Vr + m0 = Vu + m * Pj) :
    S * (Vr + Pj * (d + m1 * T)) + m0 = Vu + Pj * u + m1 * (Pj * W') := by
  subst hu; subst hST; grind
theorem unshift_word {s : Nat} (hs : s ≤ 31) {x x1 : Int} (hx : 0 ≤ x ∧ x < W) (hx1 : 0 ≤ x1 ∧ x1 < W) :
    IntKind.u32.wrap (((BitVec.toNat ((BitVec.ofInt 32 (Int.fdiv x ((2 : Int) ^ (min (Int.toNat ((s : Nat) : Int)) 32)))) ||| (BitVec.ofInt 32 (IntKind.u32.wrap (IntKind.u64.wrap ((IntKind.u64.wrap x1) * ((2 : Int) ^ (min (Int.toNat (IntKind.u64.wrap ((32 : Int) - ((s : Nat) : Int)))) 64)))))))) : Nat) : Int)
      = x / 2 ^ s + x1 % 2 ^ s * 2 ^ (32 - s) ∧ 0 ≤ x / 2 ^ s + x1 % 2 ^ s * 2 ^ (32 - s) ∧ x / 2 ^ s + x1 % 2 ^ s * 2 ^ (32 - s) < 4294967296 := by
  unfold W at hx hx1
  have hp : (0 : Int) < 2 ^ s := Int.pow_pos (by decide)
  have hq : (0 : Int) < 2 ^ (32 - s) := Int.pow_pos (by decide)
  have hpq : (2 : Int) ^ s * 2 ^ (32 - s) = 4294967296 := by rw [← Int.pow_add, show s + (32 - s) = 32 by omega]; rfl
  have hq32 : (2 : Int) ^ (32 - s) ≤ 4294967296 := by
    have : (2 : Int) ^ (32 - s) ≤ 2 ^ 32 := by exact_mod_cast Nat.pow_le_pow_right (by decide : 0 < 2) (by omega : 32 - s ≤ 32)
    simpa using this
  have e1 : min (Int.toNat ((s : Nat) : Int)) 32 = s := by omega
  have e2 : IntKind.u64.wrap ((32 : Int) - ((s : Nat) : Int)) = ((32 - s : Nat) : Int) := by rw [wrap_u64_id (by omega)]; omega
  have e3 : min (Int.toNat ((32 - s : Nat) : Int)) 64 = 32 - s := by omega
  rw [e1, e2, e3, wrap_u64_id (x := x1) (by omega), wrap_32_64, fdiv_pos _ (by omega)]
  have hd0 : 0 ≤ x / 2 ^ s := Int.ediv_nonneg hx.1 (by omega)
  have hd1 : x / 2 ^ s < 2 ^ (32 - s) := Int.ediv_lt_of_lt_mul hp (by rw [Int.mul_comm, hpq]; exact hx.2)
  have hm0 := Int.emod_nonneg x1 (show (2 : Int) ^ s ≠ 0 by omega)
  have hm1 := Int.emod_lt_of_pos x1 hp
  have hmod : x1 * 2 ^ (32 - s) % 4294967296 = 2 ^ (32 - s) * (x1 % 2 ^ s) := by
    rw [← hpq, Int.mul_comm x1, Int.mul_comm (2 ^ s), Int.mul_emod_mul_of_pos _ _ hq]
  have hb : 2 ^ (32 - s) * (x1 % 2 ^ s + 1) ≤ 2 ^ (32 - s) * 2 ^ s := Int.mul_le_mul_of_nonneg_left (by omega) (by omega)
  rw [Int.mul_comm (2 ^ (32 - s)) (2 ^ s), hpq, Int.mul_add, Int.mul_one] at hb
  have hb0 : 0 ≤ 2 ^ (32 - s) * (x1 % 2 ^ s) := Int.mul_nonneg (by omega) hm0
  rw [hmod, or32 (32 - s) (by omega) ⟨hd0, hd1⟩ ⟨hb0, by omega⟩ _ rfl, Int.mul_comm (x1 % 2 ^ s), wrap_u32_id (by omega)]
  exact ⟨rfl, by omega, by omega⟩
theorem unshift_loop (q u n s : Nat) (hs : s ≤ 31) (qs us : List Int) (du : Dg W us) (hul : us.length = u) (hnu : n + 1 ≤ u) (hu : u ≤ 1000000000) :
    ∀ (d i : Nat) (rs : List Int), i + d = n → rs.length = n → Dg W rs → 2 ^ s * V W (rs.take i) + us[0]?.getD 0 % 2 ^ s = V W (us.take i) + us[i]?.getD 0 % 2 ^ s * W ^ i →
    ∃ rs', (∀ k m, d < m → Lbig_long_6 k m q n (s : Int) u (n : Int) (i : Int) qs rs us = some (q, n, qs, rs', us)) ∧ rs'.length = n ∧ Dg W rs' ∧ 2 ^ s * V W rs' + us[0]?.getD 0 % 2 ^ s = V W (us.take n) + us[n]?.getD 0 % 2 ^ s * W ^ n := by
  intro d
  induction d with
  | zero =>
    intro i rs hi hl hd e
    have : i = n := by omega
    subst this
    rw [List.take_of_length_le (l := rs) (by omega)] at e
    refine ⟨rs, fun k m hm => ?_, hl, hd, e⟩
    obtain ⟨m, rfl⟩ : ∃ q, m = q + 1 := ⟨m - 1, by omega⟩
    show Lbig_long_6s k (Lbig_long_6 k m) _ _ _ _ _ _ _ _ _ = _
    unfold Lbig_long_6s
    simp (config := { implicitDefEqProofs := false, maxSteps := 2000000 }) (disch := omega) only [ps, ↓reduceIte, reduceCtorEq, Int.reduceLT, Int.reduceLE, Int.reduceEq, Nat.reduceLT, Nat.reduceLeDiff, Nat.reduceEqDiff, Int.reduceNeg, eitherK]
  | succ d ih =>
    intro i rs hi hl hd e
    obtain ⟨x, hx⟩ := get_of (show i < us.length by omega)
    obtain ⟨x1, hx1⟩ := get_of (show i + 1 < us.length by omega)
    obtain ⟨x4, hx4⟩ := get_of (show i < rs.length by omega)
    have b1 := du.get hx
    have b2 := du.get hx1
    obtain ⟨w1, w2, w3⟩ := unshift_word hs b1 b2
    obtain ⟨word, hword⟩ : ∃ w, x / 2 ^ s + x1 % 2 ^ s * 2 ^ (32 - s) = w := ⟨_, rfl⟩
    rw [hword] at w1 w2 w3
    have hpq : (2 : Int) ^ s * 2 ^ (32 - s) = W := by rw [← Int.pow_add, show s + (32 - s) = 32 by omega]; rfl
    obtain ⟨rs', q1, q2, q3, q4⟩ := ih (i + 1) (rs.set i word) (by omega) (by simpa using hl) (hd.set i ⟨w2, w3⟩) (by
      rw [set_take_succ _ _ _ (by omega), V_snoc, List.length_take, Nat.min_eq_left (by omega), V_take_succ hx, hx1, Option.getD_some, show W ^ (i + 1) = W ^ i * W from Int.pow_succ .., ← hword]
      rw [hx, Option.getD_some] at e
      exact unshift_alg (u1 := 0) (d1 := 0) (by rw [Int.emod_add_mul_ediv]) hpq e)
    refine ⟨rs', fun k m hm => ?_, q2, q3, q4⟩
    obtain ⟨m, rfl⟩ : ∃ q, m = q + 1 := ⟨m - 1, by omega⟩
    rw [← q1 k m (by omega)]
    have i2 : ((i : Int) + 1) = ((i + 1 : Nat) : Int) := rfl
    have e1 : min (Int.toNat ((s : Nat) : Int)) 32 = min s 32 := by omega
    have w4 : IntKind.u64.wrap ((32 : Int) - ((s : Nat) : Int)) = ((32 - s : Nat) : Int) := by rw [wrap_u64_id (by omega)]; omega
    have w5 : IntKind.u64.wrap ((32 : Int) - ((s : Nat) : Int)) = (32 : Int) - ((s : Nat) : Int) := wrap_u64_id (by omega)
    unfold W at b1 b2
    rw [e1, w5, wrap_u64_id (x := x1) (by omega)] at w1
    rw [wrap_u32_id (by omega)] at w1
    show Lbig_long_6s k (Lbig_long_6 k m) _ _ _ _ _ _ _ _ _ = _
    unfold Lbig_long_6s
    simp (config := { implicitDefEqProofs := false, maxSteps := 2000000 }) (disch := omega) only [ps, ↓reduceIte, reduceCtorEq, Int.reduceLT, Int.reduceLE, Int.reduceEq, Nat.reduceLT, Nat.reduceLeDiff, Nat.reduceEqDiff, Int.reduceNeg, eitherK, i2, hx, hx1, hx4, w1]
end Go.Proofs.YtlnailgfialgnaaGreatDoor.Am

/- Plain reckoning: long division, whole. -/
set_option linter.unusedVariables false
set_option linter.unusedSimpArgs false
set_option maxRecDepth 10000
namespace Go.Proofs.YtlnailgfialgnaaGreatDoor.Am
open Go

/-- A number below W^n has noughts from its n-th digit on. -/
theorem high_nought : ∀ {l : List Int} {n : Nat}, Dg W l → V W l < W ^ n → n ≤ l.length → V W (l.take n) = V W l ∧ ∀ p x, n ≤ p → l[p]? = some x → x = 0 := by
  intro l n d h hl
  have e := V_split (B := W) l n hl
  have h1 := V_nonneg (B := W) (by decide) (d.take n)
  have h2 := V_nonneg (B := W) (by decide) (d.drop n)
  have hp : (0 : Int) < W ^ n := Int.pow_pos (by decide)
  have hz : V W (l.drop n) = 0 := by
    rcases (by omega : V W (l.drop n) = 0 ∨ 1 ≤ V W (l.drop n)) with h0 | h0
    · exact h0
    · have := Int.mul_le_mul_of_nonneg_left h0 (Int.le_of_lt hp)
      omega
  rw [hz, Int.mul_zero, Int.add_zero] at e
  refine ⟨e.symm, fun p x hp hx => ?_⟩
  have hx2 : (l.drop n)[p - n]? = some x := by rw [List.getElem?_drop, show n + (p - n) = p by omega]; exact hx
  have key : ∀ (m : List Int), Dg W m → V W m = 0 → ∀ (i : Nat) (x : Int), m[i]? = some x → x = 0 := by
    intro m
    induction m with
    | nil => intro _ _ i x h; simp at h
    | cons y m ih =>
      intro dm hm i x h
      have hh := dm.head
      have ht := V_nonneg (B := W) (by decide) dm.tail
      simp only [V] at hm
      unfold W at *
      cases i with
      | zero => simp at h; omega
      | succ i => exact ih dm.tail (by omega) i x (by simpa using h)
  exact key _ (d.drop n) hz _ _ hx2
theorem top_digit {b : List Int} (cb : Cn W b) (h : 1 ≤ b.length) : ∃ x, b[b.length - 1]? = some x ∧ 1 ≤ x ∧ x < W ∧ V W b = V W (b.take (b.length - 1)) + W ^ (b.length - 1) * x := by
  rcases (Cn.last cb.1).1 cb.2 with e | ⟨m, x, rfl, hx⟩
  · rw [e] at h; simp at h
  · have h1 := cb.1 x (by simp)
    refine ⟨x, by simp, by omega, h1.2, ?_⟩
    simp [V_snoc]
set_option maxHeartbeats 1000000 in
theorem longdiv_ev (a b : List Int) (ca : Cn W a) (cb : Cn W b) (hb : 2 ≤ b.length) (hba : b.length ≤ a.length) (hla : a.length ≤ 10000000) :
    ∃ q r, Rn (fun k => Fbig_long k a b) (q, r) ∧ Dg W q ∧ Dg W r ∧ V W b * V W q + V W r = V W a ∧ V W r < V W b ∧ q.length ≤ a.length ∧ r.length ≤ b.length := by
  obtain ⟨x, gx, hx1, hxW, hVb⟩ := top_digit cb (by omega)
  obtain ⟨s, hs, hs31, hs1, hs2⟩ := bits_loop a b (by omega) gx hx1 32 0 (by omega) (by unfold W at hxW; omega)
  obtain ⟨us, hus, lus, dus, eus⟩ := shift_ev a s hs31 ca.1 (by omega)
  obtain ⟨vs, hvs, lvs, dvs, evs⟩ := shift_ev b s hs31 cb.1 (by omega)
  have hS : (0 : Int) < 2 ^ s := Int.pow_pos (by decide)
  have hWp : (0 : Int) < W ^ (b.length - 1) := Int.pow_pos (by decide)
  have hWn : W ^ b.length = W ^ (b.length - 1) * W := by
    obtain ⟨c, hc⟩ : ∃ c, b.length = c + 1 := ⟨b.length - 1, by omega⟩
    rw [hc]
    exact Int.pow_succ ..
  have lo0 := V_nonneg (B := W) (by decide) (cb.1.take (b.length - 1))
  have lo1 := V_lt (B := W) (by decide) (cb.1.take (b.length - 1))
  rw [List.length_take, Nat.min_eq_left (by omega)] at lo1
  have hvlt : V W vs < W ^ b.length := by
    rw [evs, hWn]
    have h1 : V W b < W ^ (b.length - 1) * (x + 1) := by rw [Int.mul_add, Int.mul_one]; omega
    have h2 : (V W b) * 2 ^ s ≤ (W ^ (b.length - 1) * (x + 1) - 1) * 2 ^ s := Int.mul_le_mul_of_nonneg_right (by omega) (by omega)
    have hm : (x * 2 ^ s + 2 ^ s) ≤ W := by
      have hpq : (2 : Int) ^ s * 2 ^ (32 - s) = W := by rw [← Int.pow_add, show s + (32 - s) = 32 by omega]; rfl
      have h4 : 2 ^ s * x < 2 ^ s * 2 ^ (32 - s) := by rw [hpq, Int.mul_comm]; exact hs1
      have h5 := Int.lt_of_mul_lt_mul_left h4 (by omega)
      have h6 : 2 ^ s * (x + 1) ≤ 2 ^ s * 2 ^ (32 - s) := Int.mul_le_mul_of_nonneg_left (by omega) (by omega)
      rw [hpq, Int.mul_add, Int.mul_one, Int.mul_comm] at h6
      exact h6
    have h3 : W ^ (b.length - 1) * (x * 2 ^ s + 2 ^ s) ≤ W ^ (b.length - 1) * W := Int.mul_le_mul_of_nonneg_left hm (by omega)
    have e1 : (W ^ (b.length - 1) * (x + 1) - 1) * 2 ^ s = W ^ (b.length - 1) * (x * 2 ^ s + 2 ^ s) - 2 ^ s := by grind
    omega
  obtain ⟨hvt, hvz⟩ := high_nought dvs hvlt (by omega)
  obtain ⟨v1, g1⟩ := get_of (show b.length - 1 < vs.length by omega)
  obtain ⟨v2, g2⟩ := get_of (show b.length - 2 < vs.length by omega)
  have bv1 := dvs.get g1
  have hv1 : 2147483648 ≤ v1 := by
    have e1 := V_take_succ (B := W) g1
    rw [show b.length - 1 + 1 = b.length by omega, hvt, evs] at e1
    have t1 := V_lt (B := W) (by decide) (dvs.take (b.length - 1))
    rw [List.length_take, Nat.min_eq_left (by omega)] at t1
    have h1 : (W ^ (b.length - 1) * x) * 2 ^ s ≤ V W b * 2 ^ s := Int.mul_le_mul_of_nonneg_right (by omega) (by omega)
    have h2 : W ^ (b.length - 1) * (x * 2 ^ s) < W ^ (b.length - 1) * (v1 + 1) := by
      rw [Int.mul_add, Int.mul_one, ← Int.mul_assoc]
      omega
    have h3 := Int.lt_of_mul_lt_mul_left h2 (by omega)
    omega
  have hY0 : 0 < V W b := by
    have : W ^ (b.length - 1) * 1 ≤ W ^ (b.length - 1) * x := Int.mul_le_mul_of_nonneg_left hx1 (by omega)
    omega
  have hulen : us.length = a.length + 1 := lus
  obtain ⟨m, hm⟩ : ∃ m, m = a.length + 1 - b.length := ⟨_, rfl⟩
  have hm1 : m + b.length = a.length + 1 := by omega
  have hVbge : W ^ (b.length - 1) ≤ V W b := by
    have : W ^ (b.length - 1) * 1 ≤ W ^ (b.length - 1) * x := Int.mul_le_mul_of_nonneg_left hx1 (by omega)
    omega
  have hult : V W us < V W (vs.take b.length) * W ^ m := by
    rw [hvt, evs, eus]
    have h1 := V_lt (B := W) (by decide) ca.1
    have h2 : W ^ (b.length - 1) * W ^ m = W ^ a.length := by rw [← Int.pow_add, show b.length - 1 + m = a.length by omega]
    have h3 : W ^ (b.length - 1) * W ^ m ≤ V W b * W ^ m := Int.mul_le_mul_of_nonneg_right hVbge (Int.le_of_lt (Int.pow_pos (by decide)))
    have h4 : V W a * 2 ^ s < V W b * W ^ m * 2 ^ s := Int.mul_lt_mul_of_pos_right (by omega) hS
    have e1 : V W b * W ^ m * 2 ^ s = V W b * 2 ^ s * W ^ m := by grind
    omega
  obtain ⟨qs, us', ⟨K, hmain⟩, lq, lu, dq, du, hur, hA⟩ := main_loop vs b.length (s : Int) hb (by omega) dvs g1 g2 hv1 m (a.length + 1) (by omega) (V W a * 2 ^ s) m (List.replicate m 0) us (by omega) lus (by simp) (Nat.le_refl m) dus (Dg.rep _ (by decide)) hult (by
    rw [List.drop_of_length_le (by simp)]; simp [V, eus])
  rw [hvt, evs] at hur hA
  have hlt2 : V W us' < W ^ b.length := by rw [evs] at hvlt; omega
  obtain ⟨hut, huz⟩ := high_nought du hlt2 (by omega)
  obtain ⟨rs, hback, lr, dr, er⟩ := unshift_loop m (a.length + 1) b.length s hs31 qs us' du lu (by omega) (by omega) b.length 0 (List.replicate b.length 0) (by omega) (by simp) (Dg.rep _ (by decide)) (by simp [V])
  obtain ⟨xt, hxt⟩ := get_of (show b.length < us'.length by omega)
  obtain ⟨xl, hxl⟩ := get_of (show 0 < us'.length by omega)
  have hxt0 := huz b.length xt (Nat.le_refl _) hxt
  rw [hxt, Option.getD_some, hxt0, Int.zero_emod, Int.zero_mul, Int.add_zero, hut, hxl, Option.getD_some] at er
  have hdvd : xl % 2 ^ s = 0 := by
    have hpq : (2 : Int) ^ s * 2 ^ (32 - s) = W := by rw [← Int.pow_add, show s + (32 - s) = 32 by omega]; rfl
    have e1 : V W us' = xl + W * V W (us'.drop 1) := by
      have := V_drop (B := W) hxl
      simpa using this
    have e2 : V W us' = 2 ^ s * (V W a - V W b * V W qs) := by
      rw [Int.mul_sub]
      have : V W b * 2 ^ s * V W qs = 2 ^ s * (V W b * V W qs) := by grind
      rw [Int.mul_comm (2 ^ s) (V W a)]
      omega
    have e3 : xl = 2 ^ s * (V W a - V W b * V W qs - 2 ^ (32 - s) * V W (us'.drop 1)) := by
      rw [Int.mul_sub, ← e2, ← Int.mul_assoc, hpq]; omega
    rw [e3]; exact Int.mul_emod_right ..
  rw [hdvd, Int.add_zero] at er
  have hfin : V W b * V W qs + V W rs = V W a := by
    have e1 : 2 ^ s * (V W b * V W qs + V W rs) = 2 ^ s * V W a := by
      rw [Int.mul_add, er, Int.mul_comm (2 ^ s) (V W a), ← hA]
      have : V W b * 2 ^ s * V W qs = 2 ^ s * (V W b * V W qs) := by grind
      omega
    exact Int.eq_of_mul_eq_mul_left (by omega) e1
  have hrb : V W rs < V W b := by
    rw [← er, Int.mul_comm] at hur
    exact Int.lt_of_mul_lt_mul_right hur (by omega)
  refine ⟨qs, rs, ?_, dq, dr, hfin, hrb, by omega, by omega⟩
  obtain ⟨K1, hus⟩ := hus
  obtain ⟨K2, hvs⟩ := hvs
  refine Rn.up (f := fun k => Fbig_long k a b) (Rn.eq (max K (max K1 K2) + a.length + 40) fun k hk => ?_)
  show bbig_long k a b = _
  have c1 : Lbig_long_0 k k a b 0 = _ := hs k k (by omega)
  have c2 := hus k (by omega)
  have c3 := hvs k (by omega)
  have c4 := hmain k k (by omega) (by omega)
  have c5 : Lbig_long_6 k k m b.length (s : Int) (a.length + 1) (b.length : Int) 0 qs _ us' = _ := hback k k (by omega)
  have n1 : (((a.length + 1 : Nat) : Int) - (b.length : Int)) = (m : Int) := by omega
  have n2 : List.take m qs = qs := List.take_of_length_le (by omega)
  have n3 : List.take b.length rs = rs := List.take_of_length_le (by omega)
  unfold bbig_long
  simp (config := { implicitDefEqProofs := false, maxSteps := 2000000 }) (disch := omega) only [ps, ↓reduceIte, reduceCtorEq, Int.reduceLT, Int.reduceLE, Int.reduceEq, Nat.reduceLT, Nat.reduceLeDiff, Nat.reduceEqDiff, Int.reduceNeg, eitherK, c1, c2, c3, c4, c5, n1, n2, n3]
end Go.Proofs.YtlnailgfialgnaaGreatDoor.Am

/- Plain reckoning: quotient and rest, exact quotients and the common divisor of the program. -/
set_option linter.unusedVariables false
set_option linter.unusedSimpArgs false
set_option maxRecDepth 10000
namespace Go.Proofs.YtlnailgfialgnaaGreatDoor.Am
open Go

theorem div_uniq {X Y Q R : Int} (h : Y * Q + R = X) (h0 : 0 ≤ R) (h1 : R < Y) : Q = X / Y ∧ R = X % Y := by
  subst h
  have hY : Y ≠ 0 := by omega
  constructor
  · rw [Int.add_comm, Int.add_mul_ediv_left _ _ hY, Int.ediv_eq_zero_of_lt h0 h1]; omega
  · rw [Int.add_comm, Int.add_mul_emod_self_left, Int.emod_eq_of_lt h0 h1]
theorem tdiv_sg (sx sy : Bool) {X Y : Int} (hX : 0 ≤ X) : (if sx then -X else X).tdiv (if sy then -Y else Y) = if (!(sx == sy)) then -(X / Y) else X / Y := by
  have h : X.tdiv Y = X / Y := tdiv_pos hX
  cases sx <;> cases sy <;> simp [Int.neg_tdiv, Int.tdiv_neg, h]
theorem tmod_sg (sx sy : Bool) {X Y : Int} (hX : 0 ≤ X) : (if sx then -X else X).tmod (if sy then -Y else Y) = if sx then -(X % Y) else X % Y := by
  have h : X.tmod Y = X % Y := tmod_pos hX
  cases sx <;> cases sy <;> simp [Int.neg_tmod, Int.tmod_neg, h]
theorem divide_ev (a b : List Int) (ca : Cn W a) (cb : Cn W b) (hb : b ≠ []) (hla : a.length ≤ 10000000) (hlb : b.length ≤ 10000000) :
    ∃ q r, Rn (fun k => Fbig_divide k a b) (q, r) ∧ Dg W q ∧ Dg W r ∧ V W q = V W a / V W b ∧ V W r = V W a % V W b ∧ q.length ≤ a.length ∧ r.length ≤ a.length := by
  have hc := cmp_ev a b (by omega) (by omega) ca cb
  have hb1 : 1 ≤ b.length := by
    cases b with
    | nil => exact absurd rfl hb
    | cons _ _ => simp
  have pa := V_nonneg (B := W) (by decide) ca.1
  by_cases hlt : V W a < V W b
  · have := div_uniq (X := V W a) (Y := V W b) (Q := 0) (R := V W a) (by omega) pa hlt
    refine ⟨[], a, Rn.up (f := fun k => Fbig_divide k a b) ?_, Dg.nil, ca.1, this.1, this.2, by simp, by omega⟩
    show Rn (fun k => bbig_divide k a b) _
    unfold bbig_divide
    refine Rn.bind hc ?_
    rw [if_pos hlt]
    (first | (refine Rn.t ?hc ?_; case hc => simp (config := { implicitDefEqProofs := false, maxSteps := 2000000 }) (disch := omega) only [ps, ↓reduceIte, reduceCtorEq, Int.reduceLT, Int.reduceLE, Int.reduceEq, Nat.reduceLT, Nat.reduceLeDiff, Nat.reduceEqDiff, Int.reduceNeg, eitherK]) | (refine Rn.f ?hc ?_; case hc => simp (config := { implicitDefEqProofs := false, maxSteps := 2000000 }) (disch := omega) only [ps, ↓reduceIte, reduceCtorEq, Int.reduceLT, Int.reduceLE, Int.reduceEq, Nat.reduceLT, Nat.reduceLeDiff, Nat.reduceEqDiff, Int.reduceNeg, eitherK]))
    exact Rn.pure _
  · have hge : b.length ≤ a.length := by
      refine Nat.le_of_not_lt fun h => hlt ?_
      exact Cn.len_lt (by decide) ca cb h
    have hcn : ¬ ((if V W a < V W b then -1 else if V W a = V W b then 0 else 1 : Int) < 0) := by
      rw [if_neg hlt]
      by_cases h : V W a = V W b
      · rw [if_pos h]; decide
      · rw [if_neg h]; decide
    obtain ⟨x, gx, hx1, hxW, hVb⟩ := top_digit cb hb1
    by_cases h1 : b.length = 1
    · have gx0 : b[0]? = some x := by rw [h1] at gx; exact gx
      have eb : V W b = x := by rw [hVb, h1]; simp [V]
      obtain ⟨q, r, s1, s2, s3, s4, s5⟩ := short_ev a x (by omega) ca.1 ⟨by omega, hxW⟩
      rw [← eb] at s5
      have := div_uniq (X := V W a) (Y := V W b) (Q := V W q) (R := r) s5.symm s2.1 (by omega)
      refine ⟨q, [r], Rn.up (f := fun k => Fbig_divide k a b) ?_, s4, Dg.cons ⟨s2.1, by omega⟩ Dg.nil, this.1, by simp [V, this.2], by omega, by simp; omega⟩
      show Rn (fun k => bbig_divide k a b) _
      unfold bbig_divide
      refine Rn.bind hc ?_
      (first | (refine Rn.t ?hc ?_; case hc => simp (config := { implicitDefEqProofs := false, maxSteps := 2000000 }) (disch := omega) only [ps, ↓reduceIte, reduceCtorEq, Int.reduceLT, Int.reduceLE, Int.reduceEq, Nat.reduceLT, Nat.reduceLeDiff, Nat.reduceEqDiff, Int.reduceNeg, eitherK, hcn]) | (refine Rn.f ?hc ?_; case hc => simp (config := { implicitDefEqProofs := false, maxSteps := 2000000 }) (disch := omega) only [ps, ↓reduceIte, reduceCtorEq, Int.reduceLT, Int.reduceLE, Int.reduceEq, Nat.reduceLT, Nat.reduceLeDiff, Nat.reduceEqDiff, Int.reduceNeg, eitherK, hcn]))
      (first | (refine Rn.t ?hc ?_; case hc => simp (config := { implicitDefEqProofs := false, maxSteps := 2000000 }) (disch := omega) only [ps, ↓reduceIte, reduceCtorEq, Int.reduceLT, Int.reduceLE, Int.reduceEq, Nat.reduceLT, Nat.reduceLeDiff, Nat.reduceEqDiff, Int.reduceNeg, eitherK, h1, Int.natCast_one]) | (refine Rn.f ?hc ?_; case hc => simp (config := { implicitDefEqProofs := false, maxSteps := 2000000 }) (disch := omega) only [ps, ↓reduceIte, reduceCtorEq, Int.reduceLT, Int.reduceLE, Int.reduceEq, Nat.reduceLT, Nat.reduceLeDiff, Nat.reduceEqDiff, Int.reduceNeg, eitherK, h1, Int.natCast_one]))
      refine Rn.at gx0 ?_
      exact Rn.bind (Rn.eq _ s1) (Rn.pure _)
    · obtain ⟨q, r, s1, s2, s3, s4, s5, s6, s7⟩ := longdiv_ev a b ca cb (by omega) hge hla
      have p := V_nonneg (B := W) (by decide) s3
      have := div_uniq s4 p s5
      refine ⟨q, r, Rn.up (f := fun k => Fbig_divide k a b) ?_, s2, s3, this.1, this.2, by omega, by omega⟩
      show Rn (fun k => bbig_divide k a b) _
      unfold bbig_divide
      refine Rn.bind hc ?_
      (first | (refine Rn.t ?hc ?_; case hc => simp (config := { implicitDefEqProofs := false, maxSteps := 2000000 }) (disch := omega) only [ps, ↓reduceIte, reduceCtorEq, Int.reduceLT, Int.reduceLE, Int.reduceEq, Nat.reduceLT, Nat.reduceLeDiff, Nat.reduceEqDiff, Int.reduceNeg, eitherK, hcn]) | (refine Rn.f ?hc ?_; case hc => simp (config := { implicitDefEqProofs := false, maxSteps := 2000000 }) (disch := omega) only [ps, ↓reduceIte, reduceCtorEq, Int.reduceLT, Int.reduceLE, Int.reduceEq, Nat.reduceLT, Nat.reduceLeDiff, Nat.reduceEqDiff, Int.reduceNeg, eitherK, hcn]))
      (first | (refine Rn.t ?hc ?_; case hc => simp (config := { implicitDefEqProofs := false, maxSteps := 2000000 }) (disch := omega) only [ps, ↓reduceIte, reduceCtorEq, Int.reduceLT, Int.reduceLE, Int.reduceEq, Nat.reduceLT, Nat.reduceLeDiff, Nat.reduceEqDiff, Int.reduceNeg, eitherK]) | (refine Rn.f ?hc ?_; case hc => simp (config := { implicitDefEqProofs := false, maxSteps := 2000000 }) (disch := omega) only [ps, ↓reduceIte, reduceCtorEq, Int.reduceLT, Int.reduceLE, Int.reduceEq, Nat.reduceLT, Nat.reduceLeDiff, Nat.reduceEqDiff, Int.reduceNeg, eitherK]))
      exact Rn.bind s1 (Rn.pure _)
theorem QuoRem_ev (z x0 y0 r0 : Bool) (x1 y1 : List Int) {x y : Int} (nx : Nm W x0 x1 x) (ny : Nm W y0 y1 y) (hx : x1.length ≤ 10000000) (hy : y1.length ≤ 10000000) (hy0 : y1 ≠ []) :
    ∃ s q t r, Rn (fun k => Fbig_Int_QuoRem_gsh k z x0 x1 y0 y1 r0) (s, q, x0, x1, y0, y1, t, r) ∧ Nm W s q (x.tdiv y) ∧ Nm W t r (x.tmod y) ∧ q.length ≤ x1.length ∧ r.length ≤ x1.length := by
  obtain ⟨q, r, h1, h2, h3, h4, h5, h6, h7⟩ := divide_ev x1 y1 nx.c ny.c hy0 hx hy
  have px := V_nonneg (B := W) (by decide) nx.c.1
  have e1 := tdiv_sg x0 y0 (Y := V W y1) px
  have e2 := tmod_sg x0 y0 (Y := V W y1) px
  rw [nx.z, ny.z] at e1 e2
  refine ⟨sgn (!(x0 == y0)) q, tl q, sgn x0 r, tl r, Rn.up (f := fun k => Fbig_Int_QuoRem_gsh k z x0 x1 y0 y1 r0) ?_, ?_, ?_, ?_, ?_⟩
  · show Rn (fun k => bbig_Int_QuoRem_gsh k z x0 x1 y0 y1 r0) _
    unfold bbig_Int_QuoRem_gsh
    exact Rn.bind h1 (Rn.bind (set1_ev x0 r0 r (by omega)) (Rn.bind (set1_ev (!(x0 == y0)) z q (by omega)) (Rn.pure _)))
  · rw [e1]; exact sgn_nm h2 h4
  · rw [e2]; exact sgn_nm h3 h5
  · have := tl_len q; omega
  · have := tl_len r; omega
theorem gcd_loop (m0 m01 : Bool) (m1 m11 : List Int) (M : Nat) (hM : M ≤ 10000000) : ∀ (N : Nat) (a b : List Int), V W b ≤ N → Cn W a → Cn W b → a.length ≤ M → b.length ≤ M →
    ∃ l, (∃ K, ∀ k n, K ≤ k → N < n → Lbig_Gcd_ddu_0 k n a b m0 m1 m01 m11 = some (l, m0, m1, m01, m11)) ∧ Cn W l ∧ V W l = Int.gcd (V W a) (V W b) ∧ l.length ≤ M := by
  intro N
  induction N using Nat.strongRecOn with
  | ind N ih =>
    intro a b hN ca cb ha hb
    have pa := V_nonneg (B := W) (by decide) ca.1
    by_cases h0 : b = []
    · subst h0
      refine ⟨a, ⟨0, fun k n _ hn => ?_⟩, ca, by simp [V]; omega, ha⟩
      obtain ⟨n, rfl⟩ : ∃ m, n = m + 1 := ⟨n - 1, by omega⟩
      show Lbig_Gcd_ddu_0s k (Lbig_Gcd_ddu_0 k n) _ _ _ _ _ _ = _
      unfold Lbig_Gcd_ddu_0s
      simp (config := { implicitDefEqProofs := false, maxSteps := 2000000 }) (disch := omega) only [ps, ↓reduceIte, reduceCtorEq, Int.reduceLT, Int.reduceLE, Int.reduceEq, Nat.reduceLT, Nat.reduceLeDiff, Nat.reduceEqDiff, Int.reduceNeg, eitherK]
    · have pb : 0 < V W b := by
        have p := V_nonneg (B := W) (by decide) cb.1
        have := mt (cb.nil_iff (B := W) (by decide)).2 h0
        omega
      obtain ⟨q, r, ⟨K1, h1⟩, h2, h3, h4, h5, h6, h7⟩ := divide_ev a b ca cb h0 (by omega) (by omega)
      have hr0 := Int.emod_nonneg (V W a) (show V W b ≠ 0 by omega)
      have hr1 := Int.emod_lt_of_pos (V W a) pb
      obtain ⟨R, hR⟩ := Int.eq_ofNat_of_zero_le hr0
      have hcr : Cn W (tl r) := Cn.of h3
      have hvr : V W (tl r) = R := by rw [V_tl, h5, hR]
      obtain ⟨l, ⟨K2, i1⟩, i2, i3, i4⟩ := ih R (by omega) b (tl r) (by omega) cb hcr hb (by have := tl_len r; omega)
      obtain ⟨K3, h8⟩ := trim_ev r (by omega)
      refine ⟨l, ⟨max K1 (max K2 K3), fun k n hk hn => ?_⟩, i2, ?_, i4⟩
      · obtain ⟨n, rfl⟩ : ∃ m, n = m + 1 := ⟨n - 1, by omega⟩
        rw [← i1 k n (by omega) (by omega)]
        have c1 := h1 k (by omega)
        have c2 := h8 k (by omega)
        have lb : 0 < b.length := by
          cases b with
          | nil => exact absurd rfl h0
          | cons _ _ => simp
        show Lbig_Gcd_ddu_0s k (Lbig_Gcd_ddu_0 k n) _ _ _ _ _ _ = _
        unfold Lbig_Gcd_ddu_0s
        simp (config := { implicitDefEqProofs := false, maxSteps := 2000000 }) (disch := omega) only [ps, ↓reduceIte, reduceCtorEq, Int.reduceLT, Int.reduceLE, Int.reduceEq, Nat.reduceLT, Nat.reduceLeDiff, Nat.reduceEqDiff, Int.reduceNeg, eitherK, c1, c2, List.take_length]
      · rw [i3, hvr, ← hR]
        obtain ⟨A, hA⟩ := Int.eq_ofNat_of_zero_le pa
        obtain ⟨B, hB⟩ := Int.eq_ofNat_of_zero_le (Int.le_of_lt pb)
        rw [hA, hB]
        show (((Int.gcd (B : Int) ((A % B : Nat) : Int)) : Nat) : Int) = _
        rw [Int.gcd_natCast_natCast, Int.gcd_natCast_natCast, Nat.gcd_comm, ← Nat.gcd_rec, Nat.gcd_comm]
theorem Gcd_ev (x0 y0 : Bool) (x1 y1 : List Int) {x y : Int} (nx : Nm W x0 x1 x) (ny : Nm W y0 y1 y) (hx : x1.length ≤ 10000000) (hy : y1.length ≤ 10000000) :
    ∃ l, Rn (fun k => Fbig_Gcd_ddu k x0 x1 y0 y1) (x0, x1, y0, y1, false, l) ∧ Nm W false l (Int.gcd x y) ∧ l.length ≤ max x1.length y1.length := by
  obtain ⟨N, hN⟩ := Int.eq_ofNat_of_zero_le (V_nonneg (B := W) (by decide) ny.c.1)
  obtain ⟨l, ⟨K, h1⟩, h2, h3, h4⟩ := gcd_loop x0 y0 x1 y1 (max x1.length y1.length) (by omega) N x1 y1 (by omega) nx.c ny.c (by omega) (by omega)
  have e : (Int.gcd (V W x1) (V W y1) : Int) = Int.gcd x y := by
    have e1 := nx.z
    have e2 := ny.z
    rw [← e1, ← e2]
    cases x0 <;> cases y0 <;> simp
  refine ⟨l, Rn.up (f := fun k => Fbig_Gcd_ddu k x0 x1 y0 y1) ?_, ?_, h4⟩
  · show Rn (fun k => bbig_Gcd_ddu k x0 x1 y0 y1) _
    unfold bbig_Gcd_ddu
    have h5 := set1_ev false false l (by omega)
    rw [h2.2] at h5
    exact Rn.bind (x := (l, x0, x1, y0, y1)) (Rn.eq (K + N + 1) fun k hk => h1 k k (by omega) (by omega)) (Rn.bind h5 (Rn.pure _))
  · rw [← e, ← h3]
    exact ⟨h2, fun h => (by cases h), rfl⟩
section
variable {a0 b0 : Bool} {a1 b1 : List Int} (la : a1.length ≤ 9223372036854775807) (lb : b1.length ≤ 9223372036854775807) (da : Dg W a1) (db : Dg W b1)
include la lb da db
theorem limbGcd_ev (ha : Ri a0 a1) (hb : Ri b0 b1) : ∃ l, Rn (fun k => Flimb_Gcd k a0 a1 b0 b1) (false, l, 0) ∧ Nm W false l (Int.gcd (Zv W a0 a1) (Zv W b0 b1)) ∧ l.length ≤ 72 := by
  have k1 := ha.1
  have k2 := hb.1
  obtain ⟨l, h1, h2, h3⟩ := Gcd_ev a0 b0 a1 b1 (ha.nm da) (hb.nm db) (by omega) (by omega)
  refine ⟨l, Rn.up (f := fun k => Flimb_Gcd k a0 a1 b0 b1) ?_, h2, by omega⟩
  show Rn (fun k => blimb_Gcd k a0 a1 b0 b1) _
  unfold blimb_Gcd
  refine Rn.bind (both_ev a0 b0 a1 b1 la lb da db) ?_
  rw [if_pos ⟨ha, hb⟩]
  (first | (refine Rn.t ?hc ?_; case hc => simp (config := { implicitDefEqProofs := false, maxSteps := 2000000 }) (disch := omega) only [ps, ↓reduceIte, reduceCtorEq, Int.reduceLT, Int.reduceLE, Int.reduceEq, Nat.reduceLT, Nat.reduceLeDiff, Nat.reduceEqDiff, Int.reduceNeg, eitherK]) | (refine Rn.f ?hc ?_; case hc => simp (config := { implicitDefEqProofs := false, maxSteps := 2000000 }) (disch := omega) only [ps, ↓reduceIte, reduceCtorEq, Int.reduceLT, Int.reduceLE, Int.reduceEq, Nat.reduceLT, Nat.reduceLeDiff, Nat.reduceEqDiff, Int.reduceNeg, eitherK]))
  refine Rn.bind (Take_ri ha) (Rn.bind (Take_ri hb) (Rn.bind h1 (Rn.bind (Give1_ev h2 (show l.length ≤ 1000000000 by omega)) ?_)))
  simp only [List.take_length]
  (first | (refine Rn.t ?hc ?_; case hc => simp (config := { implicitDefEqProofs := false, maxSteps := 2000000 }) (disch := omega) only [ps, ↓reduceIte, reduceCtorEq, Int.reduceLT, Int.reduceLE, Int.reduceEq, Nat.reduceLT, Nat.reduceLeDiff, Nat.reduceEqDiff, Int.reduceNeg, eitherK]) | (refine Rn.f ?hc ?_; case hc => simp (config := { implicitDefEqProofs := false, maxSteps := 2000000 }) (disch := omega) only [ps, ↓reduceIte, reduceCtorEq, Int.reduceLT, Int.reduceLE, Int.reduceEq, Nat.reduceLT, Nat.reduceLeDiff, Nat.reduceEqDiff, Int.reduceNeg, eitherK]))
  exact Rn.pure _
end
end Go.Proofs.YtlnailgfialgnaaGreatDoor.Am

/- Plain reckoning: the program's fractions. -/
set_option linter.unusedVariables false
set_option linter.unusedSectionVars false
set_option linter.unusedSimpArgs false
set_option maxRecDepth 10000
namespace Go.Proofs.YtlnailgfialgnaaGreatDoor.Am
open Go

/-- Words that say a fraction in lowest terms. -/
def Fr (n0 : Bool) (n1 : List Int) (d0 : Bool) (d1 : List Int) (q : Rat) : Prop := Nm W n0 n1 q.num ∧ Nm W d0 d1 (q.den : Int)
theorem Fr.cast {n0 : Bool} {n1 : List Int} {d0 : Bool} {d1 : List Int} {q q' : Rat} (h : Fr n0 n1 d0 d1 q) (e : q = q') : Fr n0 n1 d0 d1 q' := e ▸ h
theorem Rat.den_pos' (q : Rat) : (0 : Int) < q.den := by have := q.den_nz; omega
theorem Fr.d0 {n0 : Bool} {n1 : List Int} {d0 : Bool} {d1 : List Int} {q : Rat} (h : Fr n0 n1 d0 d1 q) : d0 = false := by
  rw [h.2.neg (by decide)]
  have := Rat.den_pos' q
  simp
theorem Fr.ne {n0 : Bool} {n1 : List Int} {d0 : Bool} {d1 : List Int} {q : Rat} (h : Fr n0 n1 d0 d1 q) : d1 ≠ [] := by
  intro e
  have h1 := h.2.abs (by decide)
  have := Rat.den_pos' q
  rw [e] at h1
  simp only [V] at h1
  omega
theorem Fr.ext {n0 n0' : Bool} {n1 n1' : List Int} {d0 d0' : Bool} {d1 d1' : List Int} {q : Rat} (h : Fr n0 n1 d0 d1 q) (h' : Fr n0' n1' d0' d1' q) : n0 = n0' ∧ n1 = n1' ∧ d0 = d0' ∧ d1 = d1' := by
  obtain ⟨e1, e2⟩ := Nm.ext (B := W) (by decide) h.1 h'.1
  obtain ⟨e3, e4⟩ := Nm.ext (B := W) (by decide) h.2 h'.2
  exact ⟨e1, e2, e3, e4⟩
theorem Fr.inj {n0 : Bool} {n1 : List Int} {d0 : Bool} {d1 : List Int} {q q' : Rat} (h : Fr n0 n1 d0 d1 q) (h' : Fr n0 n1 d0 d1 q') : q = q' := by
  have a := h.1.z.symm.trans h'.1.z
  have b := h.2.z.symm.trans h'.2.z
  exact Rat.ext a (by omega)
theorem sgn_nil {a0 : Bool} {a1 : List Int} {x : Int} (h : Nm W a0 a1 x) : sgn a0 a1 = a0 ∧ tl a1 = a1 := by
  have e := h.c.2
  refine ⟨?_, e⟩
  unfold sgn
  rw [e]
  cases a0
  · rfl
  · have := h.sg rfl
    cases a1 with
    | nil => exact absurd rfl this
    | cons _ _ => simp
theorem Of_nm {a0 : Bool} {a1 : List Int} {x : Int} (h : Nm W a0 a1 x) (hl : a1.length ≤ 1000000000) : Rn (fun k => Fbig_Of k a0 a1) (a0, a1) := by
  have := Of_ev a0 a1 hl
  rwa [(sgn_nil h).1, (sgn_nil h).2] at this
theorem Take_nm {a0 : Bool} {a1 : List Int} {x : Int} (h : Nm W a0 a1 x) (hl : a1.length ≤ 1000000000) : Rn (fun k => Fwide_Take k a0 a1) (a0, a1) := by
  have := Take_ev a0 a1 hl
  rwa [(sgn_nil h).1, (sgn_nil h).2] at this
theorem Quo_ev (z x0 y0 : Bool) (x1 y1 : List Int) {x y : Int} (nx : Nm W x0 x1 x) (ny : Nm W y0 y1 y) (hx : x1.length ≤ 10000000) (hy : y1.length ≤ 10000000) (hy0 : y ≠ 0) :
    ∃ s q, Rn (fun k => Fbig_Int_Quo_gsh k z x0 x1 y0 y1) (s, q, x0, x1, y0, y1) ∧ Nm W s q (x.tdiv y) ∧ q.length ≤ x1.length := by
  have hn : y1 ≠ [] := by
    intro e
    rw [e] at ny
    have := ny.z
    cases y0 <;> simp [V] at this <;> omega
  obtain ⟨s, q, t, r, h1, h2, h3, h4, h5⟩ := QuoRem_ev z x0 y0 false x1 y1 nx ny hx hy hn
  exact ⟨s, q, Rn.up (f := fun k => Fbig_Int_Quo_gsh k z x0 x1 y0 y1) (Rn.bind h1 (Rn.pure _)), h2, h4⟩
theorem num_eq (x : Int) {y : Int} (h : y ≠ 0) : (Rat.divInt x y).num = x.tdiv (if y < 0 then -(Int.gcd x y : Int) else (Int.gcd x y : Int)) := by
  have hd := Int.gcd_dvd_left x y
  rw [Rat.num_divInt, Int.gcd_comm y x]
  by_cases hy : y < 0
  · rw [if_pos hy, Int.sign_eq_neg_one_of_neg hy, Int.tdiv_neg, Int.tdiv_eq_ediv_of_dvd hd, Int.neg_one_mul, Int.neg_ediv_of_dvd hd]
  · rw [if_neg hy, Int.sign_eq_one_of_pos (by omega), Int.tdiv_eq_ediv_of_dvd hd, Int.one_mul]
theorem den_eq (x : Int) {y : Int} (h : y ≠ 0) : ((Rat.divInt x y).den : Int) = y.tdiv (if y < 0 then -(Int.gcd x y : Int) else (Int.gcd x y : Int)) := by
  have hd := Int.gcd_dvd_right x y
  rw [Rat.den_divInt, if_neg h, Int.gcd_comm y x, Int.natCast_ediv]
  by_cases hy : y < 0
  · rw [if_pos hy, Int.tdiv_neg, Int.tdiv_eq_ediv_of_dvd hd, ← Int.neg_ediv_of_dvd hd]
    congr 1; omega
  · rw [if_neg hy, Int.tdiv_eq_ediv_of_dvd hd]
    congr 1; omega
theorem frac_ev (z0 z1 n0 d0 : Bool) (n1 d1 : List Int) {x y : Int} (nx : Nm W n0 n1 x) (ny : Nm W d0 d1 y) (hx : n1.length ≤ 1000000) (hy : d1.length ≤ 1000000) (hy0 : y ≠ 0) :
    ∃ s p t r, Rn (fun k => Fbig_Rat_frac_xda k z0 z1 n0 n1 d0 d1) (s, p, t, r, n0, n1, d0, d1) ∧ Fr s p t r (Rat.divInt x y) ∧ p.length ≤ n1.length ∧ r.length ≤ d1.length := by
  obtain ⟨g, g1, g2, g3⟩ := Gcd_ev n0 d0 n1 d1 nx ny (by omega) (by omega)
  have hg : (0 : Int) < Int.gcd x y := by
    have := Int.gcd_pos_of_ne_zero_right x hy0
    omega
  have hd := ny.neg (B := W) (by decide)
  have hgn : g ≠ [] := by
    intro e
    rw [e] at g2
    have := g2.z
    simp [V] at this
    omega
  have ex := num_eq x hy0
  have ey := den_eq x hy0
  cases d0
  · have hyp : ¬ y < 0 := by simpa using hd
    rw [if_neg hyp] at ex ey
    obtain ⟨s, p, a1, a2, a3⟩ := Quo_ev false n0 false n1 g nx g2 (by omega) (by omega) (by omega)
    obtain ⟨t, r, b1, b2, b3⟩ := Quo_ev false false false d1 g ny g2 (by omega) (by omega) (by omega)
    rw [← ex] at a2
    rw [← ey] at b2
    refine ⟨s, p, t, r, Rn.up (f := fun k => Fbig_Rat_frac_xda k z0 z1 n0 n1 false d1) ?_, ⟨a2, b2⟩, a3, b3⟩
    show Rn (fun k => bbig_Rat_frac_xda k z0 z1 n0 n1 false d1) _
    unfold bbig_Rat_frac_xda
    refine Rn.bind g1 ?_
    (first | (refine Rn.t ?hc ?_; case hc => simp (config := { implicitDefEqProofs := false, maxSteps := 2000000 }) (disch := omega) only [ps, ↓reduceIte, reduceCtorEq, Int.reduceLT, Int.reduceLE, Int.reduceEq, Nat.reduceLT, Nat.reduceLeDiff, Nat.reduceEqDiff, Int.reduceNeg, eitherK]) | (refine Rn.f ?hc ?_; case hc => simp (config := { implicitDefEqProofs := false, maxSteps := 2000000 }) (disch := omega) only [ps, ↓reduceIte, reduceCtorEq, Int.reduceLT, Int.reduceLE, Int.reduceEq, Nat.reduceLT, Nat.reduceLeDiff, Nat.reduceEqDiff, Int.reduceNeg, eitherK]))
    exact Rn.bind a1 (Rn.bind b1 (Rn.pure _))
  · have hyp : y < 0 := by simpa using hd
    rw [if_pos hyp] at ex ey
    have g2' : Nm W true g (-(Int.gcd x y : Int)) := ⟨g2.c, fun _ => hgn, by have := g2.z; simp at this ⊢; omega⟩
    obtain ⟨s, p, a1, a2, a3⟩ := Quo_ev false n0 true n1 g nx g2' (by omega) (by omega) (by omega)
    obtain ⟨t, r, b1, b2, b3⟩ := Quo_ev false true true d1 g ny g2' (by omega) (by omega) (by omega)
    rw [← ex] at a2
    rw [← ey] at b2
    refine ⟨s, p, t, r, Rn.up (f := fun k => Fbig_Rat_frac_xda k z0 z1 n0 n1 true d1) ?_, ⟨a2, b2⟩, a3, b3⟩
    show Rn (fun k => bbig_Rat_frac_xda k z0 z1 n0 n1 true d1) _
    unfold bbig_Rat_frac_xda
    refine Rn.bind g1 ?_
    (first | (refine Rn.t ?hc ?_; case hc => simp (config := { implicitDefEqProofs := false, maxSteps := 2000000 }) (disch := omega) only [ps, ↓reduceIte, reduceCtorEq, Int.reduceLT, Int.reduceLE, Int.reduceEq, Nat.reduceLT, Nat.reduceLeDiff, Nat.reduceEqDiff, Int.reduceNeg, eitherK]) | (refine Rn.f ?hc ?_; case hc => simp (config := { implicitDefEqProofs := false, maxSteps := 2000000 }) (disch := omega) only [ps, ↓reduceIte, reduceCtorEq, Int.reduceLT, Int.reduceLE, Int.reduceEq, Nat.reduceLT, Nat.reduceLeDiff, Nat.reduceEqDiff, Int.reduceNeg, eitherK]))
    exact Rn.bind a1 (Rn.bind b1 (Rn.pure _))
theorem Frac_ev (n0 d0 : Bool) (n1 d1 : List Int) {x y : Int} (nx : Nm W n0 n1 x) (ny : Nm W d0 d1 y) (hx : n1.length ≤ 1000000) (hy : d1.length ≤ 1000000) (hy0 : y ≠ 0) :
    ∃ s p t r, Rn (fun k => Fbig_Frac_ddu k n0 n1 d0 d1) (n0, n1, d0, d1, s, p, t, r) ∧ Fr s p t r (Rat.divInt x y) ∧ p.length ≤ n1.length ∧ r.length ≤ d1.length := by
  obtain ⟨s, p, t, r, h1, h2⟩ := frac_ev false false n0 d0 n1 d1 nx ny hx hy hy0
  exact ⟨s, p, t, r, Rn.up (f := fun k => Fbig_Frac_ddu k n0 n1 d0 d1) (Rn.bind h1 (Rn.pure _)), h2⟩
section
variable {z0 z2 : Bool} {z1 z3 : List Int} {q : Rat} (h : Fr z0 z1 z2 z3 q) (h1 : z1.length ≤ 1000000) (h3 : z3.length ≤ 1000000)
include h h1 h3
theorem Num_ev : Rn (fun k => Fbig_Rat_Num_plq k z0 z1 z2 z3) (z0, z1, z2, z3, z0, z1) :=
  Rn.up (f := fun k => Fbig_Rat_Num_plq k z0 z1 z2 z3) (Rn.bind (Of_nm h.1 (by omega)) (Rn.pure _))
theorem Denom_ev : Rn (fun k => Fbig_Rat_Denom_plq k z0 z1 z2 z3) (z0, z1, z2, z3, z2, z3) := by
  refine Rn.up (f := fun k => Fbig_Rat_Denom_plq k z0 z1 z2 z3) ?_
  show Rn (fun k => bbig_Rat_Denom_plq k z0 z1 z2 z3) _
  unfold bbig_Rat_Denom_plq
  have hn := h.ne
  have hd := h.d0
  subst hd
  have : 0 < z3.length := by
    cases z3 with
    | nil => exact absurd rfl hn
    | cons _ _ => simp
  (first | (refine Rn.t ?hc ?_; case hc => simp (config := { implicitDefEqProofs := false, maxSteps := 2000000 }) (disch := omega) only [ps, ↓reduceIte, reduceCtorEq, Int.reduceLT, Int.reduceLE, Int.reduceEq, Nat.reduceLT, Nat.reduceLeDiff, Nat.reduceEqDiff, Int.reduceNeg, eitherK]) | (refine Rn.f ?hc ?_; case hc => simp (config := { implicitDefEqProofs := false, maxSteps := 2000000 }) (disch := omega) only [ps, ↓reduceIte, reduceCtorEq, Int.reduceLT, Int.reduceLE, Int.reduceEq, Nat.reduceLT, Nat.reduceLeDiff, Nat.reduceEqDiff, Int.reduceNeg, eitherK]))
  exact Rn.bind (Of_nm h.2 (by omega)) (Rn.pure _)
theorem wFrac_ev : -- notG=02Z
    Rn (fun k => Fwide_Frac_plq k z0 z1 z2 z3) (z0, z1, z2, z3, z0, z1, z2, z3) := by
  refine Rn.up (f := fun k => Fwide_Frac_plq k z0 z1 z2 z3) ?_
  show Rn (fun k => bwide_Frac_plq k z0 z1 z2 z3) _
  unfold bwide_Frac_plq
  refine Rn.bind (Num_ev h h1 h3) (Rn.bind (Give1_ev h.1 (show z1.length ≤ 1000000000 by omega)) (Rn.bind (Denom_ev h h1 h3) (Rn.bind (Give1_ev h.2 (show z3.length ≤ 1000000000 by omega)) ?_)))
  simp only [List.take_length]
  (first | (refine Rn.t ?hc ?_; case hc => simp (config := { implicitDefEqProofs := false, maxSteps := 2000000 }) (disch := omega) only [ps, ↓reduceIte, reduceCtorEq, Int.reduceLT, Int.reduceLE, Int.reduceEq, Nat.reduceLT, Nat.reduceLeDiff, Nat.reduceEqDiff, Int.reduceNeg, eitherK]) | (refine Rn.f ?hc ?_; case hc => simp (config := { implicitDefEqProofs := false, maxSteps := 2000000 }) (disch := omega) only [ps, ↓reduceIte, reduceCtorEq, Int.reduceLT, Int.reduceLE, Int.reduceEq, Nat.reduceLT, Nat.reduceLeDiff, Nat.reduceEqDiff, Int.reduceNeg, eitherK]))
  (first | (refine Rn.t ?hc ?_; case hc => simp (config := { implicitDefEqProofs := false, maxSteps := 2000000 }) (disch := omega) only [ps, ↓reduceIte, reduceCtorEq, Int.reduceLT, Int.reduceLE, Int.reduceEq, Nat.reduceLT, Nat.reduceLeDiff, Nat.reduceEqDiff, Int.reduceNeg, eitherK]) | (refine Rn.f ?hc ?_; case hc => simp (config := { implicitDefEqProofs := false, maxSteps := 2000000 }) (disch := omega) only [ps, ↓reduceIte, reduceCtorEq, Int.reduceLT, Int.reduceLE, Int.reduceEq, Nat.reduceLT, Nat.reduceLeDiff, Nat.reduceEqDiff, Int.reduceNeg, eitherK]))
  exact Rn.pure _
end
end Go.Proofs.YtlnailgfialgnaaGreatDoor.Am

/- Plain reckoning: the program's fractions reckon as fractions do. -/
set_option linter.unusedVariables false
set_option linter.unusedSectionVars false
set_option linter.unusedSimpArgs false
set_option maxRecDepth 10000
namespace Go.Proofs.YtlnailgfialgnaaGreatDoor.Am
open Go

/-- The order of fractions, as a number. -/
def cmpR (a b : Rat) : Int := cmpZ (a.num * b.den) (b.num * a.den)
section
variable {x0 x2 y0 y2 : Bool} {x1 x3 y1 y3 : List Int} {x y : Rat} (hx : Fr x0 x1 x2 x3 x) (hy : Fr y0 y1 y2 y3 y) (l1 : x1.length ≤ 100000) (l3 : x3.length ≤ 100000) (m1 : y1.length ≤ 100000) (m3 : y3.length ≤ 100000)
include hx hy l1 l3 m1 m3
theorem rCmp_ev : Rn (fun k => Fbig_Rat_Cmp_jyb k x0 x1 x2 x3 y0 y1 y2 y3) (cmpR x y, x0, x1, x2, x3, y0, y1, y2, y3) := by
  have dX := Denom_ev hx (by omega) (by omega)
  have dY := Denom_ev hy (by omega) (by omega)
  obtain ⟨s1, p1, a1, a2, a3⟩ := Mulo_ev false x0 y2 x2 x1 y3 x3 hx.1 hy.2 (by omega) (by omega)
  obtain ⟨s2, p2, b1, b2, b3⟩ := Mulo_ev false y0 x2 y2 y1 x3 y3 hy.1 hx.2 (by omega) (by omega)
  refine Rn.up (f := fun k => Fbig_Rat_Cmp_jyb k x0 x1 x2 x3 y0 y1 y2 y3) ?_
  have cE := Cmp_ev s1 s2 p1 p2 a2 b2 (by omega) (by omega)
  exact Rn.bind dY (Rn.bind a1 (Rn.bind dX (Rn.bind b1 (Rn.bind cE (Rn.pure _)))))
end
end Go.Proofs.YtlnailgfialgnaaGreatDoor.Am

/- Plain reckoning: the reference's whole numbers, base 65536: magnitudes. -/
set_option linter.unusedVariables false
set_option linter.unusedSimpArgs false
set_option maxRecDepth 10000
namespace Go.Proofs.YtlnailgfialgnaaGreatDoor.Am
open Go

/-- Digits of the reference: 16 bits. -/
abbrev U : Int := 65536
theorem Dg.getD {B : Int} (hB : 0 < B) {l : List Int} (h : Dg B l) (i : Nat) : 0 ≤ l[i]?.getD 0 ∧ l[i]?.getD 0 < B := by
  cases e : l[i]? with
  | none => simp [hB]
  | some x => exact h.get e

end Go.Proofs.YtlnailgfialgnaaGreatDoor.Am

/- Plain reckoning: what is right and what is the same, by the document's reference; arguments' words. -/
set_option linter.unusedVariables false
set_option linter.unusedSimpArgs false
set_option maxRecDepth 10000
namespace Go.Proofs.YtlnailgfialgnaaGreatDoor.Am
open Go

theorem Rn.get {α : Type} {f : Nat → Option α} {r : α} (h : Rn f r) : ∃ k, f k = some r := by
  obtain ⟨K, h⟩ := h
  exact ⟨K, h K (Nat.le_refl _)⟩
end Go.Proofs.YtlnailgfialgnaaGreatDoor.Am

/- Plain reckoning: numbers lent and looked at again; the reference's calls of two numbers. -/
set_option linter.unusedVariables false
set_option linter.unusedSimpArgs false
set_option maxRecDepth 10000
namespace Go.Proofs.YtlnailgfialgnaaGreatDoor.Am
open Go

/-- The mark behind a number that is lent. -/
abbrev mk (a1 : List Int) : List Int := a1 ++ [11259375]
section
variable {a0 b0 : Bool} {a1 b1 : List Int} (la : a1.length ≤ 9223372036854775807) (lb : b1.length ≤ 9223372036854775807) (da : Dg W a1) (db : Dg W b1)
include la lb da db
end
end Go.Proofs.YtlnailgfialgnaaGreatDoor.Am

/- Plain reckoning: right fractions, and the layer's calls of two of them. -/
set_option linter.unusedVariables false
set_option linter.unusedSectionVars false
set_option linter.unusedSimpArgs false
set_option maxRecDepth 10000
namespace Go.Proofs.YtlnailgfialgnaaGreatDoor.Am
open Go

/-- What a fraction is refused for. -/
def faultR (n0 : Bool) (n1 : List Int) (d0 : Bool) (d1 : List Int) : Int :=
  if Ri n0 n1 ∧ Ri d0 d1 then (if d0 = false ∧ d1 ≠ [] ∧ Int.gcd (Zv W n0 n1) (Zv W d0 d1) = 1 then 0 else 20) else 10
theorem faultR_cases (n0 : Bool) (n1 : List Int) (d0 : Bool) (d1 : List Int) : faultR n0 n1 d0 d1 = 0 ∨ faultR n0 n1 d0 d1 = 10 ∨ faultR n0 n1 d0 d1 = 20 := by
  unfold faultR
  split
  · split
    · exact .inl rfl
    · exact .inr (.inr rfl)
  · exact .inr (.inl rfl)
theorem zv_pos {d1 : List Int} {d0 : Bool} (h0 : d0 = false) (hne : d1 ≠ []) (cd : Cn W d1) : 0 < Zv W d0 d1 := by
  subst h0
  have p := V_nonneg (B := W) (by decide) cd.1
  have q := mt (cd.nil_iff (B := W) (by decide)).2 hne
  simp [Zv]; omega
theorem num_of_one {x y : Int} (hy : 0 < y) (hg : Int.gcd x y = 1) : (Rat.divInt x y).num = x ∧ ((Rat.divInt x y).den : Int) = y := by
  refine ⟨?_, ?_⟩
  · rw [num_eq x (by omega), if_neg (by omega), hg]; simp
  · rw [den_eq x (by omega), if_neg (by omega), hg]; simp
theorem fault_fr {n0 d0 : Bool} {n1 d1 : List Int} (dn : Dg W n1) (dd : Dg W d1) (h : faultR n0 n1 d0 d1 = 0) : ∃ q, Fr n0 n1 d0 d1 q ∧ n1.length ≤ 72 ∧ d1.length ≤ 72 := by
  unfold faultR at h
  split at h
  · rename_i hr
    split at h
    · rename_i hc
      obtain ⟨h1, h2, h3⟩ := hc
      have a := hr.1.nm dn
      have b := hr.2.nm dd
      obtain ⟨e1, e2⟩ := num_of_one (zv_pos h1 h2 b.c) h3
      exact ⟨Rat.divInt (Zv W n0 n1) (Zv W d0 d1), ⟨a.cast e1.symm, b.cast e2.symm⟩, hr.1.1, hr.2.1⟩
    · cases h
  · cases h
theorem fr_fault {n0 d0 : Bool} {n1 d1 : List Int} {q : Rat} (h : Fr n0 n1 d0 d1 q) (l1 : n1.length ≤ 72) (l3 : d1.length ≤ 72) : faultR n0 n1 d0 d1 = 0 := by
  unfold faultR
  rw [if_pos ⟨h.1.ri l1, h.2.ri l3⟩, if_pos]
  refine ⟨h.d0, h.ne, ?_⟩
  rw [show Zv W n0 n1 = q.num from h.1.z, show Zv W d0 d1 = q.den from h.2.z]
  have := q.reduced
  show Nat.gcd q.num.natAbs (q.den : Int).natAbs = 1
  rw [Int.natAbs_natCast]
  exact this
theorem one_iff {l : List Int} {g : Nat} (h : Nm W false l g) : l = [1] ↔ g = 1 := by
  have hc : Cn W [1] := ⟨Dg.cons (by decide) Dg.nil, rfl⟩
  have hv := h.abs (by decide)
  constructor
  · rintro rfl
    simp [V] at hv
    omega
  · rintro rfl
    refine Cn.ext (B := W) (by decide) h.c hc ?_
    rw [hv]; simp [V]
section
variable {n0 d0 : Bool} {n1 d1 : List Int} (la : n1.length ≤ 9223372036854775807) (lb : d1.length ≤ 9223372036854775807) (da : Dg W n1) (db : Dg W d1)
include la lb da db
theorem ratCheck_ev : Rn (fun k => Frat_Check k n0 n1 d0 d1) (faultR n0 n1 d0 d1) := by
  refine Rn.up (f := fun k => Frat_Check k n0 n1 d0 d1) ?_
  show Rn (fun k => brat_Check k n0 n1 d0 d1) _
  unfold brat_Check
  refine Rn.bind (check_ev n0 n1 la da) ?_
  by_cases hn : Ri n0 n1
  case neg =>
    have e : faultR n0 n1 d0 d1 = 10 := if_neg (fun c => hn c.1)
    rw [e, if_neg hn]
    (first | (refine Rn.t ?hc ?_; case hc => simp (config := { implicitDefEqProofs := false, maxSteps := 2000000 }) (disch := omega) only [ps, ↓reduceIte, reduceCtorEq, Int.reduceLT, Int.reduceLE, Int.reduceEq, Nat.reduceLT, Nat.reduceLeDiff, Nat.reduceEqDiff, Int.reduceNeg, eitherK]) | (refine Rn.f ?hc ?_; case hc => simp (config := { implicitDefEqProofs := false, maxSteps := 2000000 }) (disch := omega) only [ps, ↓reduceIte, reduceCtorEq, Int.reduceLT, Int.reduceLE, Int.reduceEq, Nat.reduceLT, Nat.reduceLeDiff, Nat.reduceEqDiff, Int.reduceNeg, eitherK]))
    exact Rn.pure _
  rw [if_pos hn]
  (first | (refine Rn.t ?hc ?_; case hc => simp (config := { implicitDefEqProofs := false, maxSteps := 2000000 }) (disch := omega) only [ps, ↓reduceIte, reduceCtorEq, Int.reduceLT, Int.reduceLE, Int.reduceEq, Nat.reduceLT, Nat.reduceLeDiff, Nat.reduceEqDiff, Int.reduceNeg, eitherK]) | (refine Rn.f ?hc ?_; case hc => simp (config := { implicitDefEqProofs := false, maxSteps := 2000000 }) (disch := omega) only [ps, ↓reduceIte, reduceCtorEq, Int.reduceLT, Int.reduceLE, Int.reduceEq, Nat.reduceLT, Nat.reduceLeDiff, Nat.reduceEqDiff, Int.reduceNeg, eitherK]))
  refine Rn.bind (check_ev d0 d1 lb db) ?_
  by_cases hd : Ri d0 d1
  case neg =>
    have e : faultR n0 n1 d0 d1 = 10 := if_neg (fun c => hd c.2)
    rw [e, if_neg hd]
    (first | (refine Rn.t ?hc ?_; case hc => simp (config := { implicitDefEqProofs := false, maxSteps := 2000000 }) (disch := omega) only [ps, ↓reduceIte, reduceCtorEq, Int.reduceLT, Int.reduceLE, Int.reduceEq, Nat.reduceLT, Nat.reduceLeDiff, Nat.reduceEqDiff, Int.reduceNeg, eitherK]) | (refine Rn.f ?hc ?_; case hc => simp (config := { implicitDefEqProofs := false, maxSteps := 2000000 }) (disch := omega) only [ps, ↓reduceIte, reduceCtorEq, Int.reduceLT, Int.reduceLE, Int.reduceEq, Nat.reduceLT, Nat.reduceLeDiff, Nat.reduceEqDiff, Int.reduceNeg, eitherK]))
    exact Rn.pure _
  rw [if_pos hd]
  (first | (refine Rn.t ?hc ?_; case hc => simp (config := { implicitDefEqProofs := false, maxSteps := 2000000 }) (disch := omega) only [ps, ↓reduceIte, reduceCtorEq, Int.reduceLT, Int.reduceLE, Int.reduceEq, Nat.reduceLT, Nat.reduceLeDiff, Nat.reduceEqDiff, Int.reduceNeg, eitherK]) | (refine Rn.f ?hc ?_; case hc => simp (config := { implicitDefEqProofs := false, maxSteps := 2000000 }) (disch := omega) only [ps, ↓reduceIte, reduceCtorEq, Int.reduceLT, Int.reduceLE, Int.reduceEq, Nat.reduceLT, Nat.reduceLeDiff, Nat.reduceEqDiff, Int.reduceNeg, eitherK]))
  have e0 : faultR n0 n1 d0 d1 = if d0 = false ∧ d1 ≠ [] ∧ Int.gcd (Zv W n0 n1) (Zv W d0 d1) = 1 then 0 else 20 := if_pos ⟨hn, hd⟩
  cases d0
  case true =>
    rw [e0.trans (if_neg (fun c => by cases c.1))]
    (first | (refine Rn.t ?hc ?_; case hc => simp (config := { implicitDefEqProofs := false, maxSteps := 2000000 }) (disch := omega) only [ps, ↓reduceIte, reduceCtorEq, Int.reduceLT, Int.reduceLE, Int.reduceEq, Nat.reduceLT, Nat.reduceLeDiff, Nat.reduceEqDiff, Int.reduceNeg, eitherK]) | (refine Rn.f ?hc ?_; case hc => simp (config := { implicitDefEqProofs := false, maxSteps := 2000000 }) (disch := omega) only [ps, ↓reduceIte, reduceCtorEq, Int.reduceLT, Int.reduceLE, Int.reduceEq, Nat.reduceLT, Nat.reduceLeDiff, Nat.reduceEqDiff, Int.reduceNeg, eitherK]))
    exact Rn.pure _
  (first | (refine Rn.t ?hc ?_; case hc => simp (config := { implicitDefEqProofs := false, maxSteps := 2000000 }) (disch := omega) only [ps, ↓reduceIte, reduceCtorEq, Int.reduceLT, Int.reduceLE, Int.reduceEq, Nat.reduceLT, Nat.reduceLeDiff, Nat.reduceEqDiff, Int.reduceNeg, eitherK]) | (refine Rn.f ?hc ?_; case hc => simp (config := { implicitDefEqProofs := false, maxSteps := 2000000 }) (disch := omega) only [ps, ↓reduceIte, reduceCtorEq, Int.reduceLT, Int.reduceLE, Int.reduceEq, Nat.reduceLT, Nat.reduceLeDiff, Nat.reduceEqDiff, Int.reduceNeg, eitherK]))
  by_cases h0 : d1 = []
  · rw [e0.trans (if_neg (fun c => c.2.1 h0))]
    subst h0
    (first | (refine Rn.t ?hc ?_; case hc => simp (config := { implicitDefEqProofs := false, maxSteps := 2000000 }) (disch := omega) only [ps, ↓reduceIte, reduceCtorEq, Int.reduceLT, Int.reduceLE, Int.reduceEq, Nat.reduceLT, Nat.reduceLeDiff, Nat.reduceEqDiff, Int.reduceNeg, eitherK]) | (refine Rn.f ?hc ?_; case hc => simp (config := { implicitDefEqProofs := false, maxSteps := 2000000 }) (disch := omega) only [ps, ↓reduceIte, reduceCtorEq, Int.reduceLT, Int.reduceLE, Int.reduceEq, Nat.reduceLT, Nat.reduceLeDiff, Nat.reduceEqDiff, Int.reduceNeg, eitherK]))
    exact Rn.pure _
  · have l0 : 0 < d1.length := by
      cases d1 with
      | nil => exact absurd rfl h0
      | cons _ _ => simp
    (first | (refine Rn.t ?hc ?_; case hc => simp (config := { implicitDefEqProofs := false, maxSteps := 2000000 }) (disch := omega) only [ps, ↓reduceIte, reduceCtorEq, Int.reduceLT, Int.reduceLE, Int.reduceEq, Nat.reduceLT, Nat.reduceLeDiff, Nat.reduceEqDiff, Int.reduceNeg, eitherK]) | (refine Rn.f ?hc ?_; case hc => simp (config := { implicitDefEqProofs := false, maxSteps := 2000000 }) (disch := omega) only [ps, ↓reduceIte, reduceCtorEq, Int.reduceLT, Int.reduceLE, Int.reduceEq, Nat.reduceLT, Nat.reduceLeDiff, Nat.reduceEqDiff, Int.reduceNeg, eitherK]))
    obtain ⟨l, g1, g2, g3⟩ := limbGcd_ev la lb da db hn hd
    refine Rn.bind g1 ?_
    have ho := one_iff g2
    by_cases hg : Int.gcd (Zv W n0 n1) (Zv W false d1) = 1
    · rw [e0.trans (if_pos ⟨rfl, h0, hg⟩)]
      have hl := ho.2 hg
      subst hl
      (first | (refine Rn.t ?hc ?_; case hc => simp (config := { implicitDefEqProofs := false, maxSteps := 2000000 }) (disch := omega) only [ps, ↓reduceIte, reduceCtorEq, Int.reduceLT, Int.reduceLE, Int.reduceEq, Nat.reduceLT, Nat.reduceLeDiff, Nat.reduceEqDiff, Int.reduceNeg, eitherK, List.length_cons]) | (refine Rn.f ?hc ?_; case hc => simp (config := { implicitDefEqProofs := false, maxSteps := 2000000 }) (disch := omega) only [ps, ↓reduceIte, reduceCtorEq, Int.reduceLT, Int.reduceLE, Int.reduceEq, Nat.reduceLT, Nat.reduceLeDiff, Nat.reduceEqDiff, Int.reduceNeg, eitherK, List.length_cons]))
      refine Rn.at (x := 1) rfl ?_
      (first | (refine Rn.t ?hc ?_; case hc => simp (config := { implicitDefEqProofs := false, maxSteps := 2000000 }) (disch := omega) only [ps, ↓reduceIte, reduceCtorEq, Int.reduceLT, Int.reduceLE, Int.reduceEq, Nat.reduceLT, Nat.reduceLeDiff, Nat.reduceEqDiff, Int.reduceNeg, eitherK]) | (refine Rn.f ?hc ?_; case hc => simp (config := { implicitDefEqProofs := false, maxSteps := 2000000 }) (disch := omega) only [ps, ↓reduceIte, reduceCtorEq, Int.reduceLT, Int.reduceLE, Int.reduceEq, Nat.reduceLT, Nat.reduceLeDiff, Nat.reduceEqDiff, Int.reduceNeg, eitherK]))
      exact Rn.pure _
    · rw [e0.trans (if_neg (fun c => hg c.2.2))]
      by_cases hlen : l.length = 1
      · obtain ⟨x, rfl⟩ : ∃ x, l = [x] := by
          match l, hlen with
          | [x], _ => exact ⟨x, rfl⟩
        (first | (refine Rn.t ?hc ?_; case hc => simp (config := { implicitDefEqProofs := false, maxSteps := 2000000 }) (disch := omega) only [ps, ↓reduceIte, reduceCtorEq, Int.reduceLT, Int.reduceLE, Int.reduceEq, Nat.reduceLT, Nat.reduceLeDiff, Nat.reduceEqDiff, Int.reduceNeg, eitherK, List.length_cons]) | (refine Rn.f ?hc ?_; case hc => simp (config := { implicitDefEqProofs := false, maxSteps := 2000000 }) (disch := omega) only [ps, ↓reduceIte, reduceCtorEq, Int.reduceLT, Int.reduceLE, Int.reduceEq, Nat.reduceLT, Nat.reduceLeDiff, Nat.reduceEqDiff, Int.reduceNeg, eitherK, List.length_cons]))
        refine Rn.at (x := x) rfl ?_
        have hx : x ≠ 1 := fun h => hg (ho.1 (by rw [h]))
        (first | (refine Rn.t ?hc ?_; case hc => simp (config := { implicitDefEqProofs := false, maxSteps := 2000000 }) (disch := omega) only [ps, ↓reduceIte, reduceCtorEq, Int.reduceLT, Int.reduceLE, Int.reduceEq, Nat.reduceLT, Nat.reduceLeDiff, Nat.reduceEqDiff, Int.reduceNeg, eitherK]) | (refine Rn.f ?hc ?_; case hc => simp (config := { implicitDefEqProofs := false, maxSteps := 2000000 }) (disch := omega) only [ps, ↓reduceIte, reduceCtorEq, Int.reduceLT, Int.reduceLE, Int.reduceEq, Nat.reduceLT, Nat.reduceLeDiff, Nat.reduceEqDiff, Int.reduceNeg, eitherK]))
        exact Rn.pure _
      · (first | (refine Rn.t ?hc ?_; case hc => simp (config := { implicitDefEqProofs := false, maxSteps := 2000000 }) (disch := omega) only [ps, ↓reduceIte, reduceCtorEq, Int.reduceLT, Int.reduceLE, Int.reduceEq, Nat.reduceLT, Nat.reduceLeDiff, Nat.reduceEqDiff, Int.reduceNeg, eitherK]) | (refine Rn.f ?hc ?_; case hc => simp (config := { implicitDefEqProofs := false, maxSteps := 2000000 }) (disch := omega) only [ps, ↓reduceIte, reduceCtorEq, Int.reduceLT, Int.reduceLE, Int.reduceEq, Nat.reduceLT, Nat.reduceLeDiff, Nat.reduceEqDiff, Int.reduceNeg, eitherK]))
        exact Rn.pure _
end
/-- A fraction's words, as a list's element. -/
abbrev RT := (Bool × List Int) × Bool × List Int
def RT.f (r : RT) : Int := faultR r.1.1 r.1.2 r.2.1 r.2.2
def RT.good (r : RT) : Prop := (r.1.2.length ≤ 9223372036854775807 ∧ Dg W r.1.2) ∧ r.2.2.length ≤ 9223372036854775807 ∧ Dg W r.2.2
def faultsR : Int → List RT → Int
  | w, [] => w
  | w, r :: t => if r.f = 10 then 10 else if r.f = 20 then faultsR 20 t else faultsR w t
def outA (o : (Int × Bool × List Int × Bool × List Int) ⊕ Int) : Int := match o with
  | .inl r => r.1
  | .inr r => r
theorem all_loop (l : List RT) (hl : l.length ≤ 1000000000000000000) (hg : ∀ r ∈ l, r.good) : ∀ (d i : Nat) (w : Int), i + d = l.length → ∃ o, (∃ K, ∀ k n, K ≤ k → d < n → Lrat_all_0 k n w l l.length i = some o) ∧ outA o = faultsR w (l.drop i) := by
  intro d
  induction d with
  | zero =>
    intro i w hi
    refine ⟨.inr w, ⟨0, fun k n _ hn => ?_⟩, ?_⟩
    · obtain ⟨n, rfl⟩ : ∃ m, n = m + 1 := ⟨n - 1, by omega⟩
      show Lrat_all_0s k (Lrat_all_0 k n) _ _ _ _ = _
      unfold Lrat_all_0s
      simp (config := { implicitDefEqProofs := false, maxSteps := 2000000 }) (disch := omega) only [ps, ↓reduceIte, reduceCtorEq, Int.reduceLT, Int.reduceLE, Int.reduceEq, Nat.reduceLT, Nat.reduceLeDiff, Nat.reduceEqDiff, Int.reduceNeg, eitherK]
    · rw [List.drop_of_length_le (by omega)]; rfl
  | succ d ih =>
    intro i w hi
    have hil : i < l.length := by omega
    obtain ⟨r, hr⟩ : ∃ r, l[i]? = some r := ⟨l[i], List.getElem?_eq_getElem hil⟩
    have hdrop : l.drop i = r :: l.drop (i + 1) := by
      rw [List.drop_eq_getElem_cons hil]
      rw [List.getElem?_eq_getElem hil] at hr
      cases hr; rfl
    have hgr := hg r (List.mem_of_getElem? hr)
    obtain ⟨K, hc⟩ := ratCheck_ev (n0 := r.1.1) (d0 := r.2.1) hgr.1.1 hgr.2.1 hgr.1.2 hgr.2.2
    have h1 : ((i : Int) + 1) = ((i + 1 : Nat) : Int) := rfl
    rw [hdrop]
    have hcs := faultR_cases r.1.1 r.1.2 r.2.1 r.2.2
    have step : ∀ (o : (Int × Bool × List Int × Bool × List Int) ⊕ Int) (K' : Nat), (∀ k n, K' ≤ k → d < n → Lrat_all_0s k (Lrat_all_0 k n) w l l.length i = some o) → ∃ K, ∀ k n, K ≤ k → d + 1 < n → Lrat_all_0 k n w l l.length i = some o := by
      intro o K' h
      refine ⟨K', fun k n hk hn => ?_⟩
      obtain ⟨n, rfl⟩ : ∃ m, n = m + 1 := ⟨n - 1, by omega⟩
      exact h k n hk (by omega)
    rcases hcs with hf | hf | hf
    · obtain ⟨o, ⟨K2, i1⟩, i2⟩ := ih (i + 1) w (by omega)
      refine ⟨o, step o (max K K2) fun k n hk hn => ?_, by rw [i2]; simp only [faultsR, RT.f, hf]; rfl⟩
      have c := hc k (by omega)
      rw [hf] at c
      rw [← i1 k n (by omega) hn]
      unfold Lrat_all_0s
      simp (config := { implicitDefEqProofs := false, maxSteps := 2000000 }) (disch := omega) only [ps, ↓reduceIte, reduceCtorEq, Int.reduceLT, Int.reduceLE, Int.reduceEq, Nat.reduceLT, Nat.reduceLeDiff, Nat.reduceEqDiff, Int.reduceNeg, eitherK, hr, c, h1]
    · refine ⟨_, step (.inl (10, r.1.1, r.1.2, r.2.1, r.2.2)) K fun k n hk hn => ?_, by simp only [faultsR, RT.f, hf]; rfl⟩
      have c := hc k (by omega)
      rw [hf] at c
      unfold Lrat_all_0s
      simp (config := { implicitDefEqProofs := false, maxSteps := 2000000 }) (disch := omega) only [ps, ↓reduceIte, reduceCtorEq, Int.reduceLT, Int.reduceLE, Int.reduceEq, Nat.reduceLT, Nat.reduceLeDiff, Nat.reduceEqDiff, Int.reduceNeg, eitherK, hr, c]
    · obtain ⟨o, ⟨K2, i1⟩, i2⟩ := ih (i + 1) 20 (by omega)
      refine ⟨o, step o (max K K2) fun k n hk hn => ?_, by rw [i2]; simp only [faultsR, RT.f, hf]; rfl⟩
      have c := hc k (by omega)
      rw [hf] at c
      rw [← i1 k n (by omega) hn]
      unfold Lrat_all_0s
      simp (config := { implicitDefEqProofs := false, maxSteps := 2000000 }) (disch := omega) only [ps, ↓reduceIte, reduceCtorEq, Int.reduceLT, Int.reduceLE, Int.reduceEq, Nat.reduceLT, Nat.reduceLeDiff, Nat.reduceEqDiff, Int.reduceNeg, eitherK, hr, c, h1]
theorem all_ev (l : List RT) (hl : l.length ≤ 1000000000000000000) (hg : ∀ r ∈ l, r.good) : Rn (fun k => Frat_all k l) (faultsR 0 l) := by
  obtain ⟨o, ⟨K, h1⟩, h2⟩ := all_loop l hl hg l.length 0 0 (by omega)
  refine Rn.up (f := fun k => Frat_all k l) (Rn.eq (K + l.length + 1) fun k hk => ?_)
  show brat_all k l = _
  unfold brat_all
  have h1' : Lrat_all_0 k k 0 l l.length (0 : Int) = some o := h1 k k (by omega) (by omega)
  rw [h1', Option.bind_some]
  rw [List.drop_zero] at h2
  rw [← h2]
  cases o <;> rfl
theorem faultsR_zero : ∀ (l : List RT) (w : Int), faultsR w l = 0 ↔ (w = 0 ∨ False) ∧ ∀ r ∈ l, r.f = 0 := by
  intro l
  induction l with
  | nil => intro w; simp [faultsR]
  | cons r t ih =>
    intro w
    simp only [faultsR]
    rcases faultR_cases r.1.1 r.1.2 r.2.1 r.2.2 with h | h | h
    · have h' : r.f = 0 := h
      simp [h', ih]
    · have h' : r.f = 10 := h
      simp [h']
    · have h' : r.f = 20 := h
      simp [h', ih]
theorem wRat_ev {z0 z2 : Bool} {z1 z3 : List Int} {q : Rat} (h : Fr z0 z1 z2 z3 q) (h1 : z1.length ≤ 1000000) (h3 : z3.length ≤ 1000000) : Rn (fun k => Fwide_Rat k z0 z1 z2 z3) (z0, z1, z2, z3) := by
  have hd := Rat.den_pos' q
  obtain ⟨s, p, t, r, e1, e2, e3, e4⟩ := Frac_ev z0 z2 z1 z3 h.1 h.2 h1 h3 (by omega)
  rw [Rat.num_divInt_den] at e2
  obtain ⟨rfl, rfl, rfl, rfl⟩ := e2.ext h
  have t1 := Take_nm h.1 (show p.length ≤ 1000000000 by omega)
  have t3 := Take_nm h.2 (show r.length ≤ 1000000000 by omega)
  exact Rn.up (f := fun k => Fwide_Rat k s p t r) (Rn.bind t1 (Rn.bind t3 (Rn.bind e1 (Rn.pure _))))
section
variable {x0 x2 y0 y2 : Bool} {x1 x3 y1 y3 : List Int} {x y : Rat} (hx : Fr x0 x1 x2 x3 x) (hy : Fr y0 y1 y2 y3 y) (l1 : x1.length ≤ 72) (l3 : x3.length ≤ 72) (m1 : y1.length ≤ 72) (m3 : y3.length ≤ 72)
include hx hy l1 l3 m1 m3
theorem all2_ok : Rn (fun k => Frat_all k (List.take 2 [((x0, x1), (x2, x3)), ((y0, y1), (y2, y3))])) 0 := by
  have e : faultsR 0 [((x0, x1), (x2, x3)), ((y0, y1), (y2, y3))] = 0 := by
    rw [faultsR_zero]
    refine ⟨.inl rfl, fun r hr => ?_⟩
    simp only [List.mem_cons, List.not_mem_nil, or_false] at hr
    rcases hr with rfl | rfl
    · exact fr_fault hx l1 l3
    · exact fr_fault hy m1 m3
  have := all_ev [((x0, x1), (x2, x3)), ((y0, y1), (y2, y3))] (by simp) (fun r hr => by
    simp only [List.mem_cons, List.not_mem_nil, or_false] at hr
    rcases hr with rfl | rfl
    · exact ⟨⟨show x1.length ≤ _ by omega, hx.1.c.1⟩, show x3.length ≤ _ by omega, hx.2.c.1⟩
    · exact ⟨⟨show y1.length ≤ _ by omega, hy.1.c.1⟩, show y3.length ≤ _ by omega, hy.2.c.1⟩)
  rw [e] at this
  exact this
theorem ratCmp_ev : Rn (fun k => Frat_Cmp k x0 x1 x2 x3 y0 y1 y2 y3) (cmpR x y, 0) := by
  refine Rn.up (f := fun k => Frat_Cmp k x0 x1 x2 x3 y0 y1 y2 y3) ?_
  show Rn (fun k => brat_Cmp k x0 x1 x2 x3 y0 y1 y2 y3) _
  unfold brat_Cmp
  refine Rn.bind (all2_ok hx hy l1 l3 m1 m3) ?_
  (first | (refine Rn.t ?hc ?_; case hc => simp (config := { implicitDefEqProofs := false, maxSteps := 2000000 }) (disch := omega) only [ps, ↓reduceIte, reduceCtorEq, Int.reduceLT, Int.reduceLE, Int.reduceEq, Nat.reduceLT, Nat.reduceLeDiff, Nat.reduceEqDiff, Int.reduceNeg, eitherK]) | (refine Rn.f ?hc ?_; case hc => simp (config := { implicitDefEqProofs := false, maxSteps := 2000000 }) (disch := omega) only [ps, ↓reduceIte, reduceCtorEq, Int.reduceLT, Int.reduceLE, Int.reduceEq, Nat.reduceLT, Nat.reduceLeDiff, Nat.reduceEqDiff, Int.reduceNeg, eitherK]))
  have wx := wRat_ev hx (by omega) (by omega)
  have wy := wRat_ev hy (by omega) (by omega)
  have wc := rCmp_ev hx hy (by omega) (by omega) (by omega) (by omega)
  exact Rn.bind wx (Rn.bind wy (Rn.bind wc (Rn.pure _)))
end
end Go.Proofs.YtlnailgfialgnaaGreatDoor.Am

/- Plain reckoning: a number's text. -/
set_option linter.unusedVariables false
set_option linter.unusedSimpArgs false
set_option maxRecDepth 10000
namespace Go.Proofs.YtlnailgfialgnaaGreatDoor.Am
open Go

/-- A number's text: the digits of its magnitude, the sign ahead. -/
structure Tx (z : Int) (s : ByteArray) : Prop where
  nz : z = 0 → s = bytesOf [48]
  ex : z ≠ 0 → ∃ l, Cn 10 l ∧ V 10 l = z.natAbs ∧ s = bytesOf ((if z < 0 then [45] else []) ++ (sg l).reverse)
theorem Tx.ext {z : Int} {s t : ByteArray} (h1 : Tx z s) (h2 : Tx z t) : s = t := by
  by_cases h : z = 0
  · rw [h1.nz h, h2.nz h]
  · obtain ⟨l, a1, a2, a3⟩ := h1.ex h
    obtain ⟨m, b1, b2, b3⟩ := h2.ex h
    rw [a3, b3, Cn.ext (by decide) a1 b1 (by rw [a2, b2])]
end Go.Proofs.YtlnailgfialgnaaGreatDoor.Am

/- Plain reckoning: decimal numbers, and fractions written over their first argument. -/
set_option linter.unusedVariables false
set_option linter.unusedSectionVars false
set_option linter.unusedSimpArgs false
set_option maxRecDepth 10000
namespace Go.Proofs.YtlnailgfialgnaaGreatDoor.Am
open Go

/-- Is it a right number? -/
def okN (m e : Int) : Bool := decide (m = 0 ∧ e = 0 ∨ m.tmod 10 ≠ 0 ∧ -999999999 ≤ m ∧ m ≤ 999999999 ∧ -18 ≤ e ∧ e ≤ 9)
/-- The number's value. -/
def numQ (m e : Int) : Rat := if e < 0 then Rat.divInt m ((10 ^ (-e).toNat : Nat) : Int) else Rat.divInt (((10 ^ e.toNat : Nat) : Int) * m) 1
theorem nm_len {s : Bool} {l : List Int} {x : Int} (h : Nm W s l x) (n : Nat) (hx : (x.natAbs : Int) < W ^ n) : l.length ≤ n :=
  (h.c.len_le (B := W) (by decide) n).2 (by rw [h.abs (B := W) (by decide)]; exact hx)
theorem W2 : (W ^ 2 : Int) = 18446744073709551616 := by decide
section
variable {x0 x2 y0 y2 : Bool} {x1 x3 y1 y3 : List Int} {x y : Rat} (hx : Fr x0 x1 x2 x3 x) (hy : Fr y0 y1 y2 y3 y) (l1 : x1.length ≤ 100000) (l3 : x3.length ≤ 100000) (m1 : y1.length ≤ 100000) (m3 : y3.length ≤ 100000)
include hx hy l1 l3 m1 m3
end
end Go.Proofs.YtlnailgfialgnaaGreatDoor.Am

/- Plain reckoning: what the probe says of a row: bounds, its least and greatest number, its mean. -/
set_option linter.unusedVariables false
set_option linter.unusedSimpArgs false
set_option maxRecDepth 10000
namespace Go.Proofs.YtlnailgfialgnaaGreatDoor.Am
open Go
def outV (v : Int) : Bool := decide (v > 2000000000000000000 ∨ v < -2000000000000000000)
/-- What a look at a row tells. -/
def lookV (l : List Int) : Int := if l.any outV = true then 4 else if l.length = 0 then 6 else 0
theorem outV_f {v : Int} : outV v = false ↔ okV v := by
  unfold outV okV
  rw [decide_eq_false_iff_not]
  omega
theorem pout_ev (v : Int) : Rn (fun k => Fprobe_outside k v) (outV v) := by
  refine Rn.up (f := fun k => Fprobe_outside k v) ?_
  show Rn (fun k => bprobe_outside k v) _
  unfold bprobe_outside outV
  by_cases c : v > 2000000000000000000
  · exact Rn.f (by rw [decide_eq_false_iff_not]; exact fun h => h c) (Rn.const (congrArg some (decide_eq_true (by omega)).symm))
  · exact Rn.t (decide_eq_false c) (Rn.const (congrArg some (decide_eq_decide.2 (by omega))))
theorem containsI_gen (F : Nat → Nat → List Int → Int → Int → Option (Int ⊕ Unit)) (G : Nat → Int → Option Bool) (bad : Int → Bool) (s : List Int) (hs : s.length ≤ 1000000000000000000)
    (hF : ∀ k q x x1, F k (q + 1) s x x1 = if ((decide (x1 < x)) = true) then (if ((0 : Int) ≤ x1) then Option.bind s[x1.toNat]? (fun x4 => Option.bind (G k x4) (fun r4 => if r4 = true then some (Sum.inl x1) else F k q s x (IntKind.i64.wrap (x1 + 1)))) else none) else some (Sum.inr ()))
    (hG : ∀ p ∈ s, Rn (fun k => G k p) (bad p)) : ∃ o, Rl (fun k q => F k q s s.length 0) o ∧ (s.any bad = false ∧ o = .inr () ∨ s.any bad = true ∧ ∃ a : Int, 0 ≤ a ∧ o = .inl a) := by
  obtain ⟨o, h1, h2⟩ := scan s.length 0 (fun k q i => F k q s s.length i) () (fun a => 0 ≤ a) (fun j => ∀ p, s[j]? = some p → bad p = false) (by
      refine Rl.up (f := fun k q => F k q s s.length s.length) ?_
      simp only [hF]
      exact Rl.f (by simp) (Rl.pure _)) (by
      intro i hs0 hi hok o ho
      refine Rl.up (f := fun k q => F k q s s.length (i : Int)) ?_
      simp only [hF]
      have eg := List.getElem?_eq_getElem hi
      have hg := hG _ (List.getElem_mem hi)
      rw [hok _ eg] at hg
      refine Rl.t (by rw [decide_eq_true_eq]; omega) (Rl.t (by omega) (Rl.at (by rw [Int.toNat_natCast]; exact eg) (Rl.bind hg (Rl.f (by decide) ?_))))
      rw [wrap_i64 (x := (i : Int) + 1) (by omega)]
      exact ho) (by
      intro i hs0 hi hok
      refine ⟨(i : Int), by omega, Rl.up (f := fun k q => F k q s s.length (i : Int)) ?_⟩
      simp only [hF]
      have eg := List.getElem?_eq_getElem hi
      have hg := hG _ (List.getElem_mem hi)
      have hb : bad (s[i]'hi) = true := by
        cases hb : bad (s[i]'hi) with
        | true => rfl
        | false => exact absurd (fun p hp => by rw [eg] at hp; cases hp; exact hb) hok
      rw [hb] at hg
      exact Rl.t (by rw [decide_eq_true_eq]; omega) (Rl.t (by omega) (Rl.at (by rw [Int.toNat_natCast]; exact eg) (Rl.bind hg (Rl.t (by decide) (Rl.pure _)))))) s.length 0 (by omega) (by omega)
  have hall : s.any bad = false ↔ ∀ j, 0 ≤ j → j < s.length → ∀ p, s[j]? = some p → bad p = false := by
    rw [List.any_eq_false]
    constructor
    · intro h j _ hj p hp; exact Bool.eq_false_iff.2 (h p (List.mem_of_getElem? hp))
    · intro h p hp
      obtain ⟨j, hj, e⟩ := List.mem_iff_getElem.1 hp
      rw [h j (Nat.zero_le _) hj p (by rw [List.getElem?_eq_getElem hj, e])]
      decide
  refine ⟨o, h1, ?_⟩
  rcases h2 with ⟨h2, rfl⟩ | ⟨h2, a, ha, rfl⟩
  · exact .inl ⟨hall.2 h2, rfl⟩
  · refine .inr ⟨?_, a, ha, rfl⟩
    rw [← Bool.not_eq_false, hall]
    exact h2
theorem lookV_ev (l : List Int) (hl : l.length ≤ 1000000000000000000) : Rn (fun k => Fprobe_look k l) (lookV l) := by
  obtain ⟨o, b1, b2⟩ := containsI_gen Lslices_IndexFunc_int64_int64__xcv_0 Fprobe_outside outV l hl (fun _ _ _ _ => rfl) (fun p _ => pout_ev p)
  have key : ∀ a, Rn (fun k => eitherK o (fun r4 => some r4) (fun r4 => some (-1))) a → Rn (fun k => Fslices_IndexFunc_int64_int64__xcv k l) a := by
    intro a h
    refine Rn.up (f := fun k => Fslices_IndexFunc_int64_int64__xcv k l) ?_
    show Rn (fun k => bslices_IndexFunc_int64_int64__xcv k l) _
    unfold bslices_IndexFunc_int64_int64__xcv
    exact Rn.bind b1.diag h
  have hc : Rn (fun k => Fslices_ContainsFunc_int64_int64__xcv k l) (l.any outV) := by
    refine Rn.up (f := fun k => Fslices_ContainsFunc_int64_int64__xcv k l) ?_
    show Rn (fun k => bslices_ContainsFunc_int64_int64__xcv k l) _
    unfold bslices_ContainsFunc_int64_int64__xcv
    rcases b2 with ⟨b2, rfl⟩ | ⟨b2, a, ha, rfl⟩
    · rw [b2]; exact Rn.bind (key _ (Rn.pure _)) (Rn.pure _)
    · rw [b2]; exact Rn.bind (key _ (Rn.pure _)) (Rn.const (congrArg some (decide_eq_true ha)))
  refine Rn.up (f := fun k => Fprobe_look k l) ?_
  show Rn (fun k => bprobe_look k l) _
  unfold bprobe_look
  refine Rn.bind hc ?_
  cases h : l.any outV
  · refine Rn.f (by decide) ?_
    by_cases c : l.length = 0
    · rw [show lookV l = 6 by unfold lookV; rw [h, if_neg (by decide), if_pos c]]; exact Rn.t (by simp [c]) (Rn.pure _)
    · rw [show lookV l = 0 by unfold lookV; rw [h, if_neg (by decide), if_neg c]]; exact Rn.f (by rw [beq_iff_eq]; omega) (Rn.pure _)
  · rw [show lookV l = 4 by unfold lookV; rw [h, if_pos rfl]]
    exact Rn.t rfl (Rn.pure _)
theorem rOut_ev (l : List Int) (hl : l.length ≤ 1000000000000000000) : Rn (fun k => Fshuntref20_Outside k l) (l.any outV) := by
  obtain ⟨o, h1, h2⟩ := rout_loop l hl
  have hall : l.any outV = false ↔ ∀ j, 0 ≤ j → j < l.length → okV (l.getD j 0) := by
    rw [List.any_eq_false]
    constructor
    · intro h j _ hj
      have hm : l.getD j 0 ∈ l := List.mem_of_getElem? (getD_some 0 hj)
      exact outV_f.1 (Bool.eq_false_iff.2 (h _ hm))
    · intro h p hp
      obtain ⟨j, hj, e⟩ := List.mem_iff_getElem.1 hp
      have := h j (Nat.zero_le _) hj
      rw [show l.getD j 0 = p by have h1 := getD_some (0 : Int) hj; rw [List.getElem?_eq_getElem hj, e] at h1; exact (Option.some.inj h1).symm] at this
      rw [outV_f.2 this]
      decide
  refine Rn.up (f := fun k => Fshuntref20_Outside k l) ?_
  show Rn (fun k => bshuntref20_Outside k l) _
  unfold bshuntref20_Outside
  refine Rn.bind h1.diag ?_
  rcases h2 with ⟨h2, rfl⟩ | ⟨h2, a, rfl, rfl⟩
  · rw [hall.2 h2]; exact Rn.pure _
  · rw [show l.any outV = true by rw [← Bool.not_eq_false, hall]; exact h2]; exact Rn.pure _
theorem min_loop (l : List Int) (hl : l.length ≤ 1000000000000000000) : ∀ (d i : Nat) (m : Int), i + d = l.length → Rl (fun k q => Lslices_Min_int64_int64__0 k q l m (i : Int)) ((l.drop i).foldl min m) := by
  intro d
  induction d with
  | zero =>
    intro i m e
    obtain rfl : i = l.length := by omega
    refine Rl.up (f := fun k q => Lslices_Min_int64_int64__0 k q l m (l.length : Int)) ?_
    show Rl (fun k q => Lslices_Min_int64_int64__0s k (Lslices_Min_int64_int64__0 k q) _ _ _) _
    unfold Lslices_Min_int64_int64__0s
    rw [List.drop_length]
    exact Rl.f (by simp) (Rl.pure _)
  | succ d ih =>
    intro i m e
    have hi : i < l.length := by omega
    refine Rl.up (f := fun k q => Lslices_Min_int64_int64__0 k q l m (i : Int)) ?_
    show Rl (fun k q => Lslices_Min_int64_int64__0s k (Lslices_Min_int64_int64__0 k q) _ _ _) _
    unfold Lslices_Min_int64_int64__0s
    rw [List.drop_eq_getElem_cons hi, List.foldl_cons, wrap_i64 (x := (i : Int) + 1) (by omega)]
    exact Rl.t (by rw [decide_eq_true_eq]; omega) (Rl.t (by omega) (Rl.at (by rw [Int.toNat_natCast]; exact List.getElem?_eq_getElem hi) (ih (i + 1) _ (by omega))))
theorem max_loop (l : List Int) (hl : l.length ≤ 1000000000000000000) : ∀ (d i : Nat) (m : Int), i + d = l.length → Rl (fun k q => Lslices_Max_int64_int64__0 k q l m (i : Int)) ((l.drop i).foldl max m) := by
  intro d
  induction d with
  | zero =>
    intro i m e
    obtain rfl : i = l.length := by omega
    refine Rl.up (f := fun k q => Lslices_Max_int64_int64__0 k q l m (l.length : Int)) ?_
    show Rl (fun k q => Lslices_Max_int64_int64__0s k (Lslices_Max_int64_int64__0 k q) _ _ _) _
    unfold Lslices_Max_int64_int64__0s
    rw [List.drop_length]
    exact Rl.f (by simp) (Rl.pure _)
  | succ d ih =>
    intro i m e
    have hi : i < l.length := by omega
    refine Rl.up (f := fun k q => Lslices_Max_int64_int64__0 k q l m (i : Int)) ?_
    show Rl (fun k q => Lslices_Max_int64_int64__0s k (Lslices_Max_int64_int64__0 k q) _ _ _) _
    unfold Lslices_Max_int64_int64__0s
    rw [List.drop_eq_getElem_cons hi, List.foldl_cons, wrap_i64 (x := (i : Int) + 1) (by omega)]
    exact Rl.t (by rw [decide_eq_true_eq]; omega) (Rl.t (by omega) (Rl.at (by rw [Int.toNat_natCast]; exact List.getElem?_eq_getElem hi) (ih (i + 1) _ (by omega))))
def minL (l : List Int) : Int := (l.drop 1).foldl min (l.headD 0)
def maxL (l : List Int) : Int := (l.drop 1).foldl max (l.headD 0)
theorem foldl_min_le : ∀ (l : List Int) (m : Int), l.foldl min m ≤ m ∧ (∀ v ∈ l, l.foldl min m ≤ v) ∧ (l.foldl min m = m ∨ l.foldl min m ∈ l)
  | [], m => ⟨Int.le_refl _, fun v h => (by cases h), .inl rfl⟩
  | x :: l, m => by
    obtain ⟨h1, h2, h3⟩ := foldl_min_le l (min m x)
    rw [List.foldl_cons]
    refine ⟨by omega, fun v hv => ?_, ?_⟩
    · rcases List.mem_cons.1 hv with rfl | hv
      · omega
      · exact h2 v hv
    · rcases h3 with h3 | h3
      · rcases (show min m x = m ∨ min m x = x by omega) with h | h
        · exact .inl (h3.trans h)
        · exact .inr (by rw [h3, h]; exact List.mem_cons_self ..)
      · exact .inr (List.mem_cons_of_mem _ h3)
theorem foldl_max_ge : ∀ (l : List Int) (m : Int), m ≤ l.foldl max m ∧ (∀ v ∈ l, v ≤ l.foldl max m) ∧ (l.foldl max m = m ∨ l.foldl max m ∈ l)
  | [], m => ⟨Int.le_refl _, fun v h => (by cases h), .inl rfl⟩
  | x :: l, m => by
    obtain ⟨h1, h2, h3⟩ := foldl_max_ge l (max m x)
    rw [List.foldl_cons]
    refine ⟨by omega, fun v hv => ?_, ?_⟩
    · rcases List.mem_cons.1 hv with rfl | hv
      · omega
      · exact h2 v hv
    · rcases h3 with h3 | h3
      · rcases (show max m x = m ∨ max m x = x by omega) with h | h
        · exact .inl (h3.trans h)
        · exact .inr (by rw [h3, h]; exact List.mem_cons_self ..)
      · exact .inr (List.mem_cons_of_mem _ h3)
theorem minL_spec {l : List Int} (h : l ≠ []) : minL l ∈ l ∧ ∀ v ∈ l, minL l ≤ v := by
  cases l with
  | nil => exact absurd rfl h
  | cons x r =>
    obtain ⟨h1, h2, h3⟩ := foldl_min_le r x
    refine ⟨?_, fun v hv => ?_⟩
    · rcases h3 with h3 | h3
      · exact List.mem_cons.2 (.inl h3)
      · exact List.mem_cons.2 (.inr h3)
    · rcases List.mem_cons.1 hv with rfl | hv
      · exact h1
      · exact h2 v hv
theorem maxL_spec {l : List Int} (h : l ≠ []) : maxL l ∈ l ∧ ∀ v ∈ l, v ≤ maxL l := by
  cases l with
  | nil => exact absurd rfl h
  | cons x r =>
    obtain ⟨h1, h2, h3⟩ := foldl_max_ge r x
    refine ⟨?_, fun v hv => ?_⟩
    · rcases h3 with h3 | h3
      · exact List.mem_cons.2 (.inl h3)
      · exact List.mem_cons.2 (.inr h3)
    · rcases List.mem_cons.1 hv with rfl | hv
      · exact h1
      · exact h2 v hv
theorem span_ev (l : List Int) (hl : l.length ≤ 1000000000000000000) : Rn (fun k => Fprobe_Span k l) (if lookV l = 0 then (minL l, maxL l, 0) else (0, 0, lookV l)) := by
  refine Rn.up (f := fun k => Fprobe_Span k l) ?_
  show Rn (fun k => bprobe_Span k l) _
  unfold bprobe_Span
  refine Rn.bind (lookV_ev l hl) ?_
  by_cases h : lookV l = 0
  rotate_left
  · rw [if_neg h]; exact Rn.t (by simp [h]) (Rn.pure _)
  rw [if_pos h]
  have hne : l.length ≠ 0 := by
    intro e
    unfold lookV at h
    rw [if_pos e] at h
    split at h <;> omega
  obtain ⟨x, r, rfl⟩ : ∃ x r, l = x :: r := by cases l with | nil => simp at hne | cons x r => exact ⟨x, r, rfl⟩
  refine Rn.f (by simp [h]) (Rn.bind (x := minL (x :: r)) ?_ (Rn.bind (x := maxL (x :: r)) ?_ (Rn.pure _)))
  · refine Rn.up (f := fun k => Fslices_Min_int64_int64_ k (x :: r)) ?_
    show Rn (fun k => bslices_Min_int64_int64_ k (x :: r)) _
    unfold bslices_Min_int64_int64_
    have := min_loop (x :: r) hl r.length 1 x (by simp; omega)
    exact Rn.f (by rw [decide_eq_true_eq]; simp; omega) (Rn.at rfl (Rn.bind this.diag (Rn.pure _)))
  · refine Rn.up (f := fun k => Fslices_Max_int64_int64_ k (x :: r)) ?_
    show Rn (fun k => bslices_Max_int64_int64_ k (x :: r)) _
    unfold bslices_Max_int64_int64_
    have := max_loop (x :: r) hl r.length 1 x (by simp; omega)
    exact Rn.f (by rw [decide_eq_true_eq]; simp; omega) (Rn.at rfl (Rn.bind this.diag (Rn.pure _)))
/-! the mean -/
theorem sum0_ev (yneg x : Bool) (y : List Int) (hy : y.length ≤ 1000000000) (cy : Cn W y) :
    ∃ s l, Rn (fun k => Fbig_Int_sum_soy k yneg y x) (s, l) ∧ Nm W s l ((if x then -(V W []) else V W []) + (if yneg then -(V W y) else V W y)) ∧ l.length ≤ max ([] : List Int).length y.length + 1 := by
  obtain ⟨s, l, h1, h2⟩ := sum_any x yneg [] y (Nat.zero_le _) hy Cn.nil cy (fun k neg w => Fbig_Int_set_cvg k neg w x) (fun neg w hw => set1_ev neg x w hw) (fun r => (r.1, r.2))
  exact ⟨s, l, Rn.up (f := fun k => Fbig_Int_sum_soy k yneg y x) h1, h2⟩
theorem Add0_ev (z y0 : Bool) (y1 : List Int) {y : Int} (ny : Nm W y0 y1 y) (hy : y1.length ≤ 1000000000) :
    ∃ s l, Rn (fun k => Fbig_Int_Add_uzb k z y0 y1) (s, l, y0, y1) ∧ Nm W s l y := by
  obtain ⟨s, l, h1, h2, h3⟩ := sum0_ev y0 z y1 hy ny.c
  rw [ny.z] at h2
  refine ⟨s, l, Rn.up (f := fun k => Fbig_Int_Add_uzb k z y0 y1) (Rn.bind h1 (Rn.pure _)), h2.cast ?_⟩
  simp [V]
theorem W3 : (W ^ 3 : Int) = 79228162514264337593543950336 := by decide
theorem sum_abs : ∀ l : List Int, (∀ v ∈ l, okV v) → -(2000000000000000000 * (l.length : Int)) ≤ l.sum ∧ l.sum ≤ 2000000000000000000 * (l.length : Int)
  | [], _ => by simp
  | x :: l, h => by
    have h1 := h x (List.mem_cons_self ..)
    have h2 := sum_abs l (fun v hv => h v (List.mem_cons_of_mem _ hv))
    unfold okV at h1
    rw [List.sum_cons, List.length_cons]
    omega
theorem mean_loop (row l : List Int) (hl : l.length ≤ 2000) (ok : ∀ v ∈ l, okV v) (b1 b2 : Bool) (n1 n2 : Nat) : ∀ (d i : Nat) (s : Bool) (z a1 a2 : List Int) (p : Int), i + d = l.length → Nm W s z p → z.length ≤ 2 + i → p = (l.take i).sum →
    ∃ s' z' c1 c2, Rl (fun k q => Lprobe_Mean_0 k q (.inr (row, l, (l.length : Int), (i : Int), b1, n1, b2, n2, s, z, a1, a2))) (.inr (row, b1, n1, b2, n2, s', z', c1, c2)) ∧ Nm W s' z' l.sum := by
  intro d
  induction d with
  | zero =>
    intro i s z a1 a2 p e nz hz hp
    obtain rfl : i = l.length := by omega
    refine ⟨s, z, a1, a2, Rl.up (f := fun k q => Lprobe_Mean_0 k q (.inr (row, l, (l.length : Int), (l.length : Int), b1, n1, b2, n2, s, z, a1, a2))) ?_, nz.cast (by rw [hp, List.take_length])⟩
    show Rl (fun k q => Lprobe_Mean_0s k (Lprobe_Mean_0 k q) _) _
    unfold Lprobe_Mean_0s
    show Rl (fun k q => if (decide ((l.length : Int) < (l.length : Int))) = true then _ else _) _
    exact Rl.f (by simp) (Rl.pure _)
  | succ d ih =>
    intro i s z a1 a2 p e nz hz hp
    have hi : i < l.length := by omega
    have eg : l[i]? = some l[i] := List.getElem?_eq_getElem hi
    have hv := ok _ (List.getElem_mem hi)
    have et : l.take (i + 1) = l.take i ++ [l[i]] := by rw [List.take_add_one, eg]; rfl
    generalize l[i] = v at eg hv et
    unfold okV at hv
    obtain ⟨w, c1, c2, c3⟩ := NewInt_ev v (by omega)
    obtain ⟨s1, z1, d1, d2, d3⟩ := Add2_ev s (decide (v < 0)) z w nz c2 (by omega) (by omega)
    obtain ⟨s', z', e1, e2, f1, f2⟩ := ih (i + 1) s1 z1 a1 a2 (p + v) (by omega) d2 (by omega) (by rw [et, List.sum_append, ← hp]; simp)
    have hrec : ∀ y1 y2 : List Int, ∃ c1 c2, Rl (fun k q => Lprobe_Mean_0 k q (.inr (row, l, (l.length : Int), ((i + 1 : Nat) : Int), b1, n1, b2, n2, s1, z1, y1, y2))) (.inr (row, b1, n1, b2, n2, s', z', c1, c2)) := by
      intro y1 y2
      obtain ⟨s2, z2, g1, g2, k1, k2⟩ := ih (i + 1) s1 z1 y1 y2 (p + v) (by omega) d2 (by omega) (by rw [et, List.sum_append, ← hp]; simp)
      obtain ⟨rfl, rfl⟩ := Nm.ext (B := W) (by decide) k2 f2
      exact ⟨g1, g2, k1⟩
    obtain ⟨g1, g2, k1⟩ := hrec _ _
    refine ⟨s', z', g1, g2, Rl.up (f := fun k q => Lprobe_Mean_0 k q (.inr (row, l, (l.length : Int), (i : Int), b1, n1, b2, n2, s, z, a1, a2))) ?_, f2⟩
    show Rl (fun k q => Lprobe_Mean_0s k (Lprobe_Mean_0 k q) _) _
    unfold Lprobe_Mean_0s
    show Rl (fun k q => if (decide ((i : Int) < (l.length : Int))) = true then if (0 : Int) ≤ (i : Int) then Option.bind l[(i : Int).toNat]? _ else none else _) _
    refine Rl.t (by rw [decide_eq_true_eq]; omega) (Rl.t (by omega) (Rl.at (by rw [Int.toNat_natCast]; exact eg) (Rl.bind c1 (Rl.bind d1 ?_))))
    show Rl (fun k q => Lprobe_Mean_0 k q (.inr (row, l, (l.length : Int), IntKind.i64.wrap ((i : Int) + 1), b1, n1, b2, n2, s1, z1, _, _))) _
    rw [wrap_i64 (x := (i : Int) + 1) (by omega)]
    exact k1
theorem mean_ev (row : List Int) (hl : row.length ≤ 2000) (hk : lookV row = 0) : ∃ s p t r, Rn (fun k => Fprobe_Mean k row) (s, p, t, r, 0) ∧ Fr s p t r (Rat.divInt row.sum row.length) ∧ p.length ≤ 3 ∧ r.length ≤ 2 ∧ 0 < row.length ∧ ∀ v ∈ row, okV v := by
  have hno : row.any outV = false ∧ row.length ≠ 0 := by
    unfold lookV at hk
    cases h : row.any outV
    · rw [h, if_neg (by decide)] at hk
      exact ⟨rfl, fun e => by rw [if_pos e] at hk; omega⟩
    · rw [h, if_pos rfl] at hk; omega
  have ok : ∀ v ∈ row, okV v := fun v hv => outV_f.1 (Bool.eq_false_iff.2 (List.any_eq_false.1 hno.1 v hv))
  have hsum := sum_abs row ok
  have hi : 0 < row.length := by omega
  have eg : row[0]? = some row[0] := List.getElem?_eq_getElem hi
  have hv := ok _ (List.getElem_mem hi)
  have et : row.take 1 = [row[0]] := by rw [show (1 : Nat) = 0 + 1 from rfl, List.take_add_one, eg]; rfl
  generalize row[0] = v at eg hv et
  unfold okV at hv
  obtain ⟨w, c1, c2, c3⟩ := NewInt_ev v (by omega)
  obtain ⟨s1, z1, d1, d2⟩ := Add0_ev false (decide (v < 0)) w c2 (by omega)
  have hz1 : z1.length ≤ 2 := nm_len d2 2 (by rw [W2]; omega)
  have hrec : ∀ y1 y2 : List Int, ∃ s' z' g1 g2, Rl (fun k q => Lprobe_Mean_0 k q (.inr (row, row, (row.length : Int), ((1 : Nat) : Int), false, 0, false, 0, s1, z1, y1, y2))) (.inr (row, false, 0, false, 0, s', z', g1, g2)) ∧ Nm W s' z' row.sum := fun y1 y2 =>
    mean_loop row row hl ok false false 0 0 (row.length - 1) 1 s1 z1 y1 y2 v (by omega) d2 (by omega) (by rw [et]; simp)
  obtain ⟨s', z', g1, g2, f1, f2⟩ := hrec _ _
  have hz' : z'.length ≤ 3 := nm_len f2 3 (by rw [W3]; omega)
  have h0 : Rl (fun k q => Lprobe_Mean_0 k q (.inl (row, row, (row.length : Int), 0, false, 0, false, 0, false, [], []))) (.inr (row, false, 0, false, 0, s', z', g1, g2)) := by
    refine Rl.up (f := fun k q => Lprobe_Mean_0 k q (.inl (row, row, (row.length : Int), 0, false, 0, false, 0, false, [], []))) ?_
    show Rl (fun k q => Lprobe_Mean_0s k (Lprobe_Mean_0 k q) _) _
    unfold Lprobe_Mean_0s
    show Rl (fun k q => if (decide ((0 : Int) < (row.length : Int))) = true then if (0 : Int) ≤ (0 : Int) then Option.bind row[(0 : Int).toNat]? _ else none else _) _
    refine Rl.t (by rw [decide_eq_true_eq]; omega) (Rl.t (by omega) (Rl.at (by exact eg) (Rl.bind c1 (Rl.bind d1 ?_))))
    exact f1
  obtain ⟨m, e1, e2, e3⟩ := NewInt_ev row.length (by omega)
  obtain ⟨s, p, t, r, q1, q2, q3, q4⟩ := Frac_ev s' (decide ((row.length : Int) < 0)) z' m f2 e2 (by omega) (by omega) (by omega)
  refine ⟨s, p, t, r, Rn.up (f := fun k => Fprobe_Mean k row) ?_, q2, by omega, by omega, hi, ok⟩
  show Rn (fun k => bprobe_Mean k row) _
  unfold bprobe_Mean
  refine Rn.bind (lookV_ev row (by omega)) (Rn.f (by simp [hk]) (Rn.bind h0.diag ?_))
  show Rn (fun k => Option.bind (Fbig_NewInt k (row.length : Int)) _) _
  exact Rn.bind e1 (Rn.bind q1 (Rn.bind (wFrac_ev q2 (show p.length ≤ 1000000 by omega) (show r.length ≤ 1000000 by omega)) (Rn.pure _)))
end Go.Proofs.YtlnailgfialgnaaGreatDoor.Am

/- Plain reckoning: the least common multiple of denominators. -/
set_option linter.unusedVariables false
set_option linter.unusedSectionVars false
set_option linter.unusedSimpArgs false
set_option maxRecDepth 10000
namespace Go.Proofs.YtlnailgfialgnaaGreatDoor.Am
open Go

/-- A denominator, as a number. -/
def RT.d (r : RT) : Nat := (Zv W r.2.1 r.2.2).toNat
theorem RT.pos {r : RT} (hg : r.good) (h : r.f = 0) : 0 < r.d ∧ r.2.2.length ≤ 72 ∧ Nm W r.2.1 r.2.2 (r.d : Int) := by
  obtain ⟨q, h1, h2, h3⟩ := fault_fr hg.1.2 hg.2.2 h
  have e : Zv W r.2.1 r.2.2 = q.den := h1.2.z
  have p := Rat.den_pos' q
  have ed : r.d = q.den := by unfold RT.d; rw [e]; rfl
  rw [ed]
  exact ⟨by omega, h3, h1.2⟩
end Go.Proofs.YtlnailgfialgnaaGreatDoor.Am

/- Plain reckoning: the reference's fractions. -/
set_option linter.unusedVariables false
set_option linter.unusedSectionVars false
set_option linter.unusedSimpArgs false
set_option maxRecDepth 10000
namespace Go.Proofs.YtlnailgfialgnaaGreatDoor.Am
open Go

def FrU (n0 : Bool) (n1 : List Int) (d0 : Bool) (d1 : List Int) (q : Rat) : Prop := Nm U n0 n1 q.num ∧ Nm U d0 d1 (q.den : Int)
theorem FrU.cast {n0 : Bool} {n1 : List Int} {d0 : Bool} {d1 : List Int} {q q' : Rat} (h : FrU n0 n1 d0 d1 q) (e : q = q') : FrU n0 n1 d0 d1 q' := e ▸ h
section
variable {n0 d0 : Bool} {n1 d1 : List Int} (la : n1.length ≤ 9223372036854775807) (lb : d1.length ≤ 9223372036854775807) (da : Dg W n1) (db : Dg W d1)
include la lb da db
end
end Go.Proofs.YtlnailgfialgnaaGreatDoor.Am

/- Plain reckoning: which waves are right. -/
set_option linter.unusedVariables false
set_option linter.unusedSectionVars false
set_option linter.unusedSimpArgs false
set_option maxRecDepth 10000
namespace Go.Proofs.YtlnailgfialgnaaGreatDoor.Am
open Go

/-- A right wave. -/
structure OkW (w0 : Int) (w1 : List (Int × Int)) (w2 : List Int) : Prop where
  vals : ∀ j, 0 ≤ j → j < w1.length → okN (w1.getD j (0, 0)).1 (w1.getD j (0, 0)).2 = true
  steps : ∀ j, 0 ≤ j → j < w2.length → 0 ≤ w2.getD j 0 ∧ w2.getD j 0 ≤ 1000000000
  kind : w0 = 1 ∧ w1.length = 1 ∧ w2.length = 0 ∨ w0 = 2 ∧ w1.length = 2 ∧ w2.length = 5 ∧ 1 ≤ w2.getD 4 0 ∧ w2.getD 1 0 + w2.getD 2 0 + w2.getD 3 0 ≤ w2.getD 4 0 ∨
    w0 = 3 ∧ w1.length = w2.length ∧ 1 ≤ w1.length ∧ w1.length ≤ 16 ∧ (∀ j, 1 ≤ j → j < w2.length → w2.getD (j - 1) 0 < w2.getD j 0) ∨ w0 = 4 ∧ 1 ≤ w1.length ∧ w1.length ≤ 16 ∧ w2.length = 0
section
variable (w0 : Int) (w1 : List (Int × Int)) (w2 : List Int) (h1 : w1.length ≤ 1000000000000000000) (h2 : w2.length ≤ 1000000000000000000)
include h1 h2
end
end Go.Proofs.YtlnailgfialgnaaGreatDoor.Am

/- Plain reckoning: what a wave says. -/
set_option linter.unusedVariables false
set_option linter.unusedSectionVars false
set_option linter.unusedSimpArgs false
set_option maxRecDepth 10000
namespace Go.Proofs.YtlnailgfialgnaaGreatDoor.Am
open Go

def valQ (w1 : List (Int × Int)) (j : Nat) : Rat := numQ (w1.getD j (0, 0)).1 (w1.getD j (0, 0)).2
section
variable {w0 : Int} {w1 : List (Int × Int)} {w2 : List Int} (hw : OkW w0 w1 w2) {step : Int} (h0 : 0 ≤ step) (h1 : step ≤ 1000000000)
include hw h0 h1
end
end Go.Proofs.YtlnailgfialgnaaGreatDoor.Am

/- Plain reckoning: names, and which models are right. -/
set_option linter.unusedVariables false
set_option linter.unusedSectionVars false
set_option linter.unusedSimpArgs false
set_option maxRecDepth 10000
namespace Go.Proofs.YtlnailgfialgnaaGreatDoor.Am
open Go
/-- A name's byte. -/
def nmB (x : Int) : Bool := decide (97 ≤ x ∧ x ≤ 122 ∨ 48 ≤ x ∧ x ≤ 57 ∨ x = 95)
/-- A text's bytes. -/
def byL (s : ByteArray) : List Int := s.data.toList.map fun b : UInt8 => ((b.toNat : Nat) : Int)
/-- Is it a name? -/
def nameOk (s : ByteArray) : Bool := (byL s).all nmB && decide (1 ≤ s.size ∧ s.size ≤ 16)
end Go.Proofs.YtlnailgfialgnaaGreatDoor.Am

/- Plain reckoning: which models are right, by the program and by the reference. -/
set_option linter.unusedVariables false
set_option linter.unusedSectionVars false
set_option linter.unusedSimpArgs false
set_option maxRecDepth 10000
namespace Go.Proofs.YtlnailgfialgnaaGreatDoor.Am
open Go
/-- All numbers of a list are right. -/
def AllN (l : List (Int × Int)) : Prop := ∀ j, 0 ≤ j → j < l.length → okN (l.getD j (0, 0)).1 (l.getD j (0, 0)).2 = true
/-- A right model. -/
structure OkM (m1 : Int) (m2 m3 : List (Int × Int)) : Prop where
  gs : AllN m2
  vs : AllN m3
  kind : m1 = 115 ∧ m2.length = 2 ∧ m3.length = 1 ∨ m1 = 100 ∧ 1 ≤ m2.length ∧ m2.length ≤ 4 ∧ m3.length + 1 = m2.length ∧ ∀ j, 1 ≤ j → j < m3.length → valQ m3 (j - 1) < valQ m3 j
noncomputable def okM (m0 : ByteArray) (m1 : Int) (m2 m3 : List (Int × Int)) : Bool := nameOk m0 && @decide (OkM m1 m2 m3) (Classical.propDecidable _)
section
variable (m0 : ByteArray) (m1 : Int) (m2 m3 : List (Int × Int)) (h0 : m0.size ≤ 1000000000000000000) (h2 : m2.length ≤ 1000000000000000000) (h3 : m3.length ≤ 1000000000000000000)
include h0 h2 h3
end
end Go.Proofs.YtlnailgfialgnaaGreatDoor.Am

/- Plain reckoning: rounds enough, and what rows of digits are worth. -/
import Derived.Test.YtghdpmejgonjmaaAmEv
set_option linter.unusedVariables false
set_option linter.unusedSimpArgs false
namespace Go.Proofs.Ytghdpmejgonjmaa.Am

/-- With rounds enough the answer is r. -/
def Rn {α : Type} (f : Nat → Option α) (r : α) : Prop := ∃ K, ∀ k, K ≤ k → f k = some r
/-- The same, where a loop's rounds count for themselves. -/
def Rl {α : Type} (f : Nat → Nat → Option α) (r : α) : Prop := ∃ K, ∀ k n, K ≤ k → K ≤ n → f k n = some r
section
variable {α β γ : Type}
theorem Rn.pure (r : α) : Rn (fun _ => some r) r := ⟨0, fun _ _ => rfl⟩
theorem Rn.eq {f : Nat → Option α} {r : α} (K : Nat) (h : ∀ k, K ≤ k → f k = some r) : Rn f r := ⟨K, h⟩
theorem Rn.bind {f : Nat → Option α} {g : Nat → α → Option β} {x : α} {r : β} (h1 : Rn f x) (h2 : Rn (fun k => g k x) r) : Rn (fun k => Option.bind (f k) (g k)) r := by
  obtain ⟨K1, h1⟩ := h1
  obtain ⟨K2, h2⟩ := h2
  exact ⟨max K1 K2, fun k hk => by show Option.bind (f k) (g k) = _; rw [h1 k (by omega)]; exact h2 k (by omega)⟩
/-- A function's rounds are one more than its body's. -/
theorem Rn.up {f : Nat → Option α} {r : α} (h : Rn (fun k => f (k + 1)) r) : Rn f r := by
  obtain ⟨K, h⟩ := h
  refine ⟨K + 1, fun k hk => ?_⟩
  obtain ⟨j, rfl⟩ : ∃ j, k = j + 1 := ⟨k - 1, by omega⟩
  exact h j (by omega)
theorem Rn.const {e : Option α} {r : α} (h : e = some r) : Rn (fun _ => e) r := ⟨0, fun _ _ => h⟩
theorem Rn.t {c : Prop} [Decidable c] {f g : Nat → Option α} {r : α} (h : c) (hf : Rn f r) : Rn (fun k => if c then f k else g k) r := by
  simpa only [if_pos h] using hf
theorem Rn.f {c : Prop} [Decidable c] {f g : Nat → Option α} {r : α} (h : ¬ c) (hg : Rn g r) : Rn (fun k => if c then f k else g k) r := by
  simpa only [if_neg h] using hg
theorem Rn.at {o : Option α} {g : Nat → α → Option β} {x : α} {r : β} (h : o = some x) (hg : Rn (fun k => g k x) r) : Rn (fun k => Option.bind o (g k)) r := by
  simpa only [h, Option.bind_some] using hg
theorem Rl.diag {f : Nat → Nat → Option α} {r : α} (h : Rl f r) : Rn (fun k => f k k) r := by
  obtain ⟨K, h⟩ := h
  exact ⟨K, fun k hk => h k k hk hk⟩
theorem Rl.pure (r : α) : Rl (fun _ _ => some r) r := ⟨0, fun _ _ _ _ => rfl⟩
theorem Rl.bind {f : Nat → Option α} {g : Nat → Nat → α → Option β} {x : α} {r : β} (h1 : Rn f x) (h2 : Rl (fun k n => g k n x) r) : Rl (fun k n => Option.bind (f k) (g k n)) r := by
  obtain ⟨K1, h1⟩ := h1
  obtain ⟨K2, h2⟩ := h2
  exact ⟨max K1 K2, fun k n hk hn => by show Option.bind (f k) (g k n) = _; rw [h1 k (by omega)]; exact h2 k n (by omega) (by omega)⟩
theorem Rl.up {f : Nat → Nat → Option α} {r : α} (h : Rl (fun k n => f k (n + 1)) r) : Rl f r := by
  obtain ⟨K, h⟩ := h
  refine ⟨K + 1, fun k n hk hn => ?_⟩
  obtain ⟨j, rfl⟩ : ∃ j, n = j + 1 := ⟨n - 1, by omega⟩
  exact h k j (by omega) (by omega)
theorem Rl.of {f : Nat → Nat → Option α} {r : α} (K : Nat) (h : ∀ k n, K ≤ n → f k n = some r) : Rl f r := ⟨K, fun k n _ hn => h k n hn⟩
end

theorem wrap_u32_id {x : Int} (h : 0 ≤ x ∧ x < 4294967296) : IntKind.u32.wrap x = x := by rw [wrap_u32]; omega
theorem wrap_u64_id {x : Int} (h : 0 ≤ x ∧ x < 18446744073709551616) : IntKind.u64.wrap x = x := by rw [wrap_u64]; omega
theorem wrap_u8_id {x : Int} (h : 0 ≤ x ∧ x < 256) : IntKind.u8.wrap x = x := by rw [wrap_u8]; omega
theorem fdiv_pos (x : Int) {d : Int} (h : 0 ≤ d) : x.fdiv d = x / d := by
  rw [Int.fdiv_eq_ediv_of_nonneg _ h]
theorem tdiv_pos {x d : Int} (h : 0 ≤ x) : x.tdiv d = x / d := Int.tdiv_eq_ediv_of_nonneg h
theorem tmod_pos {x d : Int} (h : 0 ≤ x) : x.tmod d = x % d := Int.tmod_eq_emod_of_nonneg h
/-- What reckons, in one. -/
theorem ps :
  (∀ {p : Prop} [inst : Decidable p], (Decidable.decide p = Bool.true) = p) ∧
  (∀ {p : Prop} {x : Decidable p}, Decidable.decide p = Bool.false ↔ ¬p) ∧
  (∀ {α : Type} [inst : BEq α] [LawfulBEq α] {a b : α}, (a == b) = Bool.true ↔ a = b) ∧
  (∀ {α : Type} [inst : BEq α] [LawfulBEq α] {a b : α}, (a != b) = Bool.true ↔ a ≠ b) ∧
  (∀ {α : Type} (a b : α), (a ≠ b) = ¬a = b) ∧
  (∀ {α : Type} [inst : LT α] {x y : α}, x > y ↔ y < x) ∧
  (∀ {α : Type} [inst : LE α] {x y : α}, x ≥ y ↔ y ≤ x) ∧
  (∀ {a b : Int}, a ≤ b → (a ≤ b) = True) ∧
  (∀ {a b : Int}, ¬a ≤ b → (a ≤ b) = False) ∧
  (∀ {a b : Int}, a < b → (a < b) = True) ∧
  (∀ {a b : Int}, ¬a < b → (a < b) = False) ∧
  (∀ {a b : Int}, a = b → (a = b) = True) ∧
  (∀ {a b : Int}, ¬a = b → (a = b) = False) ∧
  (∀ {a b : Nat}, a ≤ b → (a ≤ b) = True) ∧
  (∀ {a b : Nat}, ¬a ≤ b → (a ≤ b) = False) ∧
  (∀ {a b : Nat}, a < b → (a < b) = True) ∧
  (∀ {a b : Nat}, ¬a < b → (a < b) = False) ∧
  ((¬True) = False) ∧
  ((¬False) = True) ∧
  (∀ (p : Prop), (True ∧ p) = p) ∧
  (∀ (p : Prop), (p ∧ True) = p) ∧
  (∀ (p : Prop), (False ∧ p) = False) ∧
  (∀ (p : Prop), (p ∧ False) = False) ∧
  (∀ (p : Prop), (p ∧ p) = p) ∧
  (∀ (p : Prop), (p ∨ True) = True) ∧
  (∀ (p : Prop), (True ∨ p) = True) ∧
  (∀ (p : Prop), (p ∨ False) = p) ∧
  (∀ (p : Prop), (False ∨ p) = p) ∧
  (∀ {α β : Type} (a : α) (f : α → Option β), (Option.some a).bind f = f a) ∧
  (∀ (n : Nat), (0 : Nat) + n = n) ∧
  (∀ (n : Nat), n + (0 : Nat) = n) ∧
  (∀ (n : Nat), n - (0 : Nat) = n) ∧
  (∀ (n : Nat), (↑n : Int).toNat = n) ∧
  (Int.toNat (0 : Int) = (0 : Nat)) ∧
  (∀ {x : Int}, (-9223372036854775808 : Int) ≤ x ∧ x ≤ (9223372036854775807 : Int) → Go.IntKind.i64.wrap x = x) ∧
  (∀ {x : Int}, (0 : Int) ≤ x ∧ x < (4294967296 : Int) → Go.IntKind.u32.wrap x = x) ∧
  (∀ {x : Int}, (0 : Int) ≤ x ∧ x < (18446744073709551616 : Int) → Go.IntKind.u64.wrap x = x) ∧
  (∀ {x : Int}, (0 : Int) ≤ x ∧ x < (256 : Int) → Go.IntKind.u8.wrap x = x) ∧
  (∀ {α : Type} {l : List α}, List.take (0 : Nat) l = []) ∧
  (∀ {α : Type} (as : List α), [] ++ as = as) ∧
  (∀ {α : Type} [inst : BEq α] [ReflBEq α] (a : α), (a == a) = Bool.true) ∧
  (∀ {α : Type} [inst : BEq α] [LawfulBEq α] (a : α), (a != a) = Bool.false) ∧
  (∀ {α : Type} (a : α), (a = a) = True) ∧
  ((Bool.false = Bool.true) = False) ∧
  ((Bool.true = Bool.false) = False) ∧
  (∀ {α : Type}, ([] : List α).length = (0 : Nat)) ∧
  ((↑(0 : Nat) : Int) = (0 : Int)) ∧
  ((!Bool.true) = Bool.false) ∧
  ((!Bool.false) = Bool.true) ∧
  (∀ {α β : Type} (f : α → Option β), Option.none.bind f = Option.none) ∧
  (∀ {α : Type} [inst : BEq α] [LawfulBEq α] {a b : α}, (a != b) = Bool.false ↔ a = b) ∧
  (∀ {α : Type} [inst : BEq α] [LawfulBEq α] {a b : α}, (a == b) = Bool.false ↔ a ≠ b) ∧
  (∀ (b : Bool), ((!b) = Bool.true) = (b = Bool.false)) ∧
  (∀ (b : Bool), ((!b) = Bool.false) = (b = Bool.true)) :=
  ⟨@decide_eq_true_eq, @decide_eq_false_iff_not, @beq_iff_eq.{0}, @bne_iff_ne.{0}, @ne_eq.{1}, @gt_iff_lt.{0}, @ge_iff_le.{0}, @ile_t, @ile_f, @ilt_t, @ilt_f, @ieq_t, @ieq_f, @nle_t, @nle_f, @nlt_t, @nlt_f, @not_true_eq_false, @not_false_eq_true, @true_and, @and_true, @false_and, @and_false, @and_self, @or_true, @true_or, @or_false, @false_or, @Option.bind_some.{0,0}, @Nat.zero_add, @Nat.add_zero, @Nat.sub_zero, @Int.toNat_natCast, @Int.toNat_zero, @wrap_i64, @wrap_u32_id, @wrap_u64_id, @wrap_u8_id, @List.take_zero.{0}, @List.nil_append.{0}, @beq_self_eq_true.{0}, @bne_self_eq_false.{0}, @eq_self.{1}, @Bool.false_eq_true, @Bool.true_eq_false, @List.length_nil.{0}, @Int.natCast_zero, @Bool.not_true, @Bool.not_false, @Option.bind_none.{0,0}, @bne_eq_false_iff_eq.{0}, @beq_eq_false_iff_ne.{0}, @Bool.not_eq_true', @Bool.not_eq_false'⟩
/-- The lower words and a higher one, as one. -/
theorem or_add {x y : Int} (hx : 0 ≤ x ∧ x < 4294967296) (hy : 0 ≤ y ∧ y < 4294967296) :
    ((BitVec.toNat ((BitVec.ofInt 64 (x * 4294967296)) ||| (BitVec.ofInt 64 y)) : Nat) : Int) = x * 4294967296 + y := by
  obtain ⟨a, rfl⟩ := Int.eq_ofNat_of_zero_le hx.1
  obtain ⟨b, rfl⟩ := Int.eq_ofNat_of_zero_le hy.1
  have h1 : (BitVec.ofInt 64 ((a : Int) * 4294967296)).toNat = a <<< 32 := by
    rw [BitVec.toNat_ofInt, Nat.shiftLeft_eq]
    have : ((a : Int) * 4294967296) = ((a * 2 ^ 32 : Nat) : Int) := by simp
    rw [this]
    have ha : a * 2 ^ 32 < 2 ^ 64 := by omega
    omega
  have h2 : (BitVec.ofInt 64 (b : Int)).toNat = b := by
    rw [BitVec.toNat_ofInt]
    omega
  rw [BitVec.toNat_or, h1, h2, ← Nat.shiftLeft_add_eq_or_of_lt (by omega : b < 2 ^ 32), Nat.shiftLeft_eq]
  simp
theorem and_low {x : Int} (hx : 0 ≤ x ∧ x < 18446744073709551616) : ((BitVec.toNat ((BitVec.ofInt 64 x) &&& (BitVec.ofInt 64 4294967295)) : Nat) : Int) = x % 4294967296 := by
  obtain ⟨a, rfl⟩ := Int.eq_ofNat_of_zero_le hx.1
  have h1 : (BitVec.ofInt 64 (a : Int)).toNat = a := by rw [BitVec.toNat_ofInt]; omega
  have h2 : (BitVec.ofInt 64 (4294967295 : Int)).toNat = 2 ^ 32 - 1 := by decide
  rw [BitVec.toNat_and, h1, h2, Nat.and_two_pow_sub_one_eq_mod]
  omega

/-- What digits are worth, the lowest first. -/
def V (B : Int) : List Int → Int
  | [] => 0
  | x :: r => x + B * V B r
/-- Digits of the base. -/
def Dg (B : Int) (l : List Int) : Prop := ∀ x ∈ l, 0 ≤ x ∧ x < B
/-- Without the noughts at the end. -/
def tl : List Int → List Int
  | [] => []
  | x :: r => if x = 0 ∧ tl r = [] then [] else x :: tl r
theorem tl_snoc (l : List Int) (x : Int) : tl (l ++ [x]) = if x = 0 then tl l else l ++ [x] := by
  induction l with
  | nil => by_cases h : x = 0 <;> simp [tl, h]
  | cons y l ih =>
    simp only [List.cons_append, tl, ih]
    by_cases h : x = 0
    · simp [h]
    · simp [h]
theorem tl_len (l : List Int) : (tl l).length ≤ l.length := by
  induction l with
  | nil => exact Nat.le_refl _
  | cons x r ih => simp only [tl]; split <;> simp; omega
theorem tl_take (l : List Int) : l.take (tl l).length = tl l := by
  induction l with
  | nil => rfl
  | cons x r ih =>
    simp only [tl]
    split
    · rfl
    · simp [ih]
theorem tl_tl (l : List Int) : tl (tl l) = tl l := by
  induction l with
  | nil => rfl
  | cons x r ih =>
    simp only [tl]
    split
    · rfl
    · rename_i h
      simp only [tl, ih]
      rw [if_neg h]
section
variable {B : Int}
theorem V_append (l m : List Int) : V B (l ++ m) = V B l + B ^ l.length * V B m := by
  induction l with
  | nil => simp [V]
  | cons x l ih =>
    simp only [List.cons_append, V, ih, List.length_cons, Int.pow_succ]
    rw [Int.mul_add, Int.add_assoc, Int.mul_comm (B ^ l.length) B, Int.mul_assoc]
theorem V_snoc (l : List Int) (x : Int) : V B (l ++ [x]) = V B l + B ^ l.length * x := by rw [V_append]; simp [V]
theorem Dg.nil : Dg B [] := fun x h => by cases h
theorem Dg.cons {x : Int} {l : List Int} (h : 0 ≤ x ∧ x < B) (hl : Dg B l) : Dg B (x :: l) := fun y hy => by
  rcases List.mem_cons.1 hy with rfl | hy
  · exact h
  · exact hl y hy
theorem Dg.tail {x : Int} {l : List Int} (h : Dg B (x :: l)) : Dg B l := fun y hy => h y (List.mem_cons_of_mem _ hy)
theorem Dg.head {x : Int} {l : List Int} (h : Dg B (x :: l)) : 0 ≤ x ∧ x < B := h x (List.mem_cons_self ..)
theorem Dg.append {l m : List Int} (h1 : Dg B l) (h2 : Dg B m) : Dg B (l ++ m) := fun y hy => by
  rcases List.mem_append.1 hy with hy | hy
  · exact h1 y hy
  · exact h2 y hy
theorem Dg.snoc {x : Int} {l : List Int} (hl : Dg B l) (h : 0 ≤ x ∧ x < B) : Dg B (l ++ [x]) := hl.append (Dg.cons h Dg.nil)
theorem Dg.take {l : List Int} (h : Dg B l) (n : Nat) : Dg B (l.take n) := fun y hy => h y (List.mem_of_mem_take hy)
theorem Dg.drop {l : List Int} (h : Dg B l) (n : Nat) : Dg B (l.drop n) := fun y hy => h y (List.mem_of_mem_drop hy)
theorem Dg.get {l : List Int} (h : Dg B l) {i : Nat} {x : Int} (e : l[i]? = some x) : 0 ≤ x ∧ x < B := h x (List.mem_of_getElem? e)
theorem Dg.rep (n : Nat) (h : 0 < B) : Dg B (List.replicate n 0) := fun y hy => by
  rw [(List.mem_replicate.1 hy).2]; omega
theorem Dg.set {l : List Int} (h : Dg B l) (i : Nat) {x : Int} (hx : 0 ≤ x ∧ x < B) : Dg B (l.set i x) := fun y hy => by
  rcases List.mem_or_eq_of_mem_set hy with hy | rfl
  · exact h y hy
  · exact hx
theorem Dg.tl {l : List Int} (h : Dg B l) : Dg B (tl l) := by rw [← tl_take]; exact h.take _
theorem V_nonneg (hB : 0 ≤ B) {l : List Int} (h : Dg B l) : 0 ≤ V B l := by
  induction l with
  | nil => exact Int.le_refl _
  | cons x l ih => have := Int.mul_nonneg hB (ih h.tail); have := h.head; simp only [V]; omega
theorem V_lt (hB : 0 < B) {l : List Int} (h : Dg B l) : V B l < B ^ l.length := by
  induction l with
  | nil => simp [V]
  | cons x l ih =>
    have h1 := ih h.tail
    have h2 := h.head
    have h3 : B * (V B l + 1) ≤ B * B ^ l.length := Int.mul_le_mul_of_nonneg_left (by omega) (by omega)
    simp only [V, List.length_cons, Int.pow_succ]
    rw [Int.mul_add] at h3
    rw [Int.mul_comm (B ^ l.length) B]
    omega
theorem V_rep (n : Nat) : V B (List.replicate n 0) = 0 := by
  induction n with
  | zero => rfl
  | succ n ih => simp [List.replicate_succ, V, ih]
theorem V_tl (l : List Int) : V B (tl l) = V B l := by
  induction l with
  | nil => rfl
  | cons x l ih =>
    simp only [tl]
    split
    · rename_i h
      rw [h.2] at ih
      simp only [V] at ih ⊢
      rw [← ih, h.1]; simp
    · simp only [V, ih]
/-- Digits in the one form. -/
def Cn (B : Int) (l : List Int) : Prop := Dg B l ∧ tl l = l
theorem Cn.of {l : List Int} (h : Dg B l) : Cn B (tl l) := ⟨h.tl, tl_tl l⟩
theorem Cn.nil : Cn B [] := ⟨Dg.nil, rfl⟩
theorem Cn.tail {x : Int} {l : List Int} (h : Cn B (x :: l)) : Cn B l := by
  refine ⟨h.1.tail, ?_⟩
  have := h.2
  simp only [tl] at this
  split at this
  · cases this
  · simpa using this
theorem Cn.pos {x : Int} {l : List Int} (hB : 0 < B) (h : Cn B (x :: l)) : 0 < V B (x :: l) := by
  induction l generalizing x with
  | nil =>
    have h1 := h.1.head
    have h2 := h.2
    simp only [tl, and_true] at h2
    simp only [V, Int.mul_zero, Int.add_zero]
    split at h2
    · cases h2
    · omega
  | cons y l ih =>
    have := ih h.tail
    have := Int.mul_pos hB this
    have := h.1.head
    rw [V]
    omega
theorem Cn.ext (hB : 0 < B) : ∀ {l m : List Int}, Cn B l → Cn B m → V B l = V B m → l = m := by
  intro l
  induction l with
  | nil =>
    intro m h1 h2 e
    cases m with
    | nil => rfl
    | cons y m => have := h2.pos hB; rw [← e] at this; simp [V] at this
  | cons x l ih =>
    intro m h1 h2 e
    cases m with
    | nil => have := h1.pos hB; rw [e] at this; simp [V] at this
    | cons y m =>
      have hx := h1.1.head
      have hy := h2.1.head
      simp only [V] at e
      have e1 : x = y := by
        have a1 : (x + B * V B l) % B = x := by rw [Int.add_mul_emod_self_left]; exact Int.emod_eq_of_lt hx.1 hx.2
        have a2 : (y + B * V B m) % B = y := by rw [Int.add_mul_emod_self_left]; exact Int.emod_eq_of_lt hy.1 hy.2
        rw [← a1, ← a2, e]
      subst e1
      have e2 : B * V B l = B * V B m := by omega
      have e3 := Int.eq_of_mul_eq_mul_left (by omega) e2
      rw [ih h1.tail h2.tail e3]
theorem Cn.nil_iff (hB : 0 < B) {l : List Int} (h : Cn B l) : l = [] ↔ V B l = 0 := by
  constructor
  · rintro rfl; rfl
  · intro e; exact Cn.ext hB h Cn.nil e
/-- The last digit isn't 0. -/
theorem Cn.last {l : List Int} (h : Dg B l) : tl l = l ↔ l = [] ∨ ∃ m x, l = m ++ [x] ∧ x ≠ 0 := by
  rcases List.eq_nil_or_concat l with rfl | ⟨m, x, rfl⟩
  · simp [tl]
  · simp only [List.concat_eq_append, tl_snoc]
    constructor
    · intro e
      refine .inr ⟨m, x, rfl, fun h0 => ?_⟩
      rw [if_pos h0] at e
      have := tl_len m
      rw [e] at this
      simp at this
      omega
    · rintro (e | ⟨m', x', e, h0⟩)
      · simp at e
      · obtain ⟨h1, h2⟩ := List.append_inj' e rfl
        simp only [List.cons.injEq, and_true] at h2
        rw [h2, if_neg h0]
/-- Long numbers are great. -/
theorem Cn.ge (hB : 0 < B) {l : List Int} (h : Cn B l) (h0 : l ≠ []) : B ^ (l.length - 1) ≤ V B l := by
  rcases (Cn.last h.1).1 h.2 with e | ⟨m, x, rfl, hx⟩
  · exact absurd e h0
  · have h1 := h.1 x (by simp)
    have h2 : Dg B m := fun y hy => h.1 y (by simp [hy])
    have h3 := V_nonneg (by omega) h2
    rw [V_snoc]
    have hp : 0 < B ^ m.length := Int.pow_pos hB
    have h4 : B ^ m.length * 1 ≤ B ^ m.length * x := Int.mul_le_mul_of_nonneg_left (by omega) (by omega)
    simp only [List.length_append, List.length_cons, List.length_nil, Nat.zero_add, Nat.add_sub_cancel]
    omega
theorem pow_mono (hB : 1 ≤ B) {a b : Nat} (h : a ≤ b) : B ^ a ≤ B ^ b := by
  obtain ⟨c, rfl⟩ := Nat.exists_eq_add_of_le h
  rw [Int.pow_add]
  have h1 : 0 < B ^ a := Int.pow_pos (by omega)
  have h2 : (1 : Int) ≤ B ^ c := by have : 0 < B ^ c := Int.pow_pos (by omega); omega
  have := Int.mul_le_mul_of_nonneg_left h2 (Int.le_of_lt h1)
  omega
theorem Cn.len_lt (hB : 1 < B) {l m : List Int} (h1 : Cn B l) (h2 : Cn B m) (h : l.length < m.length) : V B l < V B m := by
  have a := V_lt (by omega) h1.1
  have b := h2.ge (by omega) (by rintro rfl; simp at h)
  have c := pow_mono (B := B) (by omega) (show l.length ≤ m.length - 1 by omega)
  omega
/-- How many digits there are. -/
theorem Cn.len_le (hB : 1 < B) {l : List Int} (h : Cn B l) (n : Nat) : l.length ≤ n ↔ V B l < B ^ n := by
  constructor
  · intro e
    have a := V_lt (by omega) h.1
    have c := pow_mono (B := B) (by omega) e
    omega
  · intro e
    by_cases h0 : l = []
    · simp [h0]
    · have b := h.ge (by omega) h0
      refine Nat.le_of_not_lt fun hlt => ?_
      have c := pow_mono (B := B) (by omega) (show n ≤ l.length - 1 by omega)
      omega
theorem V_take_succ {l : List Int} {i : Nat} {x : Int} (e : l[i]? = some x) : V B (l.take (i + 1)) = V B (l.take i) + B ^ i * x := by
  rw [List.take_add_one, e]
  have : (l.take i).length = i := by rw [List.length_take]; have := (List.getElem?_eq_some_iff.1 e).1; omega
  simp only [Option.toList_some]
  rw [V_snoc, this]
theorem V_split (l : List Int) (i : Nat) (h : i ≤ l.length) : V B l = V B (l.take i) + B ^ i * V B (l.drop i) := by
  conv => lhs; rw [← List.take_append_drop i l, V_append, List.length_take, Nat.min_eq_left h]
theorem V_drop {l : List Int} {i : Nat} {x : Int} (e : l[i]? = some x) : V B (l.drop i) = x + B * V B (l.drop (i + 1)) := by
  obtain ⟨h, rfl⟩ := List.getElem?_eq_some_iff.1 e
  rw [List.drop_eq_getElem_cons h]
  rfl
end
theorem get_of {l : List Int} {i : Nat} (h : i < l.length) : ∃ x, l[i]? = some x := ⟨l[i], List.getElem?_eq_getElem h⟩
theorem set_take_succ (l : List Int) (i : Nat) (x : Int) (h : i < l.length) : (l.set i x).take (i + 1) = l.take i ++ [x] := by
  rw [List.take_add_one, List.take_set_of_le (Nat.le_refl i), List.getElem?_set_self h]
  rfl

/-- A signed number: its sign and its digits in the one form. -/
structure Nm (B : Int) (s : Bool) (l : List Int) (z : Int) : Prop where
  c : Cn B l
  sg : s = true → l ≠ []
  z : (if s then -(V B l) else V B l) = z
theorem Nm.cast {B : Int} {s : Bool} {l : List Int} {z z' : Int} (h : Nm B s l z) (e : z = z') : Nm B s l z' := e ▸ h
theorem Nm.ext {B : Int} (hB : 0 < B) {s t : Bool} {l m : List Int} {z : Int} (h1 : Nm B s l z) (h2 : Nm B t m z) : s = t ∧ l = m := by
  have p1 := V_nonneg (B := B) (by omega) h1.c.1
  have p2 := V_nonneg (B := B) (by omega) h2.c.1
  have q1 := h1.c.nil_iff hB
  have q2 := h2.c.nil_iff hB
  have e1 := h1.z
  have e2 := h2.z
  have s1 := h1.sg
  have s2 := h2.sg
  cases s <;> cases t
  · refine ⟨rfl, Cn.ext hB h1.c h2.c ?_⟩
    simp at e1 e2; omega
  · have := s2 rfl
    simp at e1 e2
    exact absurd (q2.2 (by omega)) this
  · have := s1 rfl
    simp at e1 e2
    exact absurd (q1.2 (by omega)) this
  · refine ⟨rfl, Cn.ext hB h1.c h2.c ?_⟩
    simp at e1 e2; omega
theorem Nm.abs {B : Int} (hB : 0 < B) {s : Bool} {l : List Int} {z : Int} (h : Nm B s l z) : V B l = z.natAbs := by
  have p := V_nonneg (B := B) (by omega) h.c.1
  have := h.z
  cases s <;> simp at this <;> omega
theorem Nm.neg {B : Int} (hB : 0 < B) {s : Bool} {l : List Int} {z : Int} (h : Nm B s l z) : s = decide (z < 0) := by
  have p := V_nonneg (B := B) (by omega) h.c.1
  have e := h.z
  cases s
  · simp at e
    rw [eq_comm, decide_eq_false_iff_not]; omega
  · have := h.sg rfl
    have q := mt (h.c.nil_iff hB).2 this
    simp at e
    rw [eq_comm, decide_eq_true_eq]; omega
theorem Nm.of {B : Int} (hB : 0 < B) {l : List Int} (h : Cn B l) {z : Int} (e : V B l = z.natAbs) : Nm B (decide (z < 0)) l z := by
  have p := V_nonneg (B := B) (by omega) h.1
  refine ⟨h, fun hs h0 => ?_, ?_⟩
  · have := (h.nil_iff hB).1 h0
    simp at hs; omega
  · by_cases hz : z < 0
    · simp [hz]; omega
    · simp [hz]; omega
end Go.Proofs.Ytghdpmejgonjmaa.Am
